/- Contracts of the program's tokens and of what they ask o -/
import Derived.Test.YtjfjmpkibcmnpaaGreatM3
import Derived.Shelf.Sort.Plain
import Derived.Shelf.Slices.In.SortNone
import Derived.Shelf.Slices.Delete
import Derived.Shelf.SlMaps.Clone
import Derived.IntWalk
set_option maxRecDepth 100000
set_option linter.unusedVariables false
set_option linter.unusedSimpArgs false
set_option maxHeartbeats 16000000
namespace Go.Vc
open Go
theorem aN.ptr{P:Program}{f:Nat}{t:Ty}{ts:List Ty}{out:Out}{pre:mC (.ref t::ts)->Prop}{fn:mC (.ref t::ts)->mC out.Lb}{pre':mC (.ptr t::ts)->Prop}(h:aN P f ⟨.ref t::ts,out,pre,fn⟩)(hp:∀x:mC (.ptr t::ts),pre' x->∃y,x.1=some y/\pre (y,x.2)):aN P f ⟨.ptr t::ts,out,pre',fun x=>fn (x.1.getD t.yx,x.2)⟩where fn:=h.fn;calls F w x vs hF hx oa:=by obtain⟨y,hy,hq⟩:=hp x oa;obtain⟨x1,x2⟩:=x;have hy:x1=some y:=hy;subst hy;obtain⟨v,us,rfl,h1,h2⟩:=hx;refine h.calls F w (y,x2) (v::us) hF ⟨v,us,rfl,?_,h2⟩ hq;have h1:dL F (.ptr t) (some y) [v]:=h1;rcases h1 with⟨h,_⟩|⟨y',XD,b,off,k⟩;cases h;cases XD;exact⟨b,off,k⟩
end Go.Vc
namespace Go.Proofs
namespace YtjfjmpkibcmnpaaGreat
open Go Go.Vc
abbrev gx:=Int×List (Int×List Int)×List (Int×List Int)×List (Int×List dH)×List (Int×List dH)
abbrev acC:fj:=.cells true (.pair (.a6 I) (.pair (.map I (.list I)) (.pair (.map I (.list I)) (.pair (.map I (.list oC)) (.map I (.list oC))))))
abbrev zV:=Option aS×List (gE×Bool)
abbrev Wc:fj:=.cells true (.pair (.a6 (.ptr gF)) (.map BC .bool))
def bf(o:Option aS):aS:=o.getD (Ty.yx gF)
def ka(o:Option aS):Prop:=∃n,o=some n
def Xm(o:Option aS):Prop:=∃n,o=some n/\adj n
def yz:bg where args:=[.ptr gF];out:=.data [I];pre:=fun(x:Option aS×Unit)=>ka x.1;fn:=fun(x:Option aS×Unit)=>(((bf x.1).1.1.length:Int),())
theorem NP:aN Tryz.prog 91 yz:=alm.ptr fun x h=>by obtain⟨n,h1⟩:=h;grind
def MD:bg where args:=[.list I,I];out:=.data [I];pre:=fun(x:List Int×Int×Unit)=>True;fn:=fun(x:List Int×Int×Unit)=>(js (fun y=>x.2.1==y) x.1,())
def acd(x:List Int×Int×Unit):gh:=bN [(2,fun _=>B3 (fun y=>x.2.1==y) x.1 8 [0,1,7])]
def Ae:bg where args:=[.list I,I];out:=.data [.bool];pre:=fun(x:List Int×Int×Unit)=>True;fn:=fun(x:List Int×Int×Unit)=>(dx x.1 x.2.1,())
def M6:iX where args:=[.a6 I];outs:=[acC];pre:=fun(x:Int×Unit)=>True;fn:=fun(x:Int×Unit)=>((max 0 (min x.1 40),[],[],[],[]),())
def Xe(b:gx)(e:Int):Prop:=∀x∈b.2.1,∀y∈b.2.1,dx x.2 e=true->dx y.2 e=true->x.1=y.1
def ZH(o:Option (Int×List Int)):Int:=match o with|some x=>x.1|none=>-1
@[irreducible]def Is(b:gx)(e:Int):Int:=ZH (b.2.1.find? fun x=>dx x.2 e)
def M5:iX where args:=[.a6 (.ptr gF)];outs:=[Wc];pre:=fun(x:Option aS×Unit)=>True;fn:=fun(x:Option aS×Unit)=>((x.1,[]),())
def EU(m:List (gE×Bool))(t:gE):Bool:=(cL BC m t).getD false
@[irreducible]def abt(m:List (gE×Bool))(l:Int):Int:=bif EU m (l,1)then 1 else bif EU m (l,2)then 2 else 0
def Ts(uY:List Bool)(e:Int):Bool:=decide (0<=e)&&(decide (e<(uY.length:Int))&&uY.getD e.toNat false)
def amf(n:aS)(l:Int)(uY:List Bool)(b:gx)(KI:Int)(k:Nat):Bool:=(OO n (k:Int)).1==l&&((Ts uY (k:Int)&&!((k:Int)==KI))||decide (0<=Is b (k:Int)))
@[irreducible]def ad3(n:aS)(l:Int)(uY:List Bool)(b:gx)(KI:Int):Bool:=!bV (amf n l uY b KI) n.1.1.length
def SY(b:gx):Prop:=∀e,Xe b e
def ab1(n:aS)(s:Int):Int:=bif(vf n.1 s).2 then(vf n.1 s).1.1 else-1
def Zf(t:zV)(uY:List Bool)(b:gx)(KI:Int)(w:gE):Bool:=!(abt t.2 w.1==0)&&(!(abt t.2 w.1==w.2)&&!ad3 (bf t.1) w.1 uY b KI)
@[irreducible]def aiq(t:zV)(r:aM)(uY:List Bool)(b:gx):Int:=bif(OV (bf t.1) r).any (Zf t uY b (ab1 (bf t.1) r.1))then 8 else 0
def acT(m:List (gE×Bool))(w:gE):List (gE×Bool):=gO BC (sn BC m (w.1,3-w.2)) w true
def vk(m:List (gE×Bool))(l:List gE):Nat->List (gE×Bool)|0=>m|k+1=>acT (vk m l k) (l.getD k zT)
theorem akg(xs:List Int)(v:Int):aq (av aQ []) Tryz.f184 MD (acd (xs,v,())) (xs,v,())=( U (js (fun(y:Int)=>v==y) xs) fun(y2:Int)=>(∃(jL:Nat),(jL<=xs.length/\((List.take jL xs).any fun(y:Int)=>v==y)=false)/\(jL:Int)=(0:Int)/\xs=xs/\v=v/\(xs.length:Int)=(xs.length:Int)/\True)/\∀(s3:Nat),U (decide ((s3:Int)<(xs.length:Int))) fun(y4:Bool)=>U (v==xs.getD (s3:Int).toNat (0:Int)) fun(y5:Bool)=>s3<=xs.length/\((List.take s3 xs).any fun(y:Int)=>v==y)=false->(y4=true->bD (s3:Int) xs.length/\(y5=true->(s3:Int)=y2/\True)/\(y5=false->bH IntKind.i64 ((s3:Int)+(1:Int))/\∃(l8:Nat),(l8<=xs.length/\((List.take l8 xs).any fun(y:Int)=>v==y)=false)/\xs.length-l8<xs.length-s3/\(l8:Int)=(s3:Int)+(1:Int)/\xs=xs/\v=v/\(xs.length:Int)=(xs.length:Int)/\True))/\(y4=false->(-1:Int)=y2/\True)):=by kernel_rfl
theorem aos(xs:List Int)(v:Int)(hw:xs.length<=bI):aq (av aQ []) Tryz.f184 MD (acd (xs,v,())) (xs,v,()):=by rw[akg];refine U.mk fun y2 e2=>?_;simp only[ck,aX,eq_self];refine⟨⟨0,⟨by omega,by simp⟩,by omega⟩,fun s=>U.mk fun y4 e4=>U.mk fun y5 e5=>?_⟩;rintro⟨h1,h2⟩;rw[ak]at e5;refine⟨fun hs=>?_,fun hs=>?_⟩;(·have hs:=di e4 hs;refine⟨⟨by omega,by omega⟩,fun e=>?_,fun e=>⟨fY hs hw,s+1,⟨by omega,?_⟩,by omega,by omega⟩⟩;all_goals grind[yv,any_succ]);rw[e2];exact ur (s:=s) (eH e4 hs) h2
theorem agk:aN Tryz.prog 184 MD:=aN.cB (l:=[]) (A:=acd) aO trivial Tryz.func184 (by rfl) (by rfl) fun x hw hp=>aos x.1 x.2.1 hw.1.1
theorem akA(xs:List Int)(v:Int):aq (av aQ [(184,MD)]) Tryz.f144 Ae az (xs,v,())=( U (js (fun(y:Int)=>v==y) xs) fun(y2:Int)=>True/\decide (y2>=(0:Int))=dx xs v/\True):=by kernel_rfl
theorem aoG(xs:List Int)(v:Int):aq (av aQ [(184,MD)]) Tryz.f144 Ae az (xs,v,()):=by rw[akA];simp[U.mk,n6,dx,o9]
theorem Tg:aN Tryz.prog 144 Ae:=aN.cB (l:=[(184,MD)]) (A:=fun _=>az) aO ⟨agk,trivial⟩ Tryz.func144 (by rfl) (by rfl) fun x hw hp=>aoG x.1 x.2.1
theorem ak4(n:Int):fH (av aQ []) Tryz.f100 M6 az (n,())=( max (0:Int) (min n (40:Int))=max (0:Int) (min n (40:Int))/\([]:List (Int×List Int)).Perm []/\([]:List (Int×List Int)).Perm []/\([]:List (Int×List dH)).Perm []/\([]:List (Int×List dH)).Perm []/\True):=by kernel_rfl
theorem ahj:lS Tryz.prog 100 M6:=lS.cB (l:=[]) (A:=fun _=>az) aO trivial Tryz.func100 (by rfl) (by rfl) fun x hw hp=>by obtain⟨n,⟨⟩⟩:=x;show fH (av aQ []) Tryz.f100 M6 az (n,());rw[ak4];simp
theorem ak3(n:Option (aS)):fH (av aQ []) Tryz.f101 M5 az (n,())=( n=n/\([]:List (gE×Bool)).Perm []/\True):=by kernel_rfl
theorem ahi:lS Tryz.prog 101 M5:=lS.cB (l:=[]) (A:=fun _=>az) aO trivial Tryz.func101 (by rfl) (by rfl) fun x hw hp=>by obtain⟨n,⟨⟩⟩:=x;show fH (av aQ []) Tryz.f101 M5 az (n,());rw[ak3];simp
def L8(p:ab)(y:ar):Prop:=∃x,(aF p x).2=true/\y=(aF p x).1
structure Kept (p:ab) (Q:bc->Prop):Prop where
 vO:∀s,Q s->s.1=p
 bare:∀s,Q s->Q (Dj s)
 Au:∀s (y:ar),Q s->L8 p y->uM (vL s) y.1=false->dx (fP s) y.1=false->(fP s).length<12->Q (Zo s (fP s++[y.1]))
 hold:∀s z,Q s->Q (IZ s z)
 met:∀s m,Q s->Q (gG s m)
 guard:∀s (y:ar),Q s->L8 p y->uM (vL s) y.1=false->ax p y.1=2->(y.2==0)=false->dm (cu s) (y.1,y.2)=false->dm (cu s) (y.1,3 - y.2)=false->
  Q (H6 s (cu s++[(y.1,3 - y.2)]))
def still(p:ab)(r:aM)(s:bc):Prop:=s.1=p/\s.2.1=r.1/\s.2.2.1=r.2.1/\s.2.2.2.1=r.2.2.1/\iC s=r.2.2.2.1/\eZ s=r.2.2.2.2.1
structure R0 (p:ab):Prop where
 Hp:dZ p=true
 check:bK p=0
 short:dN p
 made:abo p=some (ic p)
 len:(mA p).1.length<=64
 aeD:∀r∈(mA p).1,∃q∈(jI p).1,r=ri p q
theorem yb{p:ab}(h:(mA p).2=true):R0 p:=by
 have hf:dZ p=true:=by grind[mA]
 obtain⟨_,hc,hl⟩:=kh hf;have hR:(mA p).1=(eg p).1.2/\(eg p).2=0:=by unfold mA at h⊢;grind
 have ha:(jI p).2=0:=by have hb:=hR.2;unfold eg at hb;grind
 have hB:(mA p).1=(jI p).1.map (ri p):=by grind[eg]
 refine⟨hf,hc,hl,?_,?_,fun r hr=>?_⟩;all_goals grind[abo,KT]
def Ii(ts:List Ty):bg where args:=ts;out:=.data [.bool];pre _:=True;fn _:=(true,())
def aiG(x y:dH):Bool:=x.1==y.1&&!(x.2==y.2)
def SK(r:aM):Prop:=r.2.2.2.1.length<=1000/\r.2.2.2.2.1.length<=1000/\r.2.2.2.2.2.1.length<=1000
@[irreducible]def rH(r:aM):List dH:=r.2.2.2.2.1++r.2.2.2.2.2.1
theorem X7(p:ab)(x:ar):x∈cT p↔∃j∈p.2.1,x=j.1\/x=j.2:=by grind[cT]
def PW(s:eJ):ar:=(s.1,s.2.2)
def adp(s:eJ):ar:=(s.1,s.2.1)
def BI(l:List eJ)(t:Nat):eJ:=l.getD t rm
def chained(p:ab)(l:List eJ):Prop:=∀t,t+1<l.length->aF p (PW (BI l t))=(adp (BI l (t+1)),true)
def ac0(p:ab)(s:eJ):Prop:=ax p s.1=4\/∃w∈ct p s.1 s.2.1,w.1=s.2.2
def ade(p:ab)(l:List eJ)(n:dH):Prop:=(∃s∈l,s.1=n.1)/\(n.2=1\/n.2=2)
structure Run (p:ab) (q:aM):Prop where
 chain:chained p q.2.2.2.1
 nodup:(q.2.2.2.1.map Prod.fst).Nodup
 pass:∀s∈q.2.2.2.1,ac0 p s
 atk:∀n∈q.2.2.2.2.1,ade p q.2.2.2.1 n
 once:(q.2.2.2.2.1.map Prod.fst).Nodup
structure atd (p:ab) (q:aM) (x:ar) (met:List Int):Prop where
 run:Run p q
 last:q.2.2.2.1.length≠0->aF p (PW (BI q.2.2.2.1 (q.2.2.2.1.length - 1)))=(x,true)
 met:∀s∈q.2.2.2.1,s.1∈met
theorem Xb{p:ab}{e i:Int}{w:Int×Int}(hw:w∈ct p e i):w.2=0\/w.2=1\/w.2=2:=by(have hh:ez p (e,i)=true:=by grind[ct]);unfold ct at hw;rw[hh]at hw;cases h1:ax p e==1 with|true=>grind|false=>rw[h1]at hw;cases h3:ax p e==3 with|true=>grind|false=>rw[h3]at hw;cases h2:ax p e==2 with|false=>grind|true=>rw[h2]at hw;cases h0:(i==0)with|true=>grind|false=>rw[h0]at hw;have hw:=aL.1 hw;have hk:=eq_of_beq h2;unfold ez at hh;rw[hk,show eb 2=3 by grind[eb]]at hh;grind
structure Row (p:ab) (C:Nat->ar) (m:Nat):Prop where
 aqi:∀k,k<m->ax p (C k).1=1
 ends:∀k,k<m->(C k).2=0\/(C k).2=1
 next:∀k,k+1<m->aF p ((C k).1,1 - (C k).2)=(C (k+1),true)
 apart:∀j k,j<m->k<m->(C j).1=(C k).1->j=k
def De(l:List Int)(j:Nat):List Int:=(l.set (j+1) (l.getD j 0)).set j (l.getD (j+1) 0)
def A7:Nat->List Int->List Int|0,l=>l|j+1,l=>bif decide (l.getD (j+1) 0<l.getD j 0)then A7 j (De l j)else l
def sc(l:List Int):Nat->List Int|0=>l|k+1=>A7 k (sc l k)
def Lm(a b:Int):Bool:=decide (a<=b)
def VY:iX where args:=[.row 3 I];outs:=[];pre:=fun(x:List Int×Unit)=>x.1.length<=1000000;fn:=fun _=>();lb:=fun(x:List Int×Unit)=>(sc x.1 x.1.length,x.2)
def Ry:bg where args:=[.list oC];out:=.row 219 oC;pre:=fun(x:List dH×Unit)=>lW x.1;fn:=fun(x:List dH×Unit)=>(x.1,())
def Qf{α:Type}(m:List (Int×List α))(o:Int):List α:=(cL I m o).getD []
structure UU (b:gx):Prop where
 steps:∀x∈b.2.1,x.2.length<=1000
 Au:∀x∈b.2.2.1,x.2.length<=1000
 Z6:∀x∈b.2.2.2.1,x.2.length<=1000
 guards:∀x∈b.2.2.2.2,x.2.length<=1000
 ac1:b.2.1.length<=1000/\b.2.2.1.length<=1000/\b.2.2.2.1.length<=1000
def bIn(b:gx)(e:Int):Bool:=decide (0<=e)&&decide (e<b.1)
@[irreducible]def abr(b:gx)(o:Int):Bool:=decide (((Qf b.2.1 o).length:Int)+((Qf b.2.2.1 o).length:Int)+((Qf b.2.2.2.2 o).length:Int)>0)
def Zg(b:gx)(r:aM)(i:Nat):Bool:=bIn b (BI r.2.2.2.1 i).1&&!bV (fun j=>(BI r.2.2.2.1 j).1==(BI r.2.2.2.1 i).1) i
def YY(b:gx)(r:aM)(e:Int):Bool:=bIn b e&&!dx (pE r) e
def Et(r:aM)(i:Nat):dH:=(rH r).getD i (0,0)
def Z7(b:gx)(r:aM)(i:Nat):Bool:=bIn b (Et r i).1&&(((Et r i).2==1||(Et r i).2==2)&&!bV (fun j=>aiG (Et r j) (Et r i)) i)
@[irreducible]def VE(b:gx)(r:aM):Bool:=!decide (r.2.2.2.1.length=0)&&(gw (Zg b r) r.2.2.2.1.length&&(r.2.2.2.2.2.2.1.all (YY b r)&&gw (Z7 b r) (r.2.2.2.2.1.length+r.2.2.2.2.2.1.length)))
def LI(e:Int)(l:List (Int×List Int)):List Int:=(l.filter fun x=>dx x.2 e).map fun x=>x.1
@[irreducible]def ad1(b:gx)(e:Int):List Int:=sc (LI e b.2.2.1) (LI e b.2.2.1).length
def X0(b:gx)(e:Int):Prop:=b.2.2.1.length<=1000
def Z5(b:gx)(o:Int):List dH:=Qf b.2.2.2.1 o++Qf b.2.2.2.2 o
def Ip(b:gx)(o e:Int):Option dH:=(Z5 b o).find? fun x=>x.1==e
def holds(b:gx)(e:Int)(x:Int×List dH):Bool:=(Ip b x.1 e).isSome
def ZF(b:gx)(e:Int)(l:List (Int×List dH)):Int:=match l.find? (holds b e)with|some x=>((Ip b x.1 e).getD (0,0)).2|none=>0
@[irreducible]def abq(b:gx)(e:Int):Int×Int:=(ZF b e b.2.2.2.1,((b.2.2.2.1.filter (holds b e)).length:Int))
def aa4(b:gx)(e:Int):Prop:=∀x∈b.2.2.2.1,∀y∈b.2.2.2.1,∀u v,Ip b x.1 e=some u->Ip b y.1 e=some v->u.2=v.2
def IP(b:gx)(s:eJ):Bool:=decide (0<=Is b s.1)||decide (0<(ad1 b s.1).length)
def QJ(b:gx)(x:dH):Bool:=!((abq b x.1).1==0)&&!((abq b x.1).1==x.2)
@[irreducible]def air(b:gx)(o:Int)(r:aM):Int:=bif decide (o<0)||(abr b o||!VE b r)then 1 else bif r.2.2.2.1.any (IP b)then 14 else bif r.2.2.2.2.2.2.1.any (fun e=>decide (0<=Is b e))then 14 else bif(rH r).any (QJ b)then 15 else 0
structure aph (b:gx):Prop where
 small:UU b
 ac1:SY b
 held:∀e,aa4 b e
 E7:∀e,X0 b e
theorem Dd(l:List Int)(j:Nat):(De l j).length=l.length:=by grind[De]
theorem Mh:∀(j:Nat)(l:List Int),(A7 j l).length=l.length|0,_=>rfl|j+1,l=>by unfold A7;cases decide (l.getD (j+1) 0<l.getD j 0)with|true=>rw[cond_true,Mh j,Dd]|false=>rfl
theorem tg(l:List Int):∀(k:Nat),(sc l k).length=l.length|0=>rfl|k+1=>by show(A7 k (sc l k)).length=_;rw[Mh,tg l k]
theorem Pw:∀(j:Nat)(l:List Int),j+1<l.length->(De l j).Perm l|_,[],h=>by rfl|0,[x],h=>by grind|0,x::y::l,_=>by show(y::x::l).Perm _;grind|j+1,x::l,h=>by grind[De]
theorem JM:∀(j:Nat)(l:List Int),j<l.length->(A7 j l).Perm l|0,l,_=>.refl l|j+1,l,h=>by unfold A7;cases decide (l.getD (j+1) 0<l.getD j 0)with|true=>rw[cond_true];exact(JM j _ (by rw[Dd];omega)).trans (Pw j l h)|false=>rfl
theorem wY(l:List Int):∀(k:Nat),k<=l.length->(sc l k).Perm l|0,_=>.refl l|k+1,h=>(JM k _ (by grind[tg])).trans (wY l k (by omega))
theorem Cl(l:List Int)(j:Nat)(h:j+1<l.length)(i:Nat):(De l j).getD i 0=if i=j then l.getD (j+1) 0 else if i=j+1 then l.getD j 0 else l.getD i 0:=by unfold De;grind
structure acx (l:List Int) (j K:Nat):Prop where
 rest:∀a b,a<b->b<K->a≠j->b≠j->l.getD a 0<=l.getD b 0
 lt:∀b,j<b->b<K->l.getD j 0<l.getD b 0
theorem EM:∀(j K:Nat)(l:List Int),j<K->K<=l.length->acx l j K->∀a b,a<b->b<K->(A7 j l).getD a 0<=(A7 j l).getD b 0|0,K,l,_,_,hi,a,b,EV,hb=>by show l.getD a 0<=l.getD b 0;by_cases h:a=0;subst h;exact Int.le_of_lt (hi.lt b (by omega) hb);exact hi.rest a b EV hb h (by omega)|j+1,K,l,hj,hK,hi,a,b,EV,hb=>by unfold A7;cases h:decide (l.getD (j+1) 0<l.getD j 0)with|true=>have h:=ao h;rw[cond_true];refine EM j K _ (by omega) (by grind[Dd]) ⟨fun a b EV hb h1 h2=>?_,fun b h1 hb=>?_⟩ a b EV hb;rw[Cl l j (by omega),Cl l j (by omega),if_neg h1,if_neg h2];by_cases h3:a=j+1;rw[if_pos h3,if_neg (by omega)];exact hi.rest j b (by omega) hb (by omega) (by omega);rw[if_neg h3];by_cases h4:b=j+1;rw[if_pos h4];exact hi.rest a j (by omega) (by omega) h3 (by omega);rw[if_neg h4];exact hi.rest a b EV hb h3 h4;rw[Cl l j (by omega),Cl l j (by omega),if_pos rfl,if_neg (by omega)];by_cases h4:b=j+1;omega;rw[if_neg h4];exact hi.lt b (by omega) hb|false=>(have h:l.getD j 0<=l.getD (j+1) 0:=by grind);rw[cond_false];by_cases h3:a=j+1;subst h3;exact Int.le_of_lt (hi.lt b EV hb);by_cases h4:b=j+1;subst h4;by_cases h5:a=j;grind;exact Int.le_trans (hi.rest a j (by omega) (by omega) h3 (by omega)) h;exact hi.rest a b EV hb h3 h4
theorem xH(l:List Int):∀(k:Nat),k<=l.length->∀a b,a<b->b<k->(sc l k).getD a 0<=(sc l k).getD b 0|0,_,a,b,_,hb=>by omega|k+1,h,a,b,EV,hb=>by show(A7 k (sc l k)).getD a 0<=_;refine EM k (k+1) _ (by omega) (by grind[tg]) ⟨fun a b EV hb h1 h2=>?_,fun b h1 h2=>by omega⟩ a b EV hb;exact xH l k (by omega) a b EV (by omega)
theorem TP(a b c:Int)(h1:Lm a b=true)(h2:Lm b c=true):Lm a c=true:=by unfold Lm at*;grind
theorem TQ(a b:Int):(Lm a b||Lm b a)=true:=by unfold Lm;grind
theorem Xr{l m:List Int}(hp:m.Perm l)(hs:m.Pairwise fun a b=>a<=b):m=l.mergeSort Lm:=by refine List.Perm.eq_of_pairwise (le:=fun a b:Int=>a<=b) (fun a b _ _ h1 h2=>by omega) hs ?_ (hp.trans (List.mergeSort_perm l Lm).symm);exact(List.pairwise_mergeSort TP TQ l).imp fun h=>ao h
theorem Ny(l:List Int):sc l l.length=l.mergeSort Lm:=by refine Xr (wY l _ (aZ _)) ?_;rw[List.pairwise_iff_getElem];intro a b ha hb EV;have:=xH l l.length (aZ _) a b EV (by grind[tg]);grind
end YtjfjmpkibcmnpaaGreat
end Go.Proofs
namespace Go.Vc
open Go Go.Sort Go.RowKit
theorem W4{w:World}{b e n:Nat}{vs:Array Value}{fr:Nat×Nat}{os:Array Obj}{zs:List Int}(h:w.heap[b]?=some (.cells vs e fr)):(grow (putRow (Value.int .i64) (Sort.ahead w n) b 0 zs.toArray) os).heap[b]?=some (.cells (putCells (Value.int .i64) 0 zs.toArray vs) e fr):=by have mO:=gJ h;show((w.heap.modify b _)++os)[b]?=_;rw[Array.getElem?_append_left (by grind),Array.getElem?_modify,if_pos rfl,h];rfl
theorem LZ{w:World}{b n:Nat}{os:Array Obj}{zs:List Int}:tc (fun k=>k=b) w (grow (putRow (Value.int .i64) (Sort.ahead w n) b 0 zs.toArray) os)where os:=rfl;tape:=rfl;output:=rfl;size:=(by simp);block k hk nv:=by show((w.heap.modify b _)++os)[k]?=_;grind
theorem Ja{E:Env}{w:World}{p:Place}{e:Nat}{xs:List Int}(h:ob E w p false e (.int .i64) xs):Holds (Value.int .i64) w p.bt 0 xs.toArray:=by obtain⟨h0,⟨h1,h2⟩,vs,h3,h4,_,h5⟩:=h;intro j hj;(have hj:j<xs.length:=by omega);obtain⟨us,k1,k2,k3⟩:=h5 j xs[j] (ah hj);have k1:us=[.int .i64 xs[j]]:=k1.1;subst k1;have k3:=k3 0 _ rfl;have k3:vs[j*1+0]?=some (.int .i64 xs[j]):=k3;rw[Nat.mul_one,Nat.add_zero]at k3;refine⟨?_,?_⟩;unfold World.cell?;grind;grind[World.frozen?]
theorem PK{F:Mem}{w:World}{p:Place}{e n:Nat}{xs zs ys:List Int}{os:Array Obj}(h:ob ⟨F,fun _=>none⟩ w p false e (.int .i64) xs)(hz:zs.length=xs.length)(hy:ys.length<=zs.length)(HL:∀i,i<ys.length->ys[i]?=zs[i]?)(hr:∀y∈ys,bH .i64 y):ob ⟨F,fun _=>none⟩ (grow (putRow (Value.int .i64) (Sort.ahead w n) p.bt 0 zs.toArray) os) ⟨p.nil,p.bt,p.cap,ys.length⟩ false e (.int .i64) ys:=by obtain⟨h0,⟨h1,h2⟩,vs,h3,h4,_,h5⟩:=h;have h4:vs.size=p.cap*1:=h4;refine⟨h0,⟨rfl,by grind⟩,_,W4 h3,?_,(fun h=>by cases h),fun i x hx=>?_⟩;grind[putCells];have hi:=(cb.1 hx).1;rw[HL i hi]at hx;obtain⟨hi2,hx2⟩:=cb.1 hx;have hm:x∈ys:=List.mem_of_getElem? (by rw[HL i hi];exact hx);refine⟨[.int .i64 x],⟨rfl,hr x hm⟩,rfl,fun j u hu=>?_⟩;(have hj:j=0:=by grind);subst hj;(have hu:Value.int .i64 x=u:=by grind);show(putCells _ 0 zs.toArray vs)[i*1+0]?=some u;rw[<-hu,Nat.mul_one,Nat.add_zero];grind[putCells]
theorem PM{E:Env}{w:World}{p:Place}{e:Nat}{xs:List Int}(h:ob E w p false e (.int .i64) xs):∀x∈xs,bH .i64 x:=by obtain⟨_,_,vs,_,_,_,h5⟩:=h;intro x hx;obtain⟨i,hi,rfl⟩:=List.mem_iff_getElem.1 hx;obtain⟨us,k1,_⟩:=h5 i _ (ah hi);exact k1.2
theorem lS.Zj{P:Program}{f e:Nat}{fn:Func}{code:Code}{L:Nat}{g:List Int->List Int}(hf:P.funcs[f]?=some fn)(hn:(fn.name=="runtime.NumGoroutine")=false)(hb:fn.body=some code)(hg:∀l,(g l).Perm l)(hL:L<4611686018427387904)(h0:∀w,Calls P f #[.slice none 0 0] w fun e w'=>e=.returned (.tuple #[])/\w'=w)(h1:∀(bt cap:Nat)(zs:List Int)(w:World),Holds (Value.int .i64) w bt 0 zs.toArray->bt<w.heap.size->zs.length<=L->Calls P f #[.slice (some ⟨bt,0,none⟩) zs.length cap] w fun e w'=>e=.returned (.tuple #[])/\∃n os,w'=grow (putRow (Value.int .i64) (Sort.ahead w n) bt 0 (g zs).toArray) os){pre:(cE [.row e (.int .i64)]).den->Prop}(oa:∀x,pre x->(x.1:List Int).length<=L):lS P f {args:=[.row e (.int .i64)],outs:=[],pre:=pre,fn:=fun _=>(),lb:=fun x=>(g x.1,x.2)}where fn:=⟨fn,code,hf,hn,hb⟩;okA o ho:=(by rw[aL.1 ho];rfl);ZK:=rfl;calls F w x vs pl hF hx hs JU Lv hp DF:=by obtain⟨v,us,rfl,⟨rE,_⟩,rfl⟩:=hs;obtain⟨us,ws,p0,q0,h2,rfl,⟨p,v',rfl,rfl,hv,hB⟩,rfl,rfl⟩:=hx;(have hvc:iN [v]=[v]:=by grind[iN]);rw[hvc]at h2⊢;(have e2:v=v':=by grind);subst e2;have hlen:=oa x hp;show Calls P f #[v] w _;rcases hv with⟨ym,rfl,Cs⟩|⟨zy,rfl,T6,JZ⟩;(·(have HN:(x.1:List Int)=[]:=by rcases hB with⟨_,h,_⟩|⟨h,_⟩;all_goals grind);(have hg0:g x.1=[]:=by rw[HN];exact(hg []).eq_nil);refine(h0 w).mono fun e' w'⟨he,hw⟩=>?_;subst hw;refine⟨_,F,[],_,.nil,he,.refl _,hF,fun b o h=>.inl h,.refl _ _,rfl,rfl,⟨rfl,rfl⟩,⟨.row p,.nil,.row p,.nil,rfl,rfl,rfl,⟨p,_,rfl,rfl,.inl ⟨ym,rfl,Cs⟩,.inl ⟨ym,hg0,Cs⟩⟩,fun _=>rfl⟩,?_,fun q hq Gf=>?_,fun h=>(by cases h)⟩;all_goals grind[PT.list]);·(have hB:ob ⟨F,fun _=>none⟩ w p false e (.int .i64) x.1:=by rcases hB with⟨h,_⟩|⟨_,h⟩;all_goals grind);have JP:(x.1:List Int).length=p.len:=hB.2.1.1;obtain⟨_,_,cs,hc,_⟩:=id hB;have HU:=h1 p.bt p.cap x.1 w (Ja hB) (gJ hc) hlen;rw[JP]at HU;refine HU.mono fun e' w'⟨he,n,os,hw⟩=>?_;subst hw;have hgl:=(hg x.1).length_eq;have Gg:lE (PT.pair (.row p) .nil).list p.bt:=⟨p,by simp[PT.list],zy,rfl⟩;(have hk:tc (lE (PT.pair (.row p) .nil).list) w (grow (putRow (Value.int .i64) (Sort.ahead w n) p.bt 0 (g x.1).toArray) os):=by have:=LZ (w:=w) (b:=p.bt) (n:=n) (os:=os) (zs:=g x.1);exact⟨this.os,this.tape,this.output,this.size,fun k hk hf=>this.block k hk fun e=>hf (e▸Gg)⟩);refine⟨_,F,[],_,.nil,he,.refl _,fun b o hb=>?_,fun b o h=>.inl h,hk,rfl,rfl,⟨rfl,rfl⟩,⟨.row p,.nil,.row p,.nil,rfl,rfl,rfl,⟨p,_,rfl,rfl,.inr ⟨zy,rfl,T6,JZ⟩,.inr ⟨zy,?_⟩⟩,fun _=>rfl⟩,?_,fun q hq Gf=>?_,fun h=>(by cases h)⟩;(·rw[hk.block b (gJ (hF b o hb)) fun⟨q,hq,_,XN⟩=>?_];all_goals grind);have:=PK (n:=n) (os:=os) (zs:=g x.1) (ys:=g x.1) hB hgl (aZ _) (fun _ _=>rfl) (fun y hy=>PM hB y ((hg x.1).mem_iff.1 hy));rw[show(⟨p.nil,p.bt,p.cap,(g x.1).length⟩:Place)=p by rw[hgl,JP]]at this;omega;all_goals grind[PT.list]
end Go.Vc
namespace Go.Proofs
namespace YtjfjmpkibcmnpaaGreat
open Go Go.Vc Go.Shelf
def N8:Go.Shelf.Ren:=⟨fun|189=>166|125=>199|257=>198|128=>213|129=>214|294=>204|295=>205|296=>206|297=>207|298=>208|299=>209|216=>210|300=>211|301=>212|328=>216|329=>217|330=>218|331=>219|332=>220|215=>221|343=>222|n=>n,fun|28=>28|3=>3|46=>276|0=>0|51=>290|53=>292|4=>4|183=>284|182=>283|131=>86|5=>5|9=>9|218=>294|222=>298|228=>300|229=>301|n=>n,fun|n=>n⟩
open Go Go.Vc
theorem akC(l:List (Int×Int)):aq (av aQ []) Tryz.f140 Ry az (l,())=(∀(b1:Bool),(b1=true->l=[])->(b1=true->[]=l/\True)/\(b1=false->roomFor ((List.replicate (0:Nat) ((0:Int),(0:Int))).length+l.length) (16:Nat)/\List.replicate (0:Nat) ((0:Int),(0:Int))++l=l/\True)):=by kernel_rfl
theorem agR:aN Tryz.prog 140 Ry:=aN.cB (l:=[]) (A:=fun _=>az) aO trivial Tryz.func140 (by rfl) (by rfl) fun x _ hp=>by obtain⟨l,u⟩:=x;rw[akC];exact fun b hb=>⟨fun h=>⟨(hb h).symm,trivial⟩,fun h=>⟨tK hp rfl (by decide),by simp⟩⟩
abbrev afx:=Int×List Int×List Int×List dH×List dH
abbrev Iy:=Int×List afx
structure apd (b:Iy):Prop where
 len:b.2.length<=1000
 Z6:∀h∈b.2,h.2.2.2.1.length<=1000/\h.2.2.2.2.length<=1000
def Eh(l:List Int)(n:Int):Nat:=(gK (fun i=>!decide (l.getD i 0<n)) l.length).getD l.length
@[irreducible]def abn(l:List Int)(n:Int):List Int:=bif decide (Eh l n<l.length)&&l.getD (Eh l n) 0==n then l else l.take (Eh l n)++[n]++l.drop (Eh l n)
def U9(l:List Int):Nat->List Int|0=>[]|k+1=>abn (U9 l k) (l.getD k 0)
def W6(p:ab):Prop:=bK p=0/\dN p
abbrev InT:Ty:=.pair (.list .bool) (.pair (.list I) (.pair (.list .bool) (.list .bool)))
abbrev R3:=List Bool×List Int×List Bool×List Bool
@[irreducible]def Bj(pos:List Int)(e:Int):Int:=bif decide (0<=e)&&(decide (e<(pos.length:Int))&&(pos.getD e.toNat 0==1||pos.getD e.toNat 0==2))then pos.getD e.toNat 0 else 0
def MI:bg where args:=[.list I,I];out:=.data [I];pre:=fun(x:List Int×Int×Unit)=>True;fn:=fun(x:List Int×Int×Unit)=>(Bj x.1 x.2.1,())
def uw:nA:=(0,0,false,[])
@[irreducible]def ad2(l:List nA)(i:Int):Int:=bif decide (i<0)||decide ((l.length:Int)<=i)then 0 else(l.getD i.toNat uw).1
def aip(p:ab)(uY:List Bool)(e:Int):Bool:=!(ax p e==4)&&Ts uY e
def W0(r:aM):Prop:=SK r/\lW r.2.2.2.2.2.2.1
def oM(c:dG)(i:Int):aM:=c.2.getD i.toNat zR
def abG(c:dG):Prop:=W6 c.1/\∀r∈c.2,W0 r
def ais(l:List nA)(i:Int):Bool:=decide ((l.length:Int)<=i)||(l.getD i.toNat uw).1==0
def Kj(p:ab)(uY:List Bool)(e:Int):Bool:=Ts uY e&&(decide ((p.1.length:Int)<=e)||!((p.1.getD e.toNat zE).2.1==4))
def ad4(pos:List Int)(n:dH):Bool:=decide (0<=n.1)&&(decide (n.1<(pos.length:Int))&&(pos.getD n.1.toNat 0==n.2&&!(n.2==0)))
def afU(c:dG)(aac:List nA)(k:Int)(r:aM)(i:Nat):Bool:=((i:Int)==k||(c.2.getD i zR).1==r.1)&&!ais aac (i:Int)
def Zh(p:ab)(uY:List Bool)(s:eJ):Bool:=Kj p uY s.1
def SQ(p:ab)(DA:R3)(x:dH):Bool:=!ad4 DA.2.1 x&&Kj p DA.1 x.1
theorem akm(pos:List Int)(e:Int):aq (av aQ []) Tryz.f176 MI az (pos,e,())=( U (bif decide (e<(0:Int))then true else decide (e>=(pos.length:Int))) fun(y2:Bool)=>U (pos.getD e.toNat (0:Int)!=(1:Int)) fun(y3:Bool)=>U (bif y2 then true else bif y3 then pos.getD e.toNat (0:Int)!=(2:Int)else false) fun(y4:Bool)=>(y2=false->bD e pos.length)/\(y2=false->y3=true->bD e pos.length)/\(y4=true->(0:Int)=Bj pos e/\True)/\(y4=false->bD e pos.length/\pos.getD e.toNat (0:Int)=Bj pos e/\True)):=by kernel_rfl
theorem aov(pos:List Int)(e:Int):aq (av aQ []) Tryz.f176 MI az (pos,e,()):=by rw[akm];refine U.mk fun y2 e2=>U.mk fun y3 e3=>U.mk fun y4 e4=>?_;(have va:y2=false->bD e pos.length:=fun h=>by rw[e2]at h;obtain⟨k1,k2⟩:=Ph h;have:=aj k1;have:=aj k2;exact⟨by omega,by omega⟩);(have hF:Bj pos e=bif y4 then 0 else pos.getD e.toNat 0:=by unfold Bj;grind);grind
theorem agr:aN Tryz.prog 176 MI:=aN.cB (l:=[]) (A:=fun _=>az) aO trivial Tryz.func176 (by rfl) (by rfl) fun x hw hp=>aov x.1 x.2.1
structure ajI (p:ab) (r:aM) (s:bc):Prop where
 still:still p r s
 each:∀g∈cu s,(g.2=1\/g.2=2)/\ax p g.1=2/\uM r g.1=false
 one:∀g∈cu s,∀h∈cu s,g.1=h.1->g.2=h.2
structure acv (p:ab) (l:List dH):Prop where
 each:∀n∈l,(n.2=1\/n.2=2)/\0<=n.1/\n.1<(p.1.length:Int)
 one:∀m∈l,∀n∈l,m.1=n.1->m.2=n.2
theorem Hf{p:ab}{e:Int}(h:ax p e≠0):0<=e/\e<(p.1.length:Int):=by unfold ax at h;grind
@[irreducible]def eY(n:aS)(x:ar):ar×Bool:=((cL bp n.2.1 x).getD (0,0),(cL bp n.2.1 x).isSome)
@[irreducible]def kz(n:aS)(x:ar):Int:=bif(cL bp n.2.2.1 x).isSome then(cL bp n.2.2.1 x).getD 0 else-1
@[irreducible]def zB(n:aS)(e:Int):oE:=bif decide (e<0)||decide ((n.1.1.length:Int)<=e)then([],0,0)else n.1.1.getD e.toNat ([],0,0)
def qY:bg where args:=[.ref gF,bp];out:=.data [bp,.bool];pre:=fun(x:aS×ar×Unit)=>True;fn:=fun(x:aS×ar×Unit)=>((eY x.1 x.2.1).1,(eY x.1 x.2.1).2,())
def yB:bg where args:=[.ref gF,bp];out:=.data [I];pre:=fun(x:aS×ar×Unit)=>True;fn:=fun(x:aS×ar×Unit)=>(kz x.1 x.2.1,())
def KE:bg where args:=[.ref gF,I];out:=.data [GK];pre:=fun(x:aS×Int×Unit)=>True;fn:=fun(x:aS×Int×Unit)=>(zB x.1 x.2.1,())
def o8:bg where args:=[.ref gF,I];out:=.data [I];pre:=fun(x:aS×Int×Unit)=>True;fn:=fun(x:aS×Int×Unit)=>(ax x.1.1 x.2.1,())
def Bq:bg where args:=[.ref gF,I,I];out:=.data [.list BA];pre:=fun(x:aS×Int×Int×Unit)=>True;fn:=fun(x:aS×Int×Int×Unit)=>(ct x.1.1 x.2.1 x.2.2.1,())
def Hx:bg where args:=[.ref gF,I,I,I];out:=.data [I,.bool];pre:=fun(x:aS×Int×Int×Int×Unit)=>True;fn:=fun(x:aS×Int×Int×Int×Unit)=>((bP x.1.1 x.2.1 x.2.2.1 x.2.2.2.1).1,(bP x.1.1 x.2.1 x.2.2.1 x.2.2.2.1).2,())
def aco(x:aS×Int×Int×Int×Unit):gh:=bN [(2,fun _=>fE (ct x.1.1 x.2.1 x.2.2.1).length (qD (mg x.2.2.2.1) (ct x.1.1 x.2.1 x.2.2.1)) 17 [3,15,16] [])]
def Rw:bg where args:=[.ref gF,I,I,I];out:=.data [I,.bool];pre:=fun(x:aS×Int×Int×Int×Unit)=>True;fn:=fun(x:aS×Int×Int×Int×Unit)=>((bP x.1.1 x.2.1 x.2.2.1 x.2.2.2.1).1,(bP x.1.1 x.2.1 x.2.2.1 x.2.2.2.1).2,())
def c51:bg where args:=[.ref gF];out:=.data [I];pre:=fun(x:aS×Unit)=>True;fn:=fun(x:aS×Unit)=>((x.1.1.2.2.1.length:Int),())
def UA:bg where args:=[.ref gF];out:=.data [PlanT];pre:=fun(x:aS×Unit)=>tO x.1.1;fn:=fun(x:aS×Unit)=>(x.1.1,())
abbrev Wg:Ty:=.lQ 200 (.pair (.ref I) .unit)
abbrev Wh:Ty:=.lQ 183 (.pair (.ref I) .unit)
def MA:bg where args:=[n8,.ref I];out:=.data [.bool];pre:=fun(x:eJ×Int×Unit)=>True;fn:=fun(x:eJ×Int×Unit)=>(x.1.1==x.2.1,())
def Rr:bg:=MA
def gi(e:Int)(s:eJ):Bool:=s.1==e
def yE:bg where args:=[.list n8,Wg];out:=.data [I];pre:=fun(x:List eJ×(Int×Unit)×Unit)=>x.1.length<=1000;fn:=fun(x:List eJ×(Int×Unit)×Unit)=>(js (gi x.2.1.1) x.1,())
def GC(x:List eJ×(Int×Unit)×Unit):gh:=bN [(2,fun _=>B3 (gi x.2.1.1) x.1 8 [0,1,7])]
def B8:bg where args:=[.list n8,Wg];out:=.data [.bool];pre:=fun(x:List eJ×(Int×Unit)×Unit)=>x.1.length<=1000;fn:=fun(x:List eJ×(Int×Unit)×Unit)=>(x.1.any (gi x.2.1.1),())
def yG:bg where args:=[.list n8,Wh];out:=.data [I];pre:=fun(x:List eJ×(Int×Unit)×Unit)=>x.1.length<=1000;fn:=fun(x:List eJ×(Int×Unit)×Unit)=>(js (gi x.2.1.1) x.1,())
def GD(x:List eJ×(Int×Unit)×Unit):gh:=bN [(2,fun _=>B3 (gi x.2.1.1) x.1 8 [0,1,7])]
def Ca:bg where args:=[.list n8,Wh];out:=.data [.bool];pre:=fun(x:List eJ×(Int×Unit)×Unit)=>x.1.length<=1000;fn:=fun(x:List eJ×(Int×Unit)×Unit)=>(x.1.any (gi x.2.1.1),())
def Rx:bg where args:=[n9,I];out:=.data [.bool];pre:=fun(x:aM×Int×Unit)=>x.1.2.2.2.1.length<=1000;fn:=fun(x:aM×Int×Unit)=>(uM x.1 x.2.1,())
def Hw:bg where args:=[.list n8];out:=.row 216 n8;pre:=fun(x:List eJ×Unit)=>lW x.1;fn:=fun(x:List eJ×Unit)=>(x.1,())
abbrev ajm:Ty:=.pair I (.pair (.list n8) (.pair (.list I) (.list (.list BA))))
abbrev me:=Int×List eJ×List Int×List (List (Int×Int))
abbrev UQ:fj:=.cells true (.pair (.a6 I) (.pair (.row 216 n8) (.pair (.row 3 I) (.row 142 (.list BA)))))
@[irreducible]def Mq(p:me)(e:Int):Bool:=decide (p.2.1.length<12)&&(!(e==p.1)&&!p.2.1.any (gi e))
def Rs:bg where args:=[.ref ajm,I];out:=.data [.bool];pre:=fun(x:me×Int×Unit)=>x.1.2.1.length<=1000;fn:=fun(x:me×Int×Unit)=>(Mq x.1 x.2.1,())
def ui(p:me)(i:Nat):List dH:=bif p.2.2.1.getD i 0!=0 then[((p.2.1.getD i rm).1,p.2.2.1.getD i 0)]else[]
def jo(p:me):Nat->List dH|0=>[]|k+1=>jo p k++ui p k
@[irreducible]def kL(p:me)(s to stop:Int):aM:=(s,to,stop,p.2.1,jo p p.2.1.length,[],[],[],false)
def lX(p:me):Prop:=p.2.1.length<=1000/\p.2.2.1.length=p.2.1.length/\p.2.2.2.length=p.2.1.length
def MF:iX where args:=[UQ,.a6 I,.a6 I,.a6 I];outs:=[.a6 n9];pre:=fun(x:me×Int×Int×Int×Unit)=>lX x.1;fn:=fun(x:me×Int×Int×Int×Unit)=>(kL x.1 x.2.1 x.2.2.1 x.2.2.2.1,());lb:=fun(x:me×Int×Int×Int×Unit)=>x
def ace(x:me×Int×Int×Int×Unit):gh:=bN [(3,fun _=>{σ:=Nat,ok:=fun k=>k<=x.1.2.1.length,mu:=fun k=>x.1.2.1.length-k,sl:=fun k=>[(26,.one (.a6 I (k:Int)))],bl:=fun k=>[(9,.cells [.a6 I x.2.1,.a6 I x.2.2.1,.a6 I x.2.2.2.1,.row n8 1001,.row oC 1000,.ma,.ma,.ma,.a6 .bool false]),(1001,.row false 216 n8 x.1.2.1),(1000,.row false 219 oC (jo x.1 k))],keep:=[0,8,9,24,25],dg:=[8,1000000,1000001,1000002,1000003]})]
@[irreducible]def Bi(p:me)(n:aS)(x:ar):me:=(p.1,p.2.1++[(x.1,x.2,-1)],p.2.2.1++[0],p.2.2.2++[ct n.1 x.1 x.2])
def MG:iX where args:=[UQ,.a6 (.ref gF),.a6 bp];outs:=[];pre:=fun(x:me×aS×ar×Unit)=>lX x.1;fn:=fun(x:me×aS×ar×Unit)=>();lb:=fun(x:me×aS×ar×Unit)=>(Bi x.1 x.2.1 x.2.2.1,x.2)
@[irreducible]def pD(p:me):me:=(p.1,p.2.1.take (p.2.1.length-1),p.2.2.1.take (p.2.1.length-1),p.2.2.2.take (p.2.1.length-1))
def ME:iX where args:=[UQ];outs:=[];pre:=fun(x:me×Unit)=>lX x.1/\0<x.1.2.1.length;fn:=fun(x:me×Unit)=>();lb:=fun(x:me×Unit)=>(pD x.1,x.2)
theorem v117(n:aS)(x:Int×Int):aq (av aQ []) Tryz.f117 qY az (n,x,())=( U (cL bp n.2.1 x) fun(y2:Option (Int×Int))=>y2.getD ((0:Int),(0:Int))=(eY n x).1/\y2.isSome=(eY n x).2/\True):=by kernel_rfl
theorem Dq:aN Tryz.prog 117 qY:=aN.cB (l:=[]) (A:=fun _=>az) aO trivial Tryz.func117 (by rfl) (by rfl) fun x _ hp=>by obtain⟨n,y,u⟩:=x;rw[v117];simp[U.mk,eY]
theorem v61(n:aS)(x:Int×Int):aq (av aQ []) Tryz.f61 yB az (n,x,())=( U (cL bp n.2.2.1 x) fun(y2:Option Int)=>(y2.isSome=true->y2.getD (0:Int)=kz n x/\True)/\(y2.isSome=false->(-1:Int)=kz n x/\True)):=by kernel_rfl
theorem Jn:aN Tryz.prog 61 yB:=aN.cB (l:=[]) (A:=fun _=>az) aO trivial Tryz.func61 (by rfl) (by rfl) fun x _ hp=>by obtain⟨n,y,u⟩:=x;rw[v61];refine U.mk fun y2 e2=>?_;unfold kz;grind
theorem Ur(n:aS)(e:Int):(zB n e).2.1=ax n.1 e:=by grind[zB,ax]
theorem akU(n:aS)(e:Int):aq (av aQ []) Tryz.f115 KE az (n,e,())=( U (bif decide (e<(0:Int))then true else decide (e>=(n.1.1.length:Int))) fun(y2:Bool)=>(y2=true->([],(0:Int),(0:Int))=zB n e/\True)/\(y2=false->bD e n.1.1.length/\n.1.1.getD e.toNat ([],(0:Int),(0:Int))=zB n e/\True)):=by kernel_rfl
theorem aoT(n:aS)(e:Int):aq (av aQ []) Tryz.f115 KE az (n,e,()):=by rw[akU];refine U.mk fun y2 e2=>?_;(have key:y2=(decide (e<0)||decide ((n.1.1.length:Int)<=e)):=by grind);unfold zB;rw[<-key];refine⟨fun h=>?_,fun h=>?_⟩;grind;rw[h];rw[h]at key;have:=aG.1 key.symm;have h1:=aj this.1;have h2:=aj this.2;exact⟨⟨by omega,by omega⟩,rfl,trivial⟩
theorem ZZ:aN Tryz.prog 115 KE:=aN.cB (l:=[]) (A:=fun _=>az) aO trivial Tryz.func115 (by rfl) (by rfl) fun x _ hp=>aoT x.1 x.2.1
theorem v92(n:aS)(e:Int):aq (av aQ [(115,KE)]) Tryz.f92 o8 az (n,e,())=( True/\(zB n e).2.1=ax n.1 e/\True):=by kernel_rfl
theorem xe:aN Tryz.prog 92 o8:=aN.cB (l:=[(115,KE)]) (A:=fun _=>az) aO ⟨ZZ,trivial⟩ Tryz.func92 (by rfl) (by rfl) fun x _ hp=>by obtain⟨n,e,u⟩:=x;rw[v92];simp[Ur]
theorem akp(n:aS)(e:Int)(i:Int):aq (av aQ [(92,o8),(171,xA)]) Tryz.f170 Bq az (n,e,i,())=( U (bif decide (i<(0:Int))then true else decide (i>=eb (ax n.1 e))) fun(y3:Bool)=>U (ax n.1 e==(1:Int)) fun(y4:Bool)=>U (ax n.1 e==(3:Int)) fun(y5:Bool)=>U [(1:Int),(0:Int),(3:Int),(2:Int)] fun(y6:List Int)=>U (ax n.1 e==(2:Int)) fun(y7:Bool)=>U [(0:Int),(1:Int),(2:Int)] fun(y8:List Int)=>(decide (i<(0:Int))=false->True)/\(decide (i<(0:Int))=false->True)/\(y3=true->[]=ct n.1 e i/\True)/\(y3=false->True/\(y4=true->bH IntKind.i64 ((1:Int)-i)/\(List.replicate (1:Nat) ((0:Int),(0:Int))).set (0:Nat) ((1:Int)-i,(0:Int))=ct n.1 e i/\True)/\(y4=false->(y5=true->[(0:Int),(0:Int),(0:Int),(0:Int)].length=(4:Nat)/\(bD i (4:Nat)/\y6.length=(4:Nat))/\(List.replicate (1:Nat) ((0:Int),(0:Int))).set (0:Nat) (y6.getD i.toNat (0:Int),(0:Int))=ct n.1 e i/\True)/\(y5=false->(y7=true->((i==(0:Int))=true->((List.replicate (2:Nat) ((0:Int),(0:Int))).set (0:Nat) ((1:Int),(1:Int))).set (1:Nat) ((2:Int),(2:Int))=ct n.1 e i/\True)/\((i==(0:Int))=false->bD i y8.length/\(List.replicate (1:Nat) ((0:Int),(0:Int))).set (0:Nat) ((0:Int),y8.getD i.toNat (0:Int))=ct n.1 e i/\True))/\(y7=false->[]=ct n.1 e i/\True))))):=by kernel_rfl
theorem Xc{p:ab}{e i:Int}(h:(bif decide (i<0)then true else decide (i>=eb (ax p e)))=true):ct p e i=[]:=by(have hh:ez p (e,i)=false:=by cases hc:ez p (e,i)with|false=>rfl|true=>obtain⟨⟨h1,h2⟩,h3,h4⟩:=m7 hc;grind);grind[ct]
theorem W9{p:ab}{e i:Int}(h:(bif decide (i<0)then true else decide (i>=eb (ax p e)))=false):ez p (e,i)=true/\0<=i/\i<eb (ax p e):=by grind[eb,Hf,ez]
theorem aoA(n:aS)(e i:Int):aq (av aQ [(92,o8),(171,xA)]) Tryz.f170 Bq az (n,e,i,()):=by
 rw[akp];refine U.mk fun y3 e3=>U.mk fun y4 e4=>U.mk fun y5 e5=>U.mk fun y6 e6=>U.mk fun y7 e7=>U.mk fun y8 e8=>⟨fun _=>trivial,fun _=>trivial,fun h=>⟨?_,trivial⟩,fun h=>?_⟩;grind[Xc];obtain⟨hh,h0,hE⟩:=W9 (by rw[<-e3];exact h);have e1:eb 1=2:=by grind[eb]
 have e2:eb 2=3:=by grind[eb]
 have DL:eb 3=4:=by grind[eb]
 refine⟨trivial,fun h1=>?_,fun h1=>⟨fun h3=>?_,fun h3=>⟨fun h2=>⟨fun hi=>?_,fun hi=>?_⟩,fun h2=>?_⟩⟩⟩;rw[e4]at h1;have hk:=eq_of_beq h1;rw[hk,e1]at hE;refine⟨bC (by omega) (by omega),?_,trivial⟩;grind[ct];rw[e4]at h1;rw[e5]at h3;have hk:=eq_of_beq h3;rw[hk,DL]at hE;refine⟨rfl,⟨⟨by omega,by omega⟩,by grind⟩,?_,trivial⟩;unfold ct;rw[hh,h1,h3,e6];have hi:i=0\/i=1\/i=2\/i=3:=by omega
 rcases hi with rfl|rfl|rfl|rfl<;>rfl;rw[e4]at h1;rw[e5]at h3;rw[e7]at h2;grind[ct];rw[e4]at h1;rw[e5]at h3;rw[e7]at h2;have hk:=eq_of_beq h2;rw[hk,e2]at hE;refine⟨⟨by omega,by grind⟩,?_,trivial⟩;grind[ct];rw[e4]at h1;rw[e5]at h3;rw[e7]at h2;grind[ct]
theorem Ta:aN Tryz.prog 170 Bq:=aN.cB (l:=[(92,o8),(171,xA)]) (A:=fun _=>az) aO ⟨xe,NQ,trivial⟩ Tryz.func170 (by rfl) (by rfl) fun x hw hp=>aoA x.1 x.2.1 x.2.2.1
theorem akS(n:aS)(e:Int)(i:Int)(pos:Int):aq (av aQ [(170,Bq)]) Tryz.f118 Hx (aco (n,e,i,pos,())) (n,e,i,pos,())=( U (ct n.1 e i).length fun(y4:Nat)=>U (bP n.1 e i pos) fun(y5:Int×Bool)=>True/\(∃(I1:Nat),(I1<=y4/\qD (mg pos) (ct n.1 e i) I1)/\(I1:Int)=(0:Int)/\pos=pos/\ct n.1 e i=ct n.1 e i/\(y4:Int)=(y4:Int)/\True)/\∀(s6:Nat),U (decide ((s6:Int)<(y4:Int))) fun(y7:Bool)=>U ((ct n.1 e i).getD (s6:Int).toNat ((0:Int),(0:Int))) fun(y8:Int×Int)=>U (bif y8.2==(0:Int)then true else y8.2==pos) fun(y9:Bool)=>s6<=y4/\qD (mg pos) (ct n.1 e i) s6->(y7=true->bD (s6:Int) y4/\(y9=true->y8.1=y5.1/\true=y5.2/\True)/\(y9=false->bH IntKind.i64 ((s6:Int)+(1:Int))/\∃(eU:Nat),(eU<=y4/\qD (mg pos) (ct n.1 e i) eU)/\y4-eU<y4-s6/\(eU:Int)=(s6:Int)+(1:Int)/\pos=pos/\ct n.1 e i=ct n.1 e i/\(y4:Int)=(y4:Int)/\True))/\(y7=false->(0:Int)=y5.1/\false=y5.2/\True)):=by kernel_rfl
theorem aoS(n:aS)(e i pos:Int):aq (av aQ [(170,Bq)]) Tryz.f118 Hx (aco (n,e,i,pos,())) (n,e,i,pos,()):=by
 have hl:=BM n.1 e i;rw[akS];refine U.mk fun y4 e4=>U.mk fun y5 e5=>?_;simp only[ck,aX,eq_self,ak];refine⟨⟨0,⟨by omega,rfl⟩,rfl⟩,fun s=>U.mk fun y7 e7=>U.mk fun y8 e8=>U.mk fun y9 e9=>?_⟩;rintro⟨h1,h2⟩;have h2:((ct n.1 e i).take s).any (mg pos)=false:=h2;have e9:mg pos y8=y9:=by grind[mg]
 subst e4;refine⟨fun hs=>?_,fun hs=>?_⟩;have hs:=di e7 hs;refine⟨⟨by omega,by omega⟩,fun h=>?_,fun h=>⟨bC (by omega) (by omega),s+1,⟨by omega,?_⟩,by omega,by omega⟩⟩;have hf:(ct n.1 e i).find? (mg pos)=some y8:=by grind[Kh]
 have:bP n.1 e i pos=(y8.1,true):=by unfold bP;exact bA II hf
 grind;exact any_succ (0,0) hs h2 (by grind);have hf:=DK (eH e7 hs) h2;have:bP n.1 e i pos=(0,false):=by unfold bP;exact bA II hf
 grind
theorem ZX:aN Tryz.prog 118 Hx:=aN.cB (l:=[(170,Bq)]) (A:=aco) aO ⟨Ta,trivial⟩ Tryz.func118 (by rfl) (by rfl) fun x _ _=>aoS x.1 x.2.1 x.2.2.1 x.2.2.2.1
theorem akz(n:aS)(e:Int)(i:Int)(pos:Int):aq (av aQ [(118,Hx)]) Tryz.f147 Rw az (n,e,i,pos,())=( U (bP n.1 e i pos) fun(y4:Int×Bool)=>True/\y4.1=y4.1/\y4.2=y4.2/\True):=by kernel_rfl
theorem agL:aN Tryz.prog 147 Rw:=aN.cB (l:=[(118,Hx)]) (A:=fun _=>az) aO ⟨ZX,trivial⟩ Tryz.func147 (by rfl) (by rfl) fun x _ hp=>by obtain⟨n,e,i,pos,u⟩:=x;rw[akz];simp[U]
theorem v51(n:aS):aq (av aQ []) Tryz.f51 c51 az (n,())=((n.1.2.2.1.length:Int)=(n.1.2.2.1.length:Int)/\True):=by kernel_rfl
theorem alQ:aN Tryz.prog 51 c51:=aN.cB (l:=[]) (A:=fun _=>az) aO trivial Tryz.func51 (by rfl) (by rfl) fun x _ hp=>by obtain⟨n,u⟩:=x;rw[v51];simp
theorem v88(n:aS):aq (av aQ [(79,Rl)]) Tryz.f88 UA az (n,())=( tO n.1/\n.1=n.1/\True):=by kernel_rfl
theorem ZM:aN Tryz.prog 88 UA:=aN.cB (l:=[(79,Rl)]) (A:=fun _=>az) aO ⟨aeH,trivial⟩ Tryz.func88 (by rfl) (by rfl) fun x _ hp=>by obtain⟨n,u⟩:=x;rw[v88];exact⟨hp,rfl,trivial⟩
theorem aj5(s:Int×Int×Int)(e:Int):aq (av aQ []) Tryz.f200 MA az (s,e,())=((s.1==e)=(s.1==e)/\True):=by kernel_rfl
theorem af8:aN Tryz.prog 200 MA:=aN.cB (l:=[]) (A:=fun _=>az) aO trivial Tryz.func200 (by rfl) (by rfl) fun x _ hp=>by obtain⟨s,e,u⟩:=x;rw[aj5];simp
theorem v183(s:Int×Int×Int)(e:Int):aq (av aQ []) Tryz.f183 Rr az (s,e,())=((s.1==e)=(s.1==e)/\True):=by kernel_rfl
theorem agl:aN Tryz.prog 183 Rr:=aN.cB (l:=[]) (A:=fun _=>az) aO trivial Tryz.func183 (by rfl) (by rfl) fun x _ hp=>by obtain⟨s,e,u⟩:=x;rw[v183];simp
theorem Wu(l:List (Int×Int×Int))(v:Int×Unit):aq (av aQ [(200,MA)]) Tryz.f201 yE (GC (l,v,())) (l,v,())=((∃(ga:Nat),(ga<=l.length/\(List.take ga l).any (gi v.1)=false)/\(ga:Int)=(0:Int)/\l=l/\v=v/\(l.length:Int)=(l.length:Int)/\True)/\∀(s2:Nat),U (decide ((s2:Int)<(l.length:Int))) fun(y3:Bool)=>U ((l.getD (s2:Int).toNat ((0:Int),(0:Int),(0:Int))).1==v.1) fun(y4:Bool)=>s2<=l.length/\(List.take s2 l).any (gi v.1)=false->(y3=true->bD (s2:Int) l.length/\True/\(y4=true->(s2:Int)=js (gi v.1) l/\True)/\(y4=false->bH IntKind.i64 ((s2:Int)+(1:Int))/\∃(l9:Nat),(l9<=l.length/\(List.take l9 l).any (gi v.1)=false)/\l.length-l9<l.length-s2/\(l9:Int)=(s2:Int)+(1:Int)/\l=l/\v=v/\(l.length:Int)=(l.length:Int)/\True))/\(y3=false->(-1:Int)=js (gi v.1) l/\True)):=by kernel_rfl
theorem YH(l:List eJ)(v:Int×Unit)(hw:l.length<=1000):aq (av aQ [(200,MA)]) Tryz.f201 yE (GC (l,v,())) (l,v,()):=by rw[Wu];simp only[ck,aX,eq_self];refine⟨⟨0,⟨by omega,by simp⟩,by omega⟩,fun s=>U.mk fun y4 e4=>U.mk fun y5 e5=>?_⟩;rintro⟨h1,h2⟩;refine⟨fun hs=>?_,fun hs=>?_⟩;have hs:=di e4 hs;refine⟨⟨by omega,by omega⟩,fun e=>?_,fun e=>⟨bC (by omega) (by omega),s+1,⟨by omega,?_⟩,by omega,by omega⟩⟩;exact yv rm hs h2 (by show((l.getD s rm).1==v.1)=true;grind);exact any_succ rm hs h2 (by show((l.getD s rm).1==v.1)=false;grind);exact ur (s:=s) (eH e4 hs) h2
theorem S5:aN Tryz.prog 201 yE:=aN.cB (l:=[(200,MA)]) (A:=GC) aO ⟨af8,trivial⟩ Tryz.func201 (by rfl) (by rfl) fun x hw hp=>YH x.1 x.2.1 hp
theorem Wv(l:List (Int×Int×Int))(v:Int×Unit):aq (av aQ [(2010201,yE)]) Tryz.f182 B8 az (l,v,())=( l.length<=(1000:Nat)/\decide (js (gi v.1) l>=(0:Int))=l.any (gi v.1)/\True):=by kernel_rfl
theorem S6:aN Tryz.prog 182 B8:=aN.cB (l:=[(2010201,yE)]) (A:=fun _=>az) aO ⟨S5,trivial⟩ Tryz.func182 (by rfl) (by rfl) fun x hw hp=>by obtain⟨l,v,u⟩:=x;rw[Wv];exact⟨hp,n6,trivial⟩
theorem Wx(l:List (Int×Int×Int))(v:Int×Unit):aq (av aQ [(183,Rr)]) Tryz.f201 yG (GD (l,v,())) (l,v,())=((∃(ga:Nat),(ga<=l.length/\(List.take ga l).any (gi v.1)=false)/\(ga:Int)=(0:Int)/\l=l/\v=v/\(l.length:Int)=(l.length:Int)/\True)/\∀(s2:Nat),U (decide ((s2:Int)<(l.length:Int))) fun(y3:Bool)=>U ((l.getD (s2:Int).toNat ((0:Int),(0:Int),(0:Int))).1==v.1) fun(y4:Bool)=>s2<=l.length/\(List.take s2 l).any (gi v.1)=false->(y3=true->bD (s2:Int) l.length/\True/\(y4=true->(s2:Int)=js (gi v.1) l/\True)/\(y4=false->bH IntKind.i64 ((s2:Int)+(1:Int))/\∃(l9:Nat),(l9<=l.length/\(List.take l9 l).any (gi v.1)=false)/\l.length-l9<l.length-s2/\(l9:Int)=(s2:Int)+(1:Int)/\l=l/\v=v/\(l.length:Int)=(l.length:Int)/\True))/\(y3=false->(-1:Int)=js (gi v.1) l/\True)):=by kernel_rfl
theorem YI(l:List eJ)(v:Int×Unit)(hw:l.length<=1000):aq (av aQ [(183,Rr)]) Tryz.f201 yG (GD (l,v,())) (l,v,()):=by rw[Wx];simp only[ck,aX,eq_self];refine⟨⟨0,⟨by omega,by simp⟩,by omega⟩,fun s=>U.mk fun y4 e4=>U.mk fun y5 e5=>?_⟩;rintro⟨h1,h2⟩;refine⟨fun hs=>?_,fun hs=>?_⟩;have hs:=di e4 hs;refine⟨⟨by omega,by omega⟩,fun e=>?_,fun e=>⟨bC (by omega) (by omega),s+1,⟨by omega,?_⟩,by omega,by omega⟩⟩;exact yv rm hs h2 (by show((l.getD s rm).1==v.1)=true;grind);exact any_succ rm hs h2 (by show((l.getD s rm).1==v.1)=false;grind);exact ur (s:=s) (eH e4 hs) h2
theorem S8:aN Tryz.prog 201 yG:=aN.cB (l:=[(183,Rr)]) (A:=GD) aO ⟨agl,trivial⟩ Tryz.func201 (by rfl) (by rfl) fun x hw hp=>YI x.1 x.2.1 hp
theorem Wy(l:List (Int×Int×Int))(v:Int×Unit):aq (av aQ [(1840201,yG)]) Tryz.f182 Ca az (l,v,())=( l.length<=(1000:Nat)/\decide (js (gi v.1) l>=(0:Int))=l.any (gi v.1)/\True):=by kernel_rfl
theorem S9:aN Tryz.prog 182 Ca:=aN.cB (l:=[(1840201,yG)]) (A:=fun _=>az) aO ⟨S8,trivial⟩ Tryz.func182 (by rfl) (by rfl) fun x hw hp=>by obtain⟨l,v,u⟩:=x;rw[Wy];exact⟨hp,n6,trivial⟩
theorem SS(r:aM)(e:Int):r.2.2.2.1.any (gi e)=uM r e:=by unfold uM dx pE;rw[List.any_map];rfl
theorem v143(r:aM)(e:Int):aq (av aQ [(1840182,Ca)] [] [(183,.pair (.ref I) .unit)]) Tryz.f143 Rx az (r,e,())=( r.2.2.2.1.length<=(1000:Nat)/\r.2.2.2.1.any (gi e)=uM r e/\True):=by kernel_rfl
theorem agO:aN Tryz.prog 143 Rx:=aN.cB (l:=[(1840182,Ca)]) (wraps:=[]) (clos:=[(183,.pair (.ref I) .unit)]) (A:=fun _=>az) aO ⟨S9,trivial⟩ Tryz.func143 (by rfl) (by rfl) fun x hw hp=>by obtain⟨r,e,u⟩:=x;rw[v143];exact⟨hp,SS r e,trivial⟩
theorem v139(l:List (Int×Int×Int)):aq (av aQ []) Tryz.f139 Hw az (l,())=( U (List.replicate (0:Nat) ((0:Int),(0:Int),(0:Int))) fun(y1:List (Int×Int×Int))=>∀(b2:Bool),(b2=true->l=[])->(b2=true->[]=l/\True)/\(b2=false->roomFor (y1.length+l.length) (24:Nat)/\y1++l=l/\True)):=by kernel_rfl
theorem ZW:aN Tryz.prog 139 Hw:=aN.cB (l:=[]) (A:=fun _=>az) aO trivial Tryz.func139 (by rfl) (by rfl) fun x _ hp=>by obtain⟨l,u⟩:=x;rw[v139];refine U.mk fun y1 e1=>fun b hb=>⟨fun h=>⟨(hb h).symm,trivial⟩,fun h=>⟨tK hp (by grind) (by decide),by grind,trivial⟩⟩
theorem akk(p:Int×List (Int×Int×Int)×List Int×List (List (Int×Int)))(e:Int):aq (av aQ [(2010182,B8)] [] [(200,.pair (.ref I) .unit)]) Tryz.f178 Rs az (p,e,())=( U (bif decide ((p.2.1.length:Int)<(12:Int))then e !=p.1 else false) fun(y2:Bool)=>(y2=true->p.2.1.length<=(1000:Nat))/\(bif y2 then !p.2.1.any (gi e)else false)=Mq p e/\True):=by kernel_rfl
theorem agp:aN Tryz.prog 178 Rs:=aN.cB (l:=[(2010182,B8)]) (wraps:=[]) (clos:=[(200,.pair (.ref I) .unit)]) (A:=fun _=>az) aO ⟨S6,trivial⟩ Tryz.func178 (by rfl) (by rfl) fun x hw hp=>by obtain⟨p,e,u⟩:=x;rw[akk];refine U.mk fun y2 e2=>⟨fun _=>hp,?_,trivial⟩;unfold Mq;grind
theorem akj(p:Int×List (Int×Int×Int)×List Int×List (List (Int×Int)))(n:aS)(x:Int×Int):fH (av aQ [(170,Bq)]) Tryz.f179 MG az (p,n,x,())=( U ((List.replicate (1:Nat) ((0:Int),(0:Int),(0:Int))).set (0:Nat) (x.1,x.2,(-1:Int))) fun(y3:List (Int×Int×Int))=>U ((List.replicate (1:Nat) (0:Int)).set (0:Nat) (0:Int)) fun(y4:List Int)=>U ((List.replicate (1:Nat) []).set (0:Nat) (ct n.1 x.1 x.2)) fun(y5:List (List (Int×Int)))=>U (Bi p n x).2.2 fun(y6:List Int×List (List (Int×Int)))=>roomFor (p.2.1.length+y3.length) (24:Nat)/\roomFor (p.2.2.1.length+y4.length) (8:Nat)/\True/\roomFor (p.2.2.2.length+y5.length) (24:Nat)/\p.1=(Bi p n x).1/\p.2.1++y3=(Bi p n x).2.1/\p.2.2.1++y4=y6.1/\p.2.2.2++y5=y6.2/\True):=by kernel_rfl
theorem ago:lS Tryz.prog 179 MG:=lS.cB (l:=[(170,Bq)]) (A:=fun _=>az) aO ⟨Ta,trivial⟩ Tryz.func179 (by rfl) (by rfl) fun x hw hp=>by
 obtain⟨p,n,y,u⟩:=x;show fH (av aQ [(170,Bq)]) Tryz.f179 MG az (p,n,y,());obtain⟨h1,h2,h3⟩:=hp;have h1:p.2.1.length<=1000:=h1;have h2:p.2.2.1.length=p.2.1.length:=h2;have h3:p.2.2.2.length=p.2.1.length:=h3;rw[akj];refine U.mk fun y3 e3=>U.mk fun y4 e4=>U.mk fun y5 e5=>U.mk fun y6 e6=>?_;have l3:y3.length=1:=by grind
 have l4:y4.length=1:=by grind
 have l5:y5.length=1:=by grind
 refine⟨gU (by omega) (by decide),gU (by omega) (by decide),trivial,gU (by omega) (by decide),?_⟩;rw[e6,e3,e4,e5];simp[Bi]
theorem Jt(p:me):∀k,(jo p k).length<=k|0=>aZ _|k+1=>by have:=Jt p k;show(jo p k++ui p k).length<=_;rw[df];(have:(ui p k).length<=1:=by unfold ui;cases(p.2.2.1.getD k 0!=0)<;>simp);omega
theorem aki(p:Int×List (Int×Int×Int)×List Int×List (List (Int×Int)))(s:Int)(to:Int)(stop:Int):fH (av aQ [(139,Hw)]) Tryz.f180 MF (ace (p,s,to,stop,())) (p,s,to,stop,())=( lW p.2.1/\(∃(uU:Nat),uU<=p.2.1.length/\(uU:Int)=(0:Int)/\(p.2.1.length:Int)=(p.2.1.length:Int)/\s=s/\to=to/\stop=stop/\false=false/\p.2.1=p.2.1/\jo p uU=[]/\(0:Int)=(0:Int)/\(0:Int)=(0:Int)/\(0:Int)=(0:Int)/\false=false/\p.1=p.1/\p.2.1=p.2.1/\p.2.2.1=p.2.2.1/\p.2.2.2=p.2.2.2/\True)/\∀(s4:Nat),U (decide ((s4:Int)<(p.2.1.length:Int))) fun(y5:Bool)=>U (p.2.2.1.getD (s4:Int).toNat (0:Int)) fun(y6:Int)=>U ((List.replicate (1:Nat) ((0:Int),(0:Int))).set (0:Nat) ((p.2.1.getD (s4:Int).toNat ((0:Int),(0:Int),(0:Int))).1,y6)) fun(y7:List (Int×Int))=>s4<=p.2.1.length->(y5=true->bD (s4:Int) p.2.1.length/\bD (s4:Int) p.2.2.1.length/\((y6 !=(0:Int))=true->bD (s4:Int) p.2.2.1.length/\roomFor ((jo p s4).length+y7.length) (16:Nat)/\bH IntKind.i64 ((s4:Int)+(1:Int))/\∃(kA:Nat),kA<=p.2.1.length/\p.2.1.length-kA<p.2.1.length-s4/\(kA:Int)=(s4:Int)+(1:Int)/\(p.2.1.length:Int)=(p.2.1.length:Int)/\s=s/\to=to/\stop=stop/\false=false/\p.2.1=p.2.1/\jo p kA=jo p s4++y7/\(0:Int)=(0:Int)/\(0:Int)=(0:Int)/\(0:Int)=(0:Int)/\false=false/\p.1=p.1/\p.2.1=p.2.1/\p.2.2.1=p.2.2.1/\p.2.2.2=p.2.2.2/\True)/\((y6 !=(0:Int))=false->bH IntKind.i64 ((s4:Int)+(1:Int))/\∃(kA:Nat),kA<=p.2.1.length/\p.2.1.length-kA<p.2.1.length-s4/\(kA:Int)=(s4:Int)+(1:Int)/\(p.2.1.length:Int)=(p.2.1.length:Int)/\s=s/\to=to/\stop=stop/\false=false/\p.2.1=p.2.1/\jo p kA=jo p s4/\(0:Int)=(0:Int)/\(0:Int)=(0:Int)/\(0:Int)=(0:Int)/\false=false/\p.1=p.1/\p.2.1=p.2.1/\p.2.2.1=p.2.2.1/\p.2.2.2=p.2.2.2/\True))/\(y5=false->(s,to,stop,p.2.1,jo p s4,[],[],[],false)=kL p s to stop/\p.1=p.1/\p.2.1=p.2.1/\p.2.2.1=p.2.2.1/\p.2.2.2=p.2.2.2/\True)):=by kernel_rfl
theorem aot(p:me)(s to stop:Int)(hp:lX p):fH (av aQ [(139,Hw)]) Tryz.f180 MF (ace (p,s,to,stop,())) (p,s,to,stop,()):=by obtain⟨h1,h2,h3⟩:=hp;rw[aki];simp only[ck,aX,eq_self];refine⟨h1,⟨0,by omega,rfl,rfl⟩,fun k=>U.mk fun y5 e5=>U.mk fun y6 e6=>U.mk fun y7 e7=>fun hk=>⟨fun h=>?_,fun h=>?_⟩⟩;(·have T8:=di e5 h;have hn:=Jt p k;(have l7:y7.length=1:=by grind);refine⟨⟨by omega,by omega⟩,⟨by omega,by omega⟩,fun h6=>⟨⟨by omega,by omega⟩,gU (by omega) (by decide),bC (by omega) (by omega),k+1,by omega,by omega,by omega,?_⟩,fun h6=>⟨bC (by omega) (by omega),k+1,by omega,by omega,by omega,?_⟩⟩;all_goals grind[jo,ui]);grind[kL]
theorem agn:lS Tryz.prog 180 MF:=lS.cB (l:=[(139,Hw)]) (A:=ace) aO ⟨ZW,trivial⟩ Tryz.func180 (by rfl) (by rfl) fun x hw hp=>aot x.1 x.2.1 x.2.2.1 x.2.2.2.1 hp
theorem akh(p:Int×List (Int×Int×Int)×List Int×List (List (Int×Int))):fH (av aQ []) Tryz.f181 ME az (p,())=( U ((p.2.1.length:Int)-(1:Int)) fun(y1:Int)=>bH IntKind.i64 y1/\((0:Int)<=y1/\y1<=(p.2.1.length:Int))/\((0:Int)<=y1/\y1<=(p.2.2.1.length:Int))/\((0:Int)<=y1/\y1<=(p.2.2.2.length:Int))/\p.1=(pD p).1/\List.take y1.toNat p.2.1=(pD p).2.1/\List.take y1.toNat p.2.2.1=(pD p).2.2.1/\List.take y1.toNat p.2.2.2=(pD p).2.2.2/\True):=by kernel_rfl
theorem agm:lS Tryz.prog 181 ME:=lS.cB (l:=[]) (A:=fun _=>az) aO trivial Tryz.func181 (by rfl) (by rfl) fun x hw hp=>by obtain⟨p,u⟩:=x;show fH (av aQ []) Tryz.f181 ME az (p,());obtain⟨⟨h1,h2,h3⟩,h4⟩:=hp;have h1:p.2.1.length<=1000:=h1;have h2:p.2.2.1.length=p.2.1.length:=h2;have h3:p.2.2.2.length=p.2.1.length:=h3;have h4:0<p.2.1.length:=h4;rw[akh];refine U.mk fun y1 e1=>?_;(have e:y1.toNat=p.2.1.length-1:=by omega);refine⟨bC (by omega) (by omega),⟨by omega,by omega⟩,⟨by omega,by omega⟩,⟨by omega,by omega⟩,?_⟩;rw[e];simp[pD]
abbrev eA:=eJ×Int×List (Int×Int)
def OS(f:eA):List dH:=bif f.2.1==0 then[]else[(f.1.1,f.2.1)]
def bR(gs:List eA):List eJ:=gs.reverse.map fun f=>f.1
def yg(gs:List eA):List dH:=gs.reverse.flatMap OS
def qE(b:Int)(gs:List eA):List Int:=b::gs.reverse.map fun f=>f.1.1
def tP(s:Int)(gs:List eA)(stop to:Int):aM:=(s,to,stop,bR gs,yg gs,[],[],[],false)
def xc(s:Int)(gs:List eA):aM:=(s,bif gs.isEmpty then 0 else-1,0,bR gs,yg gs,[],[],[],false)
theorem pJ(f:eA)(gs:List eA):bR (f::gs)=bR gs++[f.1]:=by grind[bR]
theorem CN(f:eA)(gs:List eA):yg (f::gs)=yg gs++OS f:=by grind[yg]
theorem Xq(b:Int)(f:eA)(gs:List eA):qE b (f::gs)=qE b gs++[f.1.1]:=by grind[qE]
theorem j5(gs:List eA):(bR gs).length=gs.length:=by grind[bR]
theorem yQ(s:Int)(gs:List eA)(st:eJ)(pos:Int)(l:List (Int×Int))(stop to:Int):sK (xc s gs) st pos stop to=tP s ((st,pos,l)::gs) stop to:=by unfold sK tP;rw[pJ,CN];rfl
theorem Sl(s:Int)(gs:List eA)(st:eJ)(pos:Int)(l:List (Int×Int)):sK (xc s gs) st pos 0 (-1)=xc s ((st,pos,l)::gs):=by rw[yQ s gs st pos l];rfl
def vB(p:ab)(s b:Int)(gs:List eA)(f:eA):List aM:=f.2.2.flatMap (xN p (E9 p (12-gs.length)) (xc s gs) (f.1.1,f.1.2.1) (qE b gs++[f.1.1]))
def pk(p:ab)(s b:Int):List eA->List aM|[]=>[]|f::gs=>vB p s b gs f++pk p s b gs
def tY(p:ab)(s b:Int)(x:ar)(gs:List eA):List aM:=E9 p (13-gs.length) (xc s gs) x (qE b gs)++pk p s b gs
def CO(b:Int)(gs:List eA)(x:ar):Bool:=decide (gs.length<12)&&!dx (qE b gs) x.1
theorem SU{p:ab}{e i:Int}(h:ax p e=4):ct p e i=[]:=by grind[ct]
theorem X5{p:ab}{s b:Int}{x:ar}{gs:List eA}(hl:gs.length<=12)(h:CO b gs x=false):tY p s b x gs=pk p s b gs:=by unfold tY;(have:E9 p (13-gs.length) (xc s gs) x (qE b gs)=[]:=by obtain⟨n,hn⟩:∃n,13-gs.length=n+1:=⟨12-gs.length,by omega⟩;rw[hn];show uX p (E9 p n) (xc s gs) x (qE b gs)=[];unfold uX;(have hc:(dx (qE b gs) x.1||decide ((xc s gs).2.2.2.1.length=12))=true:=by have e:(xc s gs).2.2.2.1.length=gs.length:=j5 gs;rw[e];unfold CO at h;grind);grind);grind
theorem Q7{p:ab}{s b:Int}{x:ar}{gs:List eA}(h:CO b gs x=true):tY p s b x gs=(bif ax p x.1==4 then[tP s (((x.1,x.2,-1),0,[])::gs) 2 (-1)]else[])++pk p s b (((x.1,x.2,-1),0,ct p x.1 x.2)::gs):=by unfold CO at h;rw[ae]at h;have hl:=ao h.1;(have hm:dx (qE b gs) x.1=false:=by grind);unfold tY;obtain⟨n,hn⟩:∃n,13-gs.length=n+1:=⟨12-gs.length,by omega⟩;(have hn2:n=12-gs.length:=by omega);rw[hn];have e1:E9 p (n+1) (xc s gs) x (qE b gs)=uX p (E9 p n) (xc s gs) x (qE b gs):=rfl;have e:(xc s gs).2.2.2.1.length=gs.length:=j5 gs;rw[e1];unfold uX;rw[e,hm,aC (show¬gs.length=12 by omega)];cases hk:(ax p x.1==4)with|true=>rw[SU (eq_of_beq hk)];grind[pk,vB,yQ]|false=>show tU p (E9 p n) (xc s gs) x (qE b gs++[x.1]) (ct p x.1 x.2).length++pk p s b gs=[]++(vB p s b gs ((x.1,x.2,-1),0,ct p x.1 x.2)++pk p s b gs);grind[tU,vB]
theorem FT{p:ab}{s b:Int}{e i o pos:Int}{w:Int×Int}{ws:List (Int×Int)}{gs:List eA}:pk p s b (((e,i,o),pos,w::ws)::gs)=xN p (E9 p (12-gs.length)) (xc s gs) (e,i) (qE b gs++[e]) w++pk p s b (((e,i,w.1),w.2,ws)::gs):=by show vB p s b gs ((e,i,o),pos,w::ws)++pk p s b gs=_++(vB p s b gs ((e,i,w.1),w.2,ws)++pk p s b gs);grind[vB]
theorem ND{p:ab}{s b:Int}{e i o pos:Int}{w:Int×Int}{ws:List (Int×Int)}{gs:List eA}(h:decide (0<=cr p (e,w.1))=true):pk p s b (((e,i,o),pos,w::ws)::gs)=[tP s (((e,i,w.1),w.2,ws)::gs) 1 (cr p (e,w.1))]++pk p s b (((e,i,w.1),w.2,ws)::gs):=by grind[FT,xN,yQ]
theorem NF{p:ab}{s b:Int}{e i o pos:Int}{w:Int×Int}{ws:List (Int×Int)}{gs:List eA}(h:decide (0<=cr p (e,w.1))=false)(hn:(aF p (e,w.1)).2=false):pk p s b (((e,i,o),pos,w::ws)::gs)=[tP s (((e,i,w.1),w.2,ws)::gs) 3 (-1)]++pk p s b (((e,i,w.1),w.2,ws)::gs):=by grind[FT,xN,yQ]
theorem Zz{p:ab}{s b:Int}{e i o pos:Int}{w:Int×Int}{ws:List (Int×Int)}{gs:List eA}(h:decide (0<=cr p (e,w.1))=false)(hn:(aF p (e,w.1)).2=true):pk p s b (((e,i,o),pos,w::ws)::gs)=tY p s b (aF p (e,w.1)).1 (((e,i,w.1),w.2,ws)::gs):=by rw[FT];grind[xN,tY,Sl,Xq]
def wB:Nat->Nat|0=>1|n+1=>2+2*(1+wB n)
def wF:List eA->Nat|[]=>0|f::gs=>1+f.2.2.length*(1+wB (12-gs.length))+wF gs
def wE(gs:List eA):Nat:=wB (13-gs.length)+wF gs
theorem acQ(n:Nat):1<=wB n:=by cases n<;>simp only[wB]<;>omega
theorem Xa(p:ab)(e i:Int):(ct p e i).length<=2:=by unfold ct;grind
theorem acP{p:ab}{e i:Int}{st:eJ}{pos:Int}{gs:List eA}(hl:gs.length<12):wF ((st,pos,ct p e i)::gs)<wE gs:=by have h2:=Xa p e i;unfold wE;obtain⟨n,hn⟩:∃n,13-gs.length=n+1:=⟨12-gs.length,by omega⟩;(have hn2:12-gs.length=n:=by omega);rw[hn];grind[ct,wB,wF]
theorem ajP(gs:List eA):wF gs<wE gs:=by grind[acQ,wE]
theorem afK(st:eJ)(pos:Int)(l:List (Int×Int))(gs:List eA):wF gs<wF ((st,pos,l)::gs):=by grind[wF]
theorem afJ(st st':eJ)(pos pos':Int)(w:Int×Int)(ws:List (Int×Int))(gs:List eA):wF ((st',pos',ws)::gs)<wF ((st,pos,w::ws)::gs):=by grind[wF,iv]
theorem ajO(st st':eJ)(pos pos':Int)(w:Int×Int)(ws:List (Int×Int))(gs:List eA):wE ((st',pos',ws)::gs)<wF ((st,pos,w::ws)::gs):=by show wB (13-(gs.length+1))+(1+ws.length*(1+wB (12-gs.length))+wF gs)<1+(ws.length+1)*(1+wB (12-gs.length))+wF gs;grind
def D6(n m:Nat):Prop:=∀y s,tZ n y s->tZ m y s->l6 n y s=l6 m y s
theorem Em{n m:Nat}(ih:D6 n m)(e stop:Int){s:bc}(h:lY n s)(k:lY m s):Ah (l6 n) e stop s=Ah (l6 m) e stop s:=by unfold Ah;cases hn:(aF s.1 (e,stop)).2 with|true=>exact ih _ _ ⟨h,rR hn⟩ ⟨k,rR hn⟩|false=>rfl
theorem NM{n m:Nat}(ih:D6 n m){y:ar}{s:bc}(h:ql n y s)(k:ql m y s):ue (l6 n) y s=ue (l6 m) y s:=by obtain⟨⟨h1,h2⟩,h3⟩:=h;obtain⟨⟨k1,k2⟩,k3⟩:=k;obtain⟨hz,_⟩:=rL h1.1 y.1;unfold ue;cases y.2==0 with|true=>(cases(eI s y.1).1 with|true=>have e1:=Em ih y.1 1 (hz.lY h1) (hz.lY k1);have q1:=tx (xy n) y.1 1 (hz.lY h1);have e2:=Em ih y.1 2 (q1.lY (hz.lY h1)) (q1.lY (hz.lY k1));grind|false=>rfl)|false=>cases !dm (eZ s) (y.1,y.2)&&!dm (cu s) (y.1,y.2)with|true=>rfl|false=>cases(eI s y.1).1 with|true=>exact Em ih y.1 0 (hz.lY h1) (hz.lY k1)|false=>rfl
theorem Xl{n m:Nat}(ih:D6 n m){y:ar}{s:bc}(h:ql n y s)(k:ql m y s):D7 (l6 n) y s=D7 (l6 m) y s:=by have h1:=h.1.1;have k1:=k.1.1;obtain⟨hz,_⟩:=rL h1.1 y.1;unfold D7;cases decide (0<=cr s.1 y)&&!s.1.2.2.2.2.2.2.2.2 with|true=>rfl|false=>cases ax s.1 y.1==4 with|true=>rfl|false=>cases ax s.1 y.1==2 with|true=>grind[NM]|false=>cases(eI s y.1).1 with|true=>exact Em ih _ _ (hz.lY h1) (hz.lY k1)|false=>rfl
theorem Kx:∀n m,D6 n m|0,_=>fun y s h _=>absurd h DM|_+1,0=>fun y s _ k=>absurd k DM|n+1,m+1=>fun y s h k=>by show AA (l6 n) y s=AA (l6 m) y s;unfold AA;cases hc:uM (vL s) y.1||mP (dE s) y with|true=>rfl|false=>rw[aG]at hc;exact Xl (Kx n m) (BR h hc.2).1 (BR k hc.2).1
def pn(p:ab)(e stop:Int):List ar:=bif(aF p (e,stop)).2 then[(aF p (e,stop)).1]else[]
def fin(ts:List ar)(s:bc):bc:=ts.foldl (fun s y=>l6 161 y s) s
theorem Bd(a b:List ar)(s:bc):fin (a++b) s=fin b (fin a s):=List.foldl_append
def lN(y:ar)(s:bc):List ar×bc:=bif y.2==0 then(bif(eI s y.1).1 then(pn s.1 y.1 1++pn s.1 y.1 2,(eI s y.1).2)else([],(eI s y.1).2))else bif !dm (eZ s) (y.1,y.2)&&!dm (cu s) (y.1,y.2)then([],bif dm (cu s) (y.1,3-y.2)then s else H6 s (cu s++[(y.1,3-y.2)]))else(bif(eI s y.1).1 then(pn s.1 y.1 0,(eI s y.1).2)else([],(eI s y.1).2))
def AS(y:ar)(s:bc):List ar×bc:=bif decide (0<=cr s.1 y)&&!s.1.2.2.2.2.2.2.2.2 then([],bif dx (eD s) (cr s.1 y)then s else IZ s (eD s++[cr s.1 y]))else bif ax s.1 y.1==4 then([],Dj s)else bif ax s.1 y.1==2 then lN y s else(bif(eI s y.1).1 then(pn s.1 y.1 (wq s.1 y.1 y.2 0).1,(eI s y.1).2)else([],(eI s y.1).2))
def lM(y:ar)(s:bc):List ar×bc:=bif uM (vL s) y.1||mP (dE s) y then([],s)else AS y (gG s (dE s++[y]))
theorem H8{s:bc}(e stop:Int)(h:lY 160 s):Ah (l6 160) e stop s=fin (pn s.1 e stop) s:=by unfold Ah pn;cases hn:(aF s.1 (e,stop)).2 with|true=>exact Kx 160 161 _ _ ⟨h,rR hn⟩ ⟨⟨h.1,by have:=h.2;omega⟩,rR hn⟩|false=>rfl
theorem Jh{p:ab}{e stop:Int}{x:ar}(h:x∈pn p e stop):x∈cT p:=by unfold pn at h;cases hn:(aF p (e,stop)).2 with|true=>grind[rR]|false=>grind
theorem El(p:ab)(e stop:Int):(pn p e stop).length<=1:=by grind[pn]
structure Stepped (s s':bc) (ys:List ar) (out:bc):Prop where
 keeps:nj s s'
 NL:∀y∈ys,y∈cT s.1
 two:ys.length<=2
 same:out=fin ys s'
theorem HJ{y:ar}{s:bc}(h:ql 160 y s):Stepped s (lN y s).2 (lN y s).1 (ue (l6 160) y s):=by obtain⟨⟨h1,h2⟩,h3⟩:=h;obtain⟨hz,_⟩:=rL h1.1 y.1;have none:∀{s':bc},nj s s'->Stepped s s' [] s':=fun k=>⟨k,fun y hy=>absurd hy hY,aT _,rfl⟩;unfold ue lN;cases y.2==0 with|true=>(cases(eI s y.1).1 with|true=>refine⟨hz,fun x hx=>?_,?_,?_⟩;grind[Jh];grind[El];have q1:=tx (xy 160) y.1 1 (hz.lY h1);show Ah (l6 160) y.1 2 (Ah (l6 160) y.1 1 (eI s y.1).2)=fin (pn s.1 y.1 1++pn s.1 y.1 2) (eI s y.1).2;rw[H8 _ _ (q1.lY (hz.lY h1)),q1.vO,H8 _ _ (hz.lY h1),Bd,hz.vO]|false=>grind)|false=>cases !dm (eZ s) (y.1,y.2)&&!dm (cu s) (y.1,y.2)with|true=>(cases dm (cu s) (y.1,3-y.2)with|true=>exact none (.refl h1.1)|false=>refine none ⟨⟨h1.1.zt,h1.1.A3,h1.1.nodup,h1.1.sub,?_,h1.1.holds,h1.1.Au,h1.1.steps⟩,rfl,aZ _⟩;show(cu s++[(y.1,3-y.2)]).length<=(dE s).length;grind)|false=>cases(eI s y.1).1 with|true=>refine⟨hz,fun x hx=>Jh hx,?_,?_⟩;grind[El];show Ah (l6 160) y.1 0 (eI s y.1).2=fin (pn s.1 y.1 0) (eI s y.1).2;rw[H8 _ _ (hz.lY h1),hz.vO]|false=>grind
theorem NW{y:ar}{s:bc}(h:ql 160 y s)(hh:(eD s).length<(dE s).length):Stepped s (AS y s).2 (AS y s).1 (D7 (l6 160) y s):=by have h1:=h.1.1;obtain⟨hz,_⟩:=rL h1.1 y.1;have none:∀{s':bc},nj s s'->Stepped s s' [] s':=fun k=>⟨k,fun y hy=>absurd hy hY,aT _,rfl⟩;unfold D7 AS;cases decide (0<=cr s.1 y)&&!s.1.2.2.2.2.2.2.2.2 with|true=>(cases dx (eD s) (cr s.1 y)with|true=>exact none (.refl h1.1)|false=>refine none ⟨⟨h1.1.zt,h1.1.A3,h1.1.nodup,h1.1.sub,h1.1.guards,?_,h1.1.Au,h1.1.steps⟩,rfl,aZ _⟩;show(eD s++[cr s.1 y]).length<=(dE s).length;grind)|false=>cases ax s.1 y.1==4 with|true=>exact none (Bv h1.1)|false=>cases ax s.1 y.1==2 with|true=>exact HJ h|false=>cases(eI s y.1).1 with|true=>refine⟨hz,fun x hx=>Jh hx,?_,?_⟩;grind[El];show Ah (l6 160) y.1 _ (eI s y.1).2=fin (pn s.1 y.1 _) (eI s y.1).2;rw[H8 _ _ (hz.lY h1),hz.vO]|false=>grind
def gM(ts:List ar)(s:bc):Nat:=3*((cT s.1).length-(dE s).length)+ts.length
theorem XY{y:ar}{ts:List ar}{s:bc}(h:tZ 161 y s):fin (y::ts) s=fin ((lM y s).1++ts) (lM y s).2/\nj s (lM y s).2/\(∀x∈(lM y s).1,x∈cT s.1)/\gM ((lM y s).1++ts) (lM y s).2<gM (y::ts) s:=by have e0:fin (y::ts) s=fin ts (AA (l6 160) y s):=rfl;rw[e0];unfold AA lM;cases hc:uM (vL s) y.1||mP (dE s) y with|true=>refine⟨rfl,.refl h.1.1,fun x hx=>absurd hx hY,?_⟩;grind[gM]|false=>rw[aG]at hc;obtain⟨m1,m2,m3⟩:=BR h hc.2;have k:=NW m1 m2;refine⟨?_,m3.trans k.keeps,fun x hx=>k.NL x hx,?_⟩;show fin ts (D7 (l6 160) y (gG s (dE s++[y])))=fin ((AS y (gG s (dE s++[y]))).1++ts) (AS y (gG s (dE s++[y]))).2;rw[k.same,Bd];show gM ((AS y (gG s (dE s++[y]))).1++ts) (AS y (gG s (dE s++[y]))).2<gM (y::ts) s;have h1:=k.keeps.met;have h2:=k.keeps.vO;have h3:=vQ k.keeps.inv.nodup k.keeps.inv.sub;have h4:=k.two;(have hl:(dE (gG s (dE s++[y]))).length=(dE s).length+1:=by show(dE s++[y]).length=_;simp);(have h6:cT (AS y (gG s (dE s++[y]))).2.1=cT s.1:=by rw[h2];rfl);grind[gM]
theorem CJ{p:ab}{r:aM}{x:ar}(h:x∈eh p r):(aF p x).2=true:=by grind[eh,gV,gb]
theorem Kf{p:ab}{r:aM}(h:vt p r):∀k,k<=(eh p r).length->uo p r k=fin (((eh p r).take k).map fun x=>(aF p x).1) (s0 p r)|0,_=>rfl|k+1,hk=>by have ih:=Kf h k (by omega);have hp:=(Gk h k).2;have hj:=CJ (vp zP (show k<(eh p r).length by omega));rw[bX (by omega),dW,Bd,<-ih];show Ah (l6 161) ((eh p r).getD k zP).1 ((eh p r).getD k zP).2 (uo p r k)=_;(have e:(eh p r)[k]'(by omega)=(eh p r).getD k zP:=by grind);unfold Ah;rw[hp,show(((eh p r).getD k zP).1,((eh p r).getD k zP).2)=(eh p r).getD k zP from rfl,hj,e];rfl
def eX(gs:List eA):List Int:=gs.reverse.map fun f=>f.2.1
def cQ(gs:List eA):List (List (Int×Int)):=gs.reverse.map fun f=>f.2.2
def wL:List Nat->Nat|[]=>0|n::ns=>1+n*(1+wB (12-ns.length))+wL ns
def ab0(S:St):List Nat:=match find S.bl 35 with|some (.cells [_,_,_,.row _ id])=>(match find S.bl id with|some (.row _ _ (.list _) xs)=>(xs.map fun l=>(Ty.L l).length).reverse|_=>[])|_=>[]
def dk(n:aS):Prop:=n=ic n.1/\bK n.1=0
def abV:bg where args:=[.ref gF,I];out:=.data [.list n9];pre:=fun(x:aS×Int×Unit)=>dk x.1;fn:=fun(x:aS×Int×Unit)=>(wS x.1.1 x.2.1,())
def da(n:aS)(s:Int):Int:=(vf n.1 s).1.1
def Bm(n:aS)(s:Int)(g:(List eA×ar)×List aM):Prop:=g.2++tY n.1 s (da n s) g.1.2 g.1.1=wS n.1 s/\g.1.1.length<=12
def lA(n:aS)(s:Int)(w:Nat)(g:List eA×List aM):Prop:=g.2++pk n.1 s (da n s) g.1=wS n.1 s/\g.1.length<=12/\wF g.1<=w
def a138(x:aS×Int×Unit):gh:=bN [(9,fun _=>{σ:=(List eA×ar)×List aM,ok:=fun g=>Bm x.1 x.2.1 g,mu:=fun g=>wE g.1.1,sl:=fun g=>[(8,.one (.row n9 1000)),(9,.one (.ptr 35 0))],bl:=fun g=>[(7,.cells [.a6 I g.1.2.1,.a6 I g.1.2.2]),(35,.cells [.a6 I (da x.1 x.2.1),.row n8 1001,.row I 1002,.row (.list BA) 1003]),(1001,.row false 216 n8 (bR g.1.1)),(1002,.row false 3 I (eX g.1.1)),(1003,.row false 142 (.list BA) (cQ g.1.1)),(1000,.row false 164 n9 g.2)],keep:=[0,1,5,7],dg:=[5]}),(13,fun S=>{σ:=List eA×List aM,ok:=fun g=>lA x.1 x.2.1 (wL (ab0 S)) g,mu:=fun g=>wF g.1,sl:=fun g=>[(8,.one (.row n9 1000)),(9,.one (.ptr 35 0))],bl:=fun g=>[(35,.cells [.a6 I (da x.1 x.2.1),.row n8 1001,.row I 1002,.row (.list BA) 1003]),(1001,.row false 216 n8 (bR g.1)),(1002,.row false 3 I (eX g.1)),(1003,.row false 142 (.list BA) (cQ g.1)),(1000,.row false 164 n9 g.2)],keep:=[0,1,5,7],dg:=[5,7]})]
theorem Z3{p:ab}{x:ar}(h:(aF p x).2=false):(aF p x).1=(0,0):=by unfold aF at*;generalize(p.2.1.find? fun j=>j.1==x||j.2==x)=o at*;cases o with|none=>rfl|some j=>grind[Er]
theorem qp{n:aS}(h:dk n)(x:ar):eY n x=aF n.1 x:=by have e:n.2.1=gq n.1:=(bA (fun m:aS=>m.2.1) h.1).trans (by grind[ic]);grind[eY,rS,Z3]
theorem Ew(a:Ty){β:Type}(k:a.den):∀(l m:List (a.den×β)),cL a (l++m) k=(cL a l k).or (cL a m k)|[],m=>by rfl|(x,v)::l,m=>by have ih:=Ew a k l m;grind[cL]
theorem Je(p:ab)(x:ar):∀k,cL bp (jz p k) x=Option.map (fun(i:Nat)=>(i:Int)) (gK (gS p x) k)|0=>rfl|k+1=>by show cL bp (jz p k++[((p.2.2.1.getD k zS).2.1,(k:Int))]) x=_;rw[Ew,Je p x k];unfold gK;rw[gW,List.find?_append];cases(List.range k).find? (gS p x)with|some i=>rfl|none=>show(bif Ty.nu bp x (p.2.2.1.getD k zS).2.1 then some (k:Int)else none)=Option.map _ ([k].find? (gS p x));grind[Hi,gS]
theorem ry{n:aS}(h:dk n)(x:ar):kz n x=cr n.1 x:=by have e:n.2.2.1=jz n.1 n.1.2.2.1.length:=(bA (fun m:aS=>m.2.2.1) h.1).trans (by grind[ic,Kk]);(have e2:cr n.1 x=we (gK (gS n.1 x) n.1.2.2.1.length):=by unfold cr;rfl);unfold kz;rw[e,Je,e2];cases gK (gS n.1 x) n.1.2.2.1.length<;>rfl
theorem yd(f:eA)(gs:List eA):eX (f::gs)=eX gs++[f.2.1]:=by grind[eX]
theorem wa(f:eA)(gs:List eA):cQ (f::gs)=cQ gs++[f.2.2]:=by grind[cQ]
theorem AN(gs:List eA):(eX gs).length=gs.length:=by grind[eX]
theorem yk(gs:List eA):(cQ gs).length=gs.length:=by grind[cQ]
theorem DH{α:Type}(d x:α)(l:List α){n:Nat}(h:n=l.length):(l++[x]).getD n d=x:=by grind
theorem WU{α:Type}(x y:α)(l:List α){n:Nat}(h:n=l.length):(l++[x]).set n y=l++[y]:=by subst h;simp
def nN(b:Int)(gs:List eA):me:=(b,bR gs,eX gs,cQ gs)
theorem OR(b:Int){gs:List eA}(h:gs.length<=1000):lX (nN b gs):=⟨by show(bR gs).length<=1000;grind[j5],by show(eX gs).length=(bR gs).length;rw[AN,j5],by show(cQ gs).length=(bR gs).length;rw[yk,j5]⟩
theorem adZ(b:Int)(f:eA)(gs:List eA):pD (nN b (f::gs))=nN b gs:=by unfold pD;show(b,(bR (f::gs)).take ((bR (f::gs)).length-1),(eX (f::gs)).take ((bR (f::gs)).length-1),(cQ (f::gs)).take ((bR (f::gs)).length-1))=(b,bR gs,eX gs,cQ gs);rw[j5,pJ,yd,wa];grind[j5,AN,yk]
theorem abi(b:Int)(n:aS)(x:ar)(gs:List eA):Bi (nN b gs) n x=nN b (((x.1,x.2,-1),0,ct n.1 x.1 x.2)::gs):=by unfold Bi;show _=(b,bR (_::gs),eX (_::gs),cQ (_::gs));rw[pJ,yd,wa];rfl
theorem L9(b:Int):∀(gs:List eA),jo (nN b gs) gs.length=yg gs|[]=>rfl|f::gs=>by have ih:=L9 b gs;rw[CN,<-ih];show jo (nN b (f::gs)) gs.length++ui (nN b (f::gs)) gs.length=_;congr 1;(have:∀k,k<=gs.length->jo (nN b (f::gs)) k=jo (nN b gs) k:=fun k=>by induction k with|zero=>intro _;rfl|succ k ih=>intro hk;show jo _ k++ui _ k=jo _ k++ui _ k;rw[ih (by omega)];congr 1;show(bif(eX (f::gs)).getD k 0!=0 then[(((bR (f::gs)).getD k rm).1,(eX (f::gs)).getD k 0)]else[])=(bif(eX gs).getD k 0!=0 then[(((bR gs).getD k rm).1,(eX gs).getD k 0)]else[]);grind[yd,pJ,AN,j5]);grind;show(bif(eX (f::gs)).getD gs.length 0!=0 then[(((bR (f::gs)).getD gs.length rm).1,(eX (f::gs)).getD gs.length 0)]else[])=_;rw[yd,pJ,DH 0 _ _ (AN gs).symm,DH rm _ _ (j5 gs).symm];simp[OS,uP]
theorem Ke(b s to stop:Int)(gs:List eA):kL (nN b gs) s to stop=tP s gs stop to:=by unfold kL tP;grind[nN,j5,L9]
theorem ad0(b:Int)(gs:List eA)(x:ar):Mq (nN b gs) x.1=CO b gs x:=by unfold Mq CO;show(decide ((bR gs).length<12)&&(!(x.1==b)&&!(bR gs).any (gi x.1)))=_;rw[j5];(have:dx (qE b gs) x.1=((x.1==b)||(bR gs).any (gi x.1)):=by unfold dx qE bR;rw[List.any_cons,List.any_map,List.any_map,o9 b];rfl);grind
theorem yS:∀(gs:List eA),wF gs=wL ((cQ gs).map fun l=>l.length).reverse|[]=>rfl|f::gs=>by have ih:=yS gs;rw[wa,dW,List.reverse_append];show 1+f.2.2.length*(1+wB (12-gs.length))+wF gs=1+f.2.2.length*(1+wB (12-(((cQ gs).map fun l=>l.length).reverse).length))+wL (((cQ gs).map fun l=>l.length).reverse);grind[yk]
theorem W1{n:aS}{s:Int}{w:Nat}{g:List eA×List aM}(h:lA n s w g):g.2.length<=8192:=by have h1:=bA List.length h.1;grind[H9]
theorem X6{n:aS}{s:Int}{g:(List eA×ar)×List aM}(h:Bm n s g):g.2.length<=8192:=by have h1:=bA List.length h.1;grind[H9]
theorem F8(n:aS)(s:Int)(W:Nat)(y4 y5:Int)(y6:List aM)(s7:(List eA×ar)×List aM)(hn:dk n)(hW:W<wE s7.1.1)(e6:y6=List.replicate 1 (0,0,0,[],[],[],[],[],false)):(∀(dz:List eA×List aM),U (decide ((↑(bR dz.1).length:Int)>(0:Int))) fun(dO:Bool)=>U ((↑(bR dz.1).length:Int)-(1:Int)) fun(cy:Int)=>U ((cQ dz.1).getD cy.toNat []) fun(cV:List (Int×Int))=>U (da n s,bR dz.1,eX dz.1,cQ dz.1) fun(cH:Int×List (Int×Int×Int)×List Int×List (List (Int×Int)))=>U ((bR dz.1).getD cy.toNat ((0:Int),(0:Int),(0:Int))) fun(fG:Int×Int×Int)=>U (cV.getD (Int.toNat (0:Int)) ((0:Int),(0:Int))) fun(jc:Int×Int)=>U ((bR dz.1).set cy.toNat (fG.1,fG.2.1,jc.1)) fun(gz:List (Int×Int×Int))=>U ((gz.getD cy.toNat ((0:Int),(0:Int),(0:Int))).1,jc.1) fun(iY:Int×Int)=>U (decide (kz n iY>=(0:Int))) fun(fL:Bool)=>U ((eX dz.1).set cy.toNat jc.2) fun(lz:List Int)=>U ((cQ dz.1).set cy.toNat (List.drop (Int.toNat (1:Int)) cV)) fun(nD:List (List (Int×Int)))=>U (da n s,gz,lz,nD) fun(mf:Int×List (Int×Int×Int)×List Int×List (List (Int×Int)))=>U (y6.set (0:Nat) (kL mf s (kz n iY) (1:Int))) fun(pg:List (Int×Int×Int×List (Int×Int×Int)×List (Int×Int)×List (Int×Int)×List Int×List Int×Bool))=>U (y6.set (0:Nat) (kL mf s (-1:Int) (3:Int))) fun(pI:List (Int×Int×Int×List (Int×Int×Int)×List (Int×Int)×List (Int×Int)×List Int×List Int×Bool))=>lA n s W dz->(dO=true->bH IntKind.i64 cy/\bD cy (cQ dz.1).length/\(((cV.length:Int)==(0:Int))=true->(lX cH/\(0:Nat)<(bR dz.1).length)/\∃(aD:List eA×List aM),lA n s W aD/\wF aD.1<wF dz.1/\[n]=[n]/\(0:Nat)=(0:Nat)/\s=s/\da n s=(pD cH).1/\bR aD.1=(pD cH).2.1/\eX aD.1=(pD cH).2.2.1/\cQ aD.1=(pD cH).2.2.2/\aD.2=dz.2/\y4=y4/\y5=y5/\s7.1.2.1=s7.1.2.1/\s7.1.2.2=s7.1.2.2/\True)/\(((cV.length:Int)==(0:Int))=false->bD cy (cQ dz.1).length/\bD (0:Int) cV.length/\bD cy (cQ dz.1).length/\((0:Int)<=(1:Int)/\(1:Int)<=(cV.length:Int))/\bD cy (cQ dz.1).length/\bD cy (bR dz.1).length/\bD cy (eX dz.1).length/\bD cy gz.length/\True/\(fL=true->lX mf/\roomFor (dz.2.length+pg.length) (152:Nat)/\∃(aD:List eA×List aM),lA n s W aD/\wF aD.1<wF dz.1/\[n]=[n]/\(0:Nat)=(0:Nat)/\s=s/\da n s=da n s/\bR aD.1=gz/\eX aD.1=lz/\cQ aD.1=nD/\aD.2=dz.2++pg/\y4=y4/\y5=y5/\s7.1.2.1=s7.1.2.1/\s7.1.2.2=s7.1.2.2/\True)/\(fL=false->True/\((!(eY n iY).2)=true->lX mf/\roomFor (dz.2.length+pI.length) (152:Nat)/\∃(aD:List eA×List aM),lA n s W aD/\wF aD.1<wF dz.1/\[n]=[n]/\(0:Nat)=(0:Nat)/\s=s/\da n s=da n s/\bR aD.1=gz/\eX aD.1=lz/\cQ aD.1=nD/\aD.2=dz.2++pI/\y4=y4/\y5=y5/\s7.1.2.1=s7.1.2.1/\s7.1.2.2=s7.1.2.2/\True)/\((!(eY n iY).2)=false->∃(aD:(List eA×ar)×List aM),Bm n s aD/\wE aD.1.1<wE s7.1.1/\[n]=[n]/\(0:Nat)=(0:Nat)/\s=s/\aD.1.2.1=(eY n iY).1.1/\aD.1.2.2=(eY n iY).1.2/\da n s=da n s/\bR aD.1.1=gz/\eX aD.1.1=lz/\cQ aD.1.1=nD/\aD.2=dz.2/\y4=y4/\y5=y5/\True))))/\(dO=false->dz.2=wS n.1 s/\True)):=by intro dz;refine U.mk fun dO kS=>U.mk fun cy nf=>U.mk fun cV mR=>U.mk fun cH o7=>U.mk fun fG wx=>U.mk fun jc An=>U.mk fun gz uu=>U.mk fun iY Am=>U.mk fun fL uF=>U.mk fun lz Gw=>U.mk fun nD Gv=>U.mk fun mf Al=>U.mk fun pg Gu=>U.mk fun pI Rc=>fun nZ=>?_;have hlen:=W1 nZ;obtain⟨gs,out⟩:=dz;obtain⟨h1,h2,h3⟩:=nZ;have h1:out++pk n.1 s (da n s) gs=wS n.1 s:=h1;have h2:gs.length<=12:=h2;have h3:wF gs<=W:=h3;have hlen:out.length<=8192:=hlen;cases gs with|nil=>(have:dO=false:=by rw[kS];rfl);refine⟨fun h=>(by grind),fun _=>⟨?_,trivial⟩⟩;rw[<-h1];exact(List.append_nil out).symm|cons f gs=>obtain⟨⟨e,i,o⟩,pos,l⟩:=f;have h2:gs.length+1<=12:=h2;(have atw:dO=true:=by grind[j5]);(have atv:cy=(gs.length:Int):=by grind[j5]);(have hk:cy.toNat=gs.length:=by omega);(have aao:cV=l:=by grind[wa,yk]);have amE:cH=nN (da n s) (((e,i,o),pos,l)::gs):=o7;have Ge:(bR (((e,i,o),pos,l)::gs)).length=gs.length+1:=j5 _;have pH:(eX (((e,i,o),pos,l)::gs)).length=gs.length+1:=AN _;have hll:(cQ (((e,i,o),pos,l)::gs)).length=gs.length+1:=yk _;have TW:∀m,m=gs.length+1->bD cy m:=fun m hm=>⟨by omega,by omega⟩;refine⟨fun _=>⟨bC (by omega) (by omega),TW _ hll,fun hz=>?_,fun hz=>?_⟩,fun h=>(by grind)⟩;(have Cs:l=[]:=by grind);subst Cs;refine⟨⟨by grind[OR],by omega⟩,(gs,out),⟨h1,by grind,?_⟩,afK _ _ _ gs,rfl,rfl,rfl,?_⟩;grind[wF];rw[amE,adZ];exact⟨rfl,rfl,rfl,rfl,rfl,rfl,rfl,rfl,rfl,trivial⟩;cases l with|nil=>grind|cons w ws=>(have ae3:jc=w:=by grind);(have atu:fG=(e,i,o):=by grind[pJ]);(have Vl:gz=bR (((e,i,w.1),w.2,ws)::gs):=by grind[pJ]);(have att:iY=(e,w.1):=by grind);(have Vk:lz=eX (((e,i,w.1),w.2,ws)::gs):=by grind[yd,WU]);(have Vj:nD=cQ (((e,i,w.1),w.2,ws)::gs):=by grind[wa]);(have atr:mf=nN (da n s) (((e,i,w.1),w.2,ws)::gs):=by rw[Al,Vl,Vk,Vj];rfl);(have hR:kz n iY=cr n.1 (e,w.1):=by grind[ry]);(have hN:eY n iY=aF n.1 (e,w.1):=by grind[qp]);(have atq:pg=[tP s (((e,i,w.1),w.2,ws)::gs) 1 (cr n.1 (e,w.1))]:=by grind[Ke]);(have atp:pI=[tP s (((e,i,w.1),w.2,ws)::gs) 3 (-1)]:=by grind[Ke]);(have aaF:lX mf:=by grind[OR]);have hwl:=afJ (e,i,o) (e,i,w.1) pos w.2 w ws gs;(have am5:gz.length=gs.length+1:=by grind);refine⟨TW _ hll,⟨by omega,by grind⟩,TW _ hll,⟨by omega,by grind⟩,TW _ hll,TW _ Ge,TW _ pH,TW _ am5,trivial,fun HY=>?_,fun HY=>⟨trivial,fun hx=>?_,fun hx=>?_⟩⟩;(have HY:decide (0<=cr n.1 (e,w.1))=true:=by grind);refine⟨aaF,gU (by grind) (by decide),(((e,i,w.1),w.2,ws)::gs,out++pg),⟨?_,h2,c6 (Nat.le_of_lt hwl) h3⟩,hwl,rfl,rfl,rfl,rfl,Vl.symm,Vk.symm,Vj.symm,rfl,rfl,rfl,rfl,rfl,trivial⟩;grind[ND];(have HY:decide (0<=cr n.1 (e,w.1))=false:=by grind);(have hx:(aF n.1 (e,w.1)).2=false:=by grind);refine⟨aaF,gU (by grind) (by decide),(((e,i,w.1),w.2,ws)::gs,out++pI),⟨?_,h2,c6 (Nat.le_of_lt hwl) h3⟩,hwl,rfl,rfl,rfl,rfl,Vl.symm,Vk.symm,Vj.symm,rfl,rfl,rfl,rfl,rfl,trivial⟩;grind[NF];(have HY:decide (0<=cr n.1 (e,w.1))=false:=by grind);(have hx:(aF n.1 (e,w.1)).2=true:=by grind);have hwo:=ajO (e,i,o) (e,i,w.1) pos w.2 w ws gs;refine⟨((((e,i,w.1),w.2,ws)::gs,(eY n iY).1),out),⟨?_,h2⟩,by grind,rfl,rfl,rfl,rfl,rfl,rfl,Vl.symm,Vk.symm,Vj.symm,rfl,rfl,rfl,trivial⟩;show out++tY n.1 s (da n s) (eY n iY).1 (((e,i,w.1),w.2,ws)::gs)=_;grind[Zz]
theorem v138(n:aS)(s:Int):aq (av aQ [(177,MH),(117,qY),(61,yB),(92,o8),(178,Rs),(179,MG),(180,MF),(181,ME)]) Tryz.f138 abV (a138 (n,s,())) (n,s,())=( U (!(vf n.1 s).2) fun(y2:Bool)=>U (eY n (vf n.1 s).1) fun(y3:ar×Bool)=>U (vf n.1 s).1.1 fun(y4:Int)=>U (vf n.1 s).1.2 fun(y5:Int)=>U (List.replicate (1:Nat) ((0:Int),(0:Int),(0:Int),[],[],[],[],[],false)) fun(y6:List (aM))=>True/\(y2=true->[]=wS n.1 s/\True)/\(y2=false->True/\((!y3.2)=true->[]=wS n.1 s/\True)/\((!y3.2)=false->(∃(lI:(List eA×ar)×List aM),Bm n s lI/\[n]=[n]/\(0:Nat)=(0:Nat)/\s=s/\lI.1.2.1=y3.1.1/\lI.1.2.2=y3.1.2/\da n s=y4/\bR lI.1.1=[]/\eX lI.1.1=[]/\cQ lI.1.1=[]/\lI.2=[]/\y4=y4/\y5=y5/\True)/\∀(s7:(List eA×ar)×List aM),U (da n s,bR s7.1.1,eX s7.1.1,cQ s7.1.1) fun(y8:Int×List (Int×Int×Int)×List Int×List (List (Int×Int)))=>U (Mq y8 s7.1.2.1) fun(y9:Bool)=>U (ax n.1 s7.1.2.1==(4:Int)) fun(cj:Bool)=>U (Bi y8 n s7.1.2) fun(aA:me)=>U (y6.set (0:Nat) (kL aA s (-1:Int) (2:Int))) fun(b8:List (aM))=>Bm n s s7->(bR s7.1.1).length<=(1000:Nat)/\(y9=true->lX y8/\True/\(cj=true->lX aA/\roomFor (s7.2.length+b8.length) (152:Nat)/\(∃(nr:List eA×List aM),lA n s (wL (List.map (fun(l:List (Int×Int))=>l.length) aA.2.2.2).reverse) nr/\[n]=[n]/\(0:Nat)=(0:Nat)/\s=s/\da n s=aA.1/\bR nr.1=aA.2.1/\eX nr.1=aA.2.2.1/\cQ nr.1=aA.2.2.2/\nr.2=s7.2++b8/\y4=y4/\y5=y5/\s7.1.2.1=s7.1.2.1/\s7.1.2.2=s7.1.2.2/\True)/\∀(dz:List eA×List aM),U (decide ((↑(bR dz.1).length:Int)>(0:Int))) fun(dO:Bool)=>U ((↑(bR dz.1).length:Int)-(1:Int)) fun(cy:Int)=>U ((cQ dz.1).getD cy.toNat []) fun(cV:List (Int×Int))=>U (da n s,bR dz.1,eX dz.1,cQ dz.1) fun(cH:Int×List (Int×Int×Int)×List Int×List (List (Int×Int)))=>U ((bR dz.1).getD cy.toNat ((0:Int),(0:Int),(0:Int))) fun(fG:Int×Int×Int)=>U (cV.getD (Int.toNat (0:Int)) ((0:Int),(0:Int))) fun(jc:Int×Int)=>U ((bR dz.1).set cy.toNat (fG.1,fG.2.1,jc.1)) fun(gz:List (Int×Int×Int))=>U ((gz.getD cy.toNat ((0:Int),(0:Int),(0:Int))).1,jc.1) fun(iY:Int×Int)=>U (decide (kz n iY>=(0:Int))) fun(fL:Bool)=>U ((eX dz.1).set cy.toNat jc.2) fun(lz:List Int)=>U ((cQ dz.1).set cy.toNat (List.drop (Int.toNat (1:Int)) cV)) fun(nD:List (List (Int×Int)))=>U (da n s,gz,lz,nD) fun(mf:Int×List (Int×Int×Int)×List Int×List (List (Int×Int)))=>U (y6.set (0:Nat) (kL mf s (kz n iY) (1:Int))) fun(pg:List (aM))=>U (y6.set (0:Nat) (kL mf s (-1:Int) (3:Int))) fun(pI:List (aM))=>lA n s (wL (List.map (fun(l:List (Int×Int))=>l.length) aA.2.2.2).reverse) dz->(dO=true->bH IntKind.i64 cy/\bD cy (cQ dz.1).length/\(((cV.length:Int)==(0:Int))=true->(lX cH/\(0:Nat)<(bR dz.1).length)/\∃(aD:List eA×List aM),lA n s (wL (List.map (fun(l:List (Int×Int))=>l.length) aA.2.2.2).reverse) aD/\wF aD.1<wF dz.1/\[n]=[n]/\(0:Nat)=(0:Nat)/\s=s/\da n s=(pD cH).1/\bR aD.1=(pD cH).2.1/\eX aD.1=(pD cH).2.2.1/\cQ aD.1=(pD cH).2.2.2/\aD.2=dz.2/\y4=y4/\y5=y5/\s7.1.2.1=s7.1.2.1/\s7.1.2.2=s7.1.2.2/\True)/\(((cV.length:Int)==(0:Int))=false->bD cy (cQ dz.1).length/\bD (0:Int) cV.length/\bD cy (cQ dz.1).length/\((0:Int)<=(1:Int)/\(1:Int)<=(cV.length:Int))/\bD cy (cQ dz.1).length/\bD cy (bR dz.1).length/\bD cy (eX dz.1).length/\bD cy gz.length/\True/\(fL=true->lX mf/\roomFor (dz.2.length+pg.length) (152:Nat)/\∃(aD:List eA×List aM),lA n s (wL (List.map (fun(l:List (Int×Int))=>l.length) aA.2.2.2).reverse) aD/\wF aD.1<wF dz.1/\[n]=[n]/\(0:Nat)=(0:Nat)/\s=s/\da n s=da n s/\bR aD.1=gz/\eX aD.1=lz/\cQ aD.1=nD/\aD.2=dz.2++pg/\y4=y4/\y5=y5/\s7.1.2.1=s7.1.2.1/\s7.1.2.2=s7.1.2.2/\True)/\(fL=false->True/\((!(eY n iY).2)=true->lX mf/\roomFor (dz.2.length+pI.length) (152:Nat)/\∃(aD:List eA×List aM),lA n s (wL (List.map (fun(l:List (Int×Int))=>l.length) aA.2.2.2).reverse) aD/\wF aD.1<wF dz.1/\[n]=[n]/\(0:Nat)=(0:Nat)/\s=s/\da n s=da n s/\bR aD.1=gz/\eX aD.1=lz/\cQ aD.1=nD/\aD.2=dz.2++pI/\y4=y4/\y5=y5/\s7.1.2.1=s7.1.2.1/\s7.1.2.2=s7.1.2.2/\True)/\((!(eY n iY).2)=false->∃(aD:(List eA×ar)×List aM),Bm n s aD/\wE aD.1.1<wE s7.1.1/\[n]=[n]/\(0:Nat)=(0:Nat)/\s=s/\aD.1.2.1=(eY n iY).1.1/\aD.1.2.2=(eY n iY).1.2/\da n s=da n s/\bR aD.1.1=gz/\eX aD.1.1=lz/\cQ aD.1.1=nD/\aD.2=dz.2/\y4=y4/\y5=y5/\True))))/\(dO=false->dz.2=wS n.1 s/\True))/\(cj=false->(∃(nr:List eA×List aM),lA n s (wL (List.map (fun(l:List (Int×Int))=>l.length) aA.2.2.2).reverse) nr/\[n]=[n]/\(0:Nat)=(0:Nat)/\s=s/\da n s=aA.1/\bR nr.1=aA.2.1/\eX nr.1=aA.2.2.1/\cQ nr.1=aA.2.2.2/\nr.2=s7.2/\y4=y4/\y5=y5/\s7.1.2.1=s7.1.2.1/\s7.1.2.2=s7.1.2.2/\True)/\∀(dz:List eA×List aM),U (decide ((↑(bR dz.1).length:Int)>(0:Int))) fun(dO:Bool)=>U ((↑(bR dz.1).length:Int)-(1:Int)) fun(cy:Int)=>U ((cQ dz.1).getD cy.toNat []) fun(cV:List (Int×Int))=>U (da n s,bR dz.1,eX dz.1,cQ dz.1) fun(cH:Int×List (Int×Int×Int)×List Int×List (List (Int×Int)))=>U ((bR dz.1).getD cy.toNat ((0:Int),(0:Int),(0:Int))) fun(fG:Int×Int×Int)=>U (cV.getD (Int.toNat (0:Int)) ((0:Int),(0:Int))) fun(jc:Int×Int)=>U ((bR dz.1).set cy.toNat (fG.1,fG.2.1,jc.1)) fun(gz:List (Int×Int×Int))=>U ((gz.getD cy.toNat ((0:Int),(0:Int),(0:Int))).1,jc.1) fun(iY:Int×Int)=>U (decide (kz n iY>=(0:Int))) fun(fL:Bool)=>U ((eX dz.1).set cy.toNat jc.2) fun(lz:List Int)=>U ((cQ dz.1).set cy.toNat (List.drop (Int.toNat (1:Int)) cV)) fun(nD:List (List (Int×Int)))=>U (da n s,gz,lz,nD) fun(mf:Int×List (Int×Int×Int)×List Int×List (List (Int×Int)))=>U (y6.set (0:Nat) (kL mf s (kz n iY) (1:Int))) fun(pg:List (aM))=>U (y6.set (0:Nat) (kL mf s (-1:Int) (3:Int))) fun(pI:List (aM))=>lA n s (wL (List.map (fun(l:List (Int×Int))=>l.length) aA.2.2.2).reverse) dz->(dO=true->bH IntKind.i64 cy/\bD cy (cQ dz.1).length/\(((cV.length:Int)==(0:Int))=true->(lX cH/\(0:Nat)<(bR dz.1).length)/\∃(aD:List eA×List aM),lA n s (wL (List.map (fun(l:List (Int×Int))=>l.length) aA.2.2.2).reverse) aD/\wF aD.1<wF dz.1/\[n]=[n]/\(0:Nat)=(0:Nat)/\s=s/\da n s=(pD cH).1/\bR aD.1=(pD cH).2.1/\eX aD.1=(pD cH).2.2.1/\cQ aD.1=(pD cH).2.2.2/\aD.2=dz.2/\y4=y4/\y5=y5/\s7.1.2.1=s7.1.2.1/\s7.1.2.2=s7.1.2.2/\True)/\(((cV.length:Int)==(0:Int))=false->bD cy (cQ dz.1).length/\bD (0:Int) cV.length/\bD cy (cQ dz.1).length/\((0:Int)<=(1:Int)/\(1:Int)<=(cV.length:Int))/\bD cy (cQ dz.1).length/\bD cy (bR dz.1).length/\bD cy (eX dz.1).length/\bD cy gz.length/\True/\(fL=true->lX mf/\roomFor (dz.2.length+pg.length) (152:Nat)/\∃(aD:List eA×List aM),lA n s (wL (List.map (fun(l:List (Int×Int))=>l.length) aA.2.2.2).reverse) aD/\wF aD.1<wF dz.1/\[n]=[n]/\(0:Nat)=(0:Nat)/\s=s/\da n s=da n s/\bR aD.1=gz/\eX aD.1=lz/\cQ aD.1=nD/\aD.2=dz.2++pg/\y4=y4/\y5=y5/\s7.1.2.1=s7.1.2.1/\s7.1.2.2=s7.1.2.2/\True)/\(fL=false->True/\((!(eY n iY).2)=true->lX mf/\roomFor (dz.2.length+pI.length) (152:Nat)/\∃(aD:List eA×List aM),lA n s (wL (List.map (fun(l:List (Int×Int))=>l.length) aA.2.2.2).reverse) aD/\wF aD.1<wF dz.1/\[n]=[n]/\(0:Nat)=(0:Nat)/\s=s/\da n s=da n s/\bR aD.1=gz/\eX aD.1=lz/\cQ aD.1=nD/\aD.2=dz.2++pI/\y4=y4/\y5=y5/\s7.1.2.1=s7.1.2.1/\s7.1.2.2=s7.1.2.2/\True)/\((!(eY n iY).2)=false->∃(aD:(List eA×ar)×List aM),Bm n s aD/\wE aD.1.1<wE s7.1.1/\[n]=[n]/\(0:Nat)=(0:Nat)/\s=s/\aD.1.2.1=(eY n iY).1.1/\aD.1.2.2=(eY n iY).1.2/\da n s=da n s/\bR aD.1.1=gz/\eX aD.1.1=lz/\cQ aD.1.1=nD/\aD.2=dz.2/\y4=y4/\y5=y5/\True))))/\(dO=false->dz.2=wS n.1 s/\True)))/\(y9=false->(∃(nr:List eA×List aM),lA n s (wL (List.map (fun(l:List (Int×Int))=>l.length) (cQ s7.1.1)).reverse) nr/\[n]=[n]/\(0:Nat)=(0:Nat)/\s=s/\da n s=da n s/\bR nr.1=bR s7.1.1/\eX nr.1=eX s7.1.1/\cQ nr.1=cQ s7.1.1/\nr.2=s7.2/\y4=y4/\y5=y5/\s7.1.2.1=s7.1.2.1/\s7.1.2.2=s7.1.2.2/\True)/\∀(dz:List eA×List aM),U (decide ((↑(bR dz.1).length:Int)>(0:Int))) fun(dO:Bool)=>U ((↑(bR dz.1).length:Int)-(1:Int)) fun(cy:Int)=>U ((cQ dz.1).getD cy.toNat []) fun(cV:List (Int×Int))=>U (da n s,bR dz.1,eX dz.1,cQ dz.1) fun(cH:Int×List (Int×Int×Int)×List Int×List (List (Int×Int)))=>U ((bR dz.1).getD cy.toNat ((0:Int),(0:Int),(0:Int))) fun(fG:Int×Int×Int)=>U (cV.getD (Int.toNat (0:Int)) ((0:Int),(0:Int))) fun(jc:Int×Int)=>U ((bR dz.1).set cy.toNat (fG.1,fG.2.1,jc.1)) fun(gz:List (Int×Int×Int))=>U ((gz.getD cy.toNat ((0:Int),(0:Int),(0:Int))).1,jc.1) fun(iY:Int×Int)=>U (decide (kz n iY>=(0:Int))) fun(fL:Bool)=>U ((eX dz.1).set cy.toNat jc.2) fun(lz:List Int)=>U ((cQ dz.1).set cy.toNat (List.drop (Int.toNat (1:Int)) cV)) fun(nD:List (List (Int×Int)))=>U (da n s,gz,lz,nD) fun(mf:Int×List (Int×Int×Int)×List Int×List (List (Int×Int)))=>U (y6.set (0:Nat) (kL mf s (kz n iY) (1:Int))) fun(pg:List (aM))=>U (y6.set (0:Nat) (kL mf s (-1:Int) (3:Int))) fun(pI:List (aM))=>lA n s (wL (List.map (fun(l:List (Int×Int))=>l.length) (cQ s7.1.1)).reverse) dz->(dO=true->bH IntKind.i64 cy/\bD cy (cQ dz.1).length/\(((cV.length:Int)==(0:Int))=true->(lX cH/\(0:Nat)<(bR dz.1).length)/\∃(aD:List eA×List aM),lA n s (wL (List.map (fun(l:List (Int×Int))=>l.length) (cQ s7.1.1)).reverse) aD/\wF aD.1<wF dz.1/\[n]=[n]/\(0:Nat)=(0:Nat)/\s=s/\da n s=(pD cH).1/\bR aD.1=(pD cH).2.1/\eX aD.1=(pD cH).2.2.1/\cQ aD.1=(pD cH).2.2.2/\aD.2=dz.2/\y4=y4/\y5=y5/\s7.1.2.1=s7.1.2.1/\s7.1.2.2=s7.1.2.2/\True)/\(((cV.length:Int)==(0:Int))=false->bD cy (cQ dz.1).length/\bD (0:Int) cV.length/\bD cy (cQ dz.1).length/\((0:Int)<=(1:Int)/\(1:Int)<=(cV.length:Int))/\bD cy (cQ dz.1).length/\bD cy (bR dz.1).length/\bD cy (eX dz.1).length/\bD cy gz.length/\True/\(fL=true->lX mf/\roomFor (dz.2.length+pg.length) (152:Nat)/\∃(aD:List eA×List aM),lA n s (wL (List.map (fun(l:List (Int×Int))=>l.length) (cQ s7.1.1)).reverse) aD/\wF aD.1<wF dz.1/\[n]=[n]/\(0:Nat)=(0:Nat)/\s=s/\da n s=da n s/\bR aD.1=gz/\eX aD.1=lz/\cQ aD.1=nD/\aD.2=dz.2++pg/\y4=y4/\y5=y5/\s7.1.2.1=s7.1.2.1/\s7.1.2.2=s7.1.2.2/\True)/\(fL=false->True/\((!(eY n iY).2)=true->lX mf/\roomFor (dz.2.length+pI.length) (152:Nat)/\∃(aD:List eA×List aM),lA n s (wL (List.map (fun(l:List (Int×Int))=>l.length) (cQ s7.1.1)).reverse) aD/\wF aD.1<wF dz.1/\[n]=[n]/\(0:Nat)=(0:Nat)/\s=s/\da n s=da n s/\bR aD.1=gz/\eX aD.1=lz/\cQ aD.1=nD/\aD.2=dz.2++pI/\y4=y4/\y5=y5/\s7.1.2.1=s7.1.2.1/\s7.1.2.2=s7.1.2.2/\True)/\((!(eY n iY).2)=false->∃(aD:(List eA×ar)×List aM),Bm n s aD/\wE aD.1.1<wE s7.1.1/\[n]=[n]/\(0:Nat)=(0:Nat)/\s=s/\aD.1.2.1=(eY n iY).1.1/\aD.1.2.2=(eY n iY).1.2/\da n s=da n s/\bR aD.1.1=gz/\eX aD.1.1=lz/\cQ aD.1.1=nD/\aD.2=dz.2/\y4=y4/\y5=y5/\True))))/\(dO=false->dz.2=wS n.1 s/\True))))):=by kernel_rfl
theorem aoJ(n:aS)(s:Int)(hn:dk n):aq (av aQ [(177,MH),(117,qY),(61,yB),(92,o8),(178,Rs),(179,MG),(180,MF),(181,ME)]) Tryz.f138 abV (a138 (n,s,())) (n,s,()):=by
 rw[v138];refine U.mk fun y2 e2=>U.mk fun y3 e3=>U.mk fun y4 e4=>U.mk fun y5 e5=>U.mk fun y6 e6=>⟨trivial,fun h=>⟨?_,trivial⟩,fun h=>⟨trivial,fun h3=>⟨?_,trivial⟩,fun h3=>⟨?_,?_⟩⟩⟩;grind[wS];grind[wS,qp];refine⟨(([],y3.1),[]),⟨?_,aT _⟩,rfl,rfl,rfl,rfl,rfl,e4.symm,rfl,rfl,rfl,rfl,rfl,rfl,trivial⟩;show[]++tY n.1 s (da n s) y3.1 []=wS n.1 s;unfold wS;rw[<-e2,h,<-qp hn,<-e3,h3];exact List.append_nil _;intro s7;refine U.mk fun y8 e8=>U.mk fun y9 e9=>U.mk fun cj ei=>U.mk fun aA fW=>U.mk fun b8 fJ=>fun nZ=>?_;have hlen:=X6 nZ;obtain⟨⟨gs,x⟩,out⟩:=s7;obtain⟨h1,h2⟩:=nZ;have h1:out++tY n.1 s (da n s) x gs=wS n.1 s:=h1;have h2:gs.length<=12:=h2;have hlen:out.length<=8192:=hlen;have hy8:y8=nN (da n s) gs:=e8;have hy9:y9=CO (da n s) gs x:=by grind[ad0]
 have Vm:aA=nN (da n s) (((x.1,x.2,-1),0,ct n.1 x.1 x.2)::gs):=by grind[abi]
 have hL:(List.map (fun(l:List (Int×Int))=>l.length) aA.2.2.2).reverse=(List.map (fun(l:List (Int×Int))=>l.length) (cQ (((x.1,x.2,-1),0,ct n.1 x.1 x.2)::gs))).reverse:=by rw[Vm];rfl
 refine⟨by grind[j5],fun h9=>?_,fun h9=>?_⟩;have hm:CO (da n s) gs x=true:=by grind
 have mO:gs.length<12:=by unfold CO at hm;grind
 have kf:=Q7 (p:=n.1) (s:=s) hm;have hwp:wF (((x.1,x.2,-1),0,ct n.1 x.1 x.2)::gs)<wE gs:=acP mO;refine⟨by grind[OR],trivial,fun kC=>?_,fun kC=>?_⟩;have kC:(ax n.1 x.1==4)=true:=by grind
 have aap:b8=[tP s (((x.1,x.2,-1),0,[])::gs) 2 (-1)]:=by grind[Ke,ct]
 refine⟨by grind[OR],gU (by grind) (by decide),⟨(((x.1,x.2,-1),0,ct n.1 x.1 x.2)::gs,out++b8),⟨?_,by grind,?_⟩,?_⟩,?_⟩;grind;rw[hL,<-yS];simp;rw[Vm];exact⟨rfl,rfl,rfl,rfl,rfl,rfl,rfl,rfl,rfl,rfl,rfl,rfl,trivial⟩;refine F8 n s _ y4 y5 y6 ((gs,x),out) hn ?_ e6;grind[yS];have kC:(ax n.1 x.1==4)=false:=by grind
 refine⟨⟨(((x.1,x.2,-1),0,ct n.1 x.1 x.2)::gs,out),⟨?_,by grind,?_⟩,?_⟩,?_⟩;grind;rw[hL,<-yS];simp;rw[Vm];exact⟨rfl,rfl,rfl,rfl,rfl,rfl,rfl,rfl,rfl,rfl,rfl,rfl,trivial⟩;refine F8 n s _ y4 y5 y6 ((gs,x),out) hn ?_ e6;grind[yS];have hm:CO (da n s) gs x=false:=by grind
 have qt:=X5 (p:=n.1) (s:=s) h2 hm;refine⟨⟨(gs,out),⟨?_,h2,?_⟩,rfl,rfl,rfl,rfl,rfl,rfl,rfl,rfl,rfl,rfl,rfl,rfl,trivial⟩,?_⟩;grind;simp[yS];refine F8 n s _ y4 y5 y6 ((gs,x),out) hn ?_ e6;grind[yS,ajP]
theorem agS:aN Tryz.prog 138 abV:=aN.cB (l:=[(177,MH),(117,qY),(61,yB),(92,o8),(178,Rs),(179,MG),(180,MF),(181,ME)]) (A:=a138) aO ⟨agq,Dq,Jn,xe,agp,ago,agn,agm,trivial⟩ Tryz.func138 (by rfl) (by rfl) fun x _ hp=>aoJ x.1 x.2.1 hp
theorem YO(p:ab){j k:Nat}(h:j<=k):(ng p j).length<=(ng p k).length:=by induction k with|zero=>grind|succ k ih=>by_cases hj:j=k+1;grind;grind[zQ]
theorem all_eq(p:ab):jI p=bif decide (64<(ng p p.2.2.1.length).length)then([],3)else(ng p p.2.2.1.length,0):=by(have hA:jI p=bif bV (yM p) p.2.2.1.length then([],3)else(ng p p.2.2.1.length,0):=by grind[jI]);rw[hA];congr 1;by_cases h:64<(ng p p.2.2.1.length).length;grind[HC];rw[aC h];refine ep.2 fun i hi=>?_;unfold yM;have:=YO p (show i+1<=p.2.2.1.length by omega);grind
theorem Fx(p:ab):∀k,(ng p k).length<=k*8192|0=>by grind[ng]|k+1=>by rw[zQ,df];have:=Fx p k;have:=H9 p k;omega
def qx(p:ab)(s:eJ):List Int:=bif ax p s.1==2 then[3-max s.2.1 s.2.2]else bif ax p s.1==3 then(bif decide (s.2.1>1)then[0,1]else[2,3])else[]
def MT:bg where args:=[.ref gF,n9];out:=.row 71 bp;pre:=fun(x:aS×aM×Unit)=>dk x.1/\x8 x.2.1;fn:=fun(x:aS×aM×Unit)=>(eh x.1.1 x.2.1,())
def stepOf(x:aM)(i:Int):eJ:=x.2.2.2.1.getD i.toNat rm
def a141(x:aS×aM×Unit):gh:=bN [(3,fun _=>vM x.2.1.2.2.2.1.length 18 5 1000 71 bp (fun k=>gV x.1.1 x.2.1 k) [0,3,16,17] [3]),(15,fun S=>{σ:=Nat,ok:=fun j=>j<=(qx x.1.1 (stepOf x.2.1 (bZ S 18))).length,mu:=fun j=>(qx x.1.1 (stepOf x.2.1 (bZ S 18))).length-j,sl:=fun j=>[(45,.one (.a6 I (j:Int))),(5,.one (.row bp 1001)),(43,.one (.row I 1002)),(44,.one (.a6 I ((qx x.1.1 (stepOf x.2.1 (bZ S 18))).length:Int)))],bl:=fun j=>[(1001,.row false 71 bp (gV x.1.1 x.2.1 (bZ S 18).toNat++gb x.1.1 ((pT x.1.1 (stepOf x.2.1 (bZ S 18))).take j))),(1002,.row false 3 I (qx x.1.1 (stepOf x.2.1 (bZ S 18))))],keep:=[0,3,7,16,17,18],dg:=[3,7]})] [26,36,41,59]
abbrev ajl:fj:=.cells true (.pair (.a6 I) (.pair (.a6 I) (.pair (.a6 I) (.pair (.row 216 n8) (.pair (.row 219 oC) (.pair (.row 219 oC) (.pair (.row 3 I) (.pair (.row 3 I) (.a6 .bool)))))))))
def ZC(r:aM):aM:=(r.1,r.2.1,r.2.2.1,r.2.2.2.1,r.2.2.2.2.1,r.2.2.2.2.2.1,r.2.2.2.2.2.2.1,r.2.2.2.2.2.2.2.1,true)
def ZB(r:aM)(z:List Int):aM:=(r.1,r.2.1,r.2.2.1,r.2.2.2.1,r.2.2.2.2.1,r.2.2.2.2.2.1,z,r.2.2.2.2.2.2.2)
@[irreducible]def eO(r:aM)(e:Int):Bool×aM:=bif dx r.2.2.2.2.2.2.1 e then(true,r)else bif decide (12<=r.2.2.2.2.2.2.1.length)then(false,ZC r)else(true,ZB r (r.2.2.2.2.2.2.1++[e]))
def MR:iX where args:=[ajl,.a6 I];outs:=[.a6 .bool];pre:=fun(x:aM×Int×Unit)=>x.1.2.2.2.2.2.2.1.length<=1000;fn:=fun(x:aM×Int×Unit)=>((eO x.1 x.2.1).1,());lb:=fun(x:aM×Int×Unit)=>((eO x.1 x.2.1).2,x.2)
@[irreducible]def qH(n:aS)(e stop:Int)(todo:List ar):List ar:=todo++bif(eY n (e,stop)).2 then[(eY n (e,stop)).1]else[]
def MS:iX where args:=[.a6 I,.a6 I,.cells true (.a6 (.ref gF)),.cells true (.row 71 bp)];outs:=[];pre:=fun(x:Int×Int×aS×List ar×Unit)=>x.2.2.2.1.length<=1000000;fn:=fun _=>();lb:=fun(x:Int×Int×aS×List ar×Unit)=>(x.1,x.2.1,x.2.2.1,qH x.2.2.1 x.1 x.2.1 x.2.2.2.1,())
def MC:bg where args:=[.list oC,oC];out:=.data [I];pre:=fun(x:List dH×dH×Unit)=>True;fn:=fun(x:List dH×dH×Unit)=>(js (fun y=>x.2.1==y) x.1,())
def acb(x:List dH×dH×Unit):gh:=bN [(2,fun _=>{B3 (fun y=>x.2.1==y) x.1 8 [0,3,7]with dg:=[3]})]
def MQ:bg where args:=[.list oC,oC];out:=.data [.bool];pre:=fun(x:List dH×dH×Unit)=>True;fn:=fun(x:List dH×dH×Unit)=>(dm x.1 x.2.1,())
def mL(p:ab)(r:aM)(j:Nat):List ar:=((eh p r).reverse.take j).map fun x=>(aF p x).1
def eR(s:bc):List (ar×Bool):=(dE s).map fun y=>(y,true)
structure kQ (n:aS) (r:aM) (g:List ar×bc):Prop where
 same:fin g.1 g.2=uo n.1 r (eh n.1 r).length
 inv:lY 161 g.2
 vO:g.2.1=n.1
 NL:∀y∈g.1,y∈cT n.1
 small:gM g.1 g.2<=100000
def c87:bg where args:=[.ref gF,n9];out:=.data [n9];pre:=fun(x:aS×aM×Unit)=>dk x.1/\vt x.1.1 x.2.1;fn:=fun(x:aS×aM×Unit)=>(ri x.1.1 x.2.1,())
def a87(x:aS×aM×Unit):gh:=bN [(8,fun _=>{σ:=Nat,ok:=fun j=>j<=(eh x.1.1 x.2.1).length,mu:=fun j=>(eh x.1.1 x.2.1).length-j,sl:=fun j=>[(9,.one (.a6 I (((eh x.1.1 x.2.1).length:Int)-1-j)))],bl:=fun j=>[(7,.cells [.row bp 1000]),(1000,.row false 71 bp (mL x.1.1 x.2.1 j))],keep:=[2,3,4,5,6,7,8],dg:=[2,3,4,21,24,34,37]}),(13,fun _=>{σ:=List ar×bc,ok:=fun g=>kQ x.1 x.2.1 g,mu:=fun g=>gM g.1 g.2,sl:=fun g=>[(6,.one (.map bp .bool 1007))],bl:=fun g=>[(2,.cells [.a6 (.ref gF) x.1]),(3,.cells [.a6 I g.2.2.1,.a6 I g.2.2.2.1,.a6 I g.2.2.2.2.1,.row n8 1001,.row oC 1002,.row oC 1003,.row I 1004,.row I 1005,.a6 .bool g.2.2.2.2.2.2.2.2.2.2.1]),(1001,.row false 216 n8 (iC g.2)),(1002,.row false 219 oC (eZ g.2)),(1003,.row false 219 oC (cu g.2)),(1004,.row false 3 I (fP g.2)),(1005,.row false 3 I (eD g.2)),(7,.cells [.row bp 1006]),(1006,.row false 71 bp g.1.reverse),(1007,.map false bp .bool (eR g.2) none)],keep:=[2,3,4,5,7,12],dg:=[4]})]
def uO:bg where args:=[.ptr gF];out:=.data [I];pre:=fun(x:Option aS×Unit)=>ka x.1;fn:=fun(x:Option aS×Unit)=>(((bf x.1).1.2.2.1.length:Int),())
def hX(o:Option aS):Prop:=∃n,o=some n/\dk n
def Pc:bg where args:=[.ptr gF,I];out:=.data [.list n9];pre:=fun(x:Option aS×Int×Unit)=>hX x.1;fn:=fun(x:Option aS×Int×Unit)=>(wS (bf x.1).1 x.2.1,())
def My:iX where args:=[.a6 (.ptr gF)];outs:=[.row 164 n9,.a6 I];pre:=fun(x:Option aS×Unit)=>hX x.1;fn:=fun(x:Option aS×Unit)=>((jI (bf x.1).1).1,(jI (bf x.1).1).2,())
def ab8(x:Option aS×Unit):gh:=bN [(3,fun _=>vM (bf x.1).1.2.2.1.length 8 4 1000 164 n9 (fun k=>ng (bf x.1).1 k) [0,7] [])]
def VM:bg where args:=[.ptr gF,n9];out:=.data [n9];pre:=fun(x:Option aS×aM×Unit)=>hX x.1/\vt (bf x.1).1 x.2.1;fn:=fun(x:Option aS×aM×Unit)=>(ri (bf x.1).1 x.2.1,())
def VL:bg where args:=[.ptr gF];out:=.data [PlanT];pre:=fun(x:Option aS×Unit)=>ka x.1/\tO (bf x.1).1;fn:=fun(x:Option aS×Unit)=>((bf x.1).1,())
def O9:bg where args:=[PlanT];out:=.data [sT,I];pre:=fun(x:ab×Unit)=>dN x.1;fn:=fun(x:ab×Unit)=>((eg x.1).1,(eg x.1).2,())
def jf(p:ab)(k:Nat):List aM:=((jI p).1.take k).map (ri p)++(jI p).1.drop k
def a42(x:ab×Unit):gh:=bN [(8,fun _=>vM (jI x.1).1.length 28 6 1000 164 n9 (fun k=>jf x.1 k) [2,4,27] [2])]
theorem G3(p:ab)(s:eJ):pT p s=(qx p s).map fun e=>(s.1,e):=by unfold pT qx Kv;grind
theorem Xy(n:aS)(r:aM)(s4:Nat)(y6:eJ)(y9:List Int)(aA b8:List ar)(hn:dk n)(hr:x8 r)(h4:s4<r.2.2.2.1.length)(h6:y6=r.2.2.2.1.getD s4 rm)(h9:y9=qx n.1 y6)(Cv:aA=gV n.1 r s4)(mz:b8=pT n.1 y6):(∀(fD:Nat),U (decide ((fD:Int)<(y9.length:Int))) fun(cV:Bool)=>U (y6.1,y9.getD (fD:Int).toNat (0:Int)) fun(cH:Int×Int)=>U (aA++gb n.1 (List.take fD b8)) fun(fG:List ar)=>U ((List.replicate (1:Nat) ((0:Int),(0:Int))).set (0:Nat) cH) fun(jc:List (Int×Int))=>fD<=y9.length->(cV=true->bD (fD:Int) y9.length/\True/\((eY n cH).2=true->roomFor (fG.length+jc.length) (16:Nat)/\bH IntKind.i64 ((fD:Int)+(1:Int))/\∃(eF:Nat),eF<=y9.length/\y9.length-eF<y9.length-fD/\(eF:Int)=(fD:Int)+(1:Int)/\(y9.length:Int)=(y9.length:Int)/\[n]=[n]/\(0:Nat)=(0:Nat)/\r.2.2.2.1=r.2.2.2.1/\(r.2.2.2.1.length:Int)=(r.2.2.2.1.length:Int)/\(s4:Int)=(s4:Int)/\aA++gb n.1 (List.take eF b8)=fG++jc/\y9=y9/\r.1=r.1/\r.2.1=r.2.1/\r.2.2.1=r.2.2.1/\r.2.2.2.1=r.2.2.2.1/\r.2.2.2.2.1=r.2.2.2.2.1/\r.2.2.2.2.2.1=r.2.2.2.2.2.1/\r.2.2.2.2.2.2.1=r.2.2.2.2.2.2.1/\r.2.2.2.2.2.2.2.1=r.2.2.2.2.2.2.2.1/\r.2.2.2.2.2.2.2.2=r.2.2.2.2.2.2.2.2/\y6.1=y6.1/\y6.2.1=y6.2.1/\y6.2.2=y6.2.2/\True)/\((eY n cH).2=false->bH IntKind.i64 ((fD:Int)+(1:Int))/\∃(eF:Nat),eF<=y9.length/\y9.length-eF<y9.length-fD/\(eF:Int)=(fD:Int)+(1:Int)/\(y9.length:Int)=(y9.length:Int)/\[n]=[n]/\(0:Nat)=(0:Nat)/\r.2.2.2.1=r.2.2.2.1/\(r.2.2.2.1.length:Int)=(r.2.2.2.1.length:Int)/\(s4:Int)=(s4:Int)/\aA++gb n.1 (List.take eF b8)=fG/\y9=y9/\r.1=r.1/\r.2.1=r.2.1/\r.2.2.1=r.2.2.1/\r.2.2.2.1=r.2.2.2.1/\r.2.2.2.2.1=r.2.2.2.2.1/\r.2.2.2.2.2.1=r.2.2.2.2.2.1/\r.2.2.2.2.2.2.1=r.2.2.2.2.2.2.1/\r.2.2.2.2.2.2.2.1=r.2.2.2.2.2.2.2.1/\r.2.2.2.2.2.2.2.2=r.2.2.2.2.2.2.2.2/\y6.1=y6.1/\y6.2.1=y6.2.1/\y6.2.2=y6.2.2/\True))/\(cV=false->bH IntKind.i64 ((s4:Int)+(1:Int))/\∃(eF:Nat),eF<=r.2.2.2.1.length/\r.2.2.2.1.length-eF<r.2.2.2.1.length-s4/\(eF:Int)=(s4:Int)+(1:Int)/\[n]=[n]/\(0:Nat)=(0:Nat)/\r.2.2.2.1=r.2.2.2.1/\(r.2.2.2.1.length:Int)=(r.2.2.2.1.length:Int)/\gV n.1 r eF=fG/\r.1=r.1/\r.2.1=r.2.1/\r.2.2.1=r.2.2.1/\r.2.2.2.1=r.2.2.2.1/\r.2.2.2.2.1=r.2.2.2.2.1/\r.2.2.2.2.2.1=r.2.2.2.2.2.1/\r.2.2.2.2.2.2.1=r.2.2.2.2.2.2.1/\r.2.2.2.2.2.2.2.1=r.2.2.2.2.2.2.2.1/\r.2.2.2.2.2.2.2.2=r.2.2.2.2.2.2.2.2/\True)):=by
 intro k;have atE:b8.length=y9.length:=by grind[G3]
 have JZ:b8.length<=2:=by grind[CK]
 have hup:=xK n.1 r s4 (by omega);have XL:=hr.1;simp only[ck,aX,eq_self];refine U.mk fun cV mR=>U.mk fun cH o7=>U.mk fun fG wx=>U.mk fun jc An=>fun hk=>⟨fun h=>?_,fun h=>?_⟩;·have hk:=di mR h;(have hp:cH=b8.getD k (0,0):=by rw[o7,mz,G3,<-h9,ak];grind);have hs:=Ji (p:=n.1) (l:=b8) (s:=k) (by omega);have pH:=CI n.1 (b8.take k);(have hN:(eY n cH).2=(aF n.1 (b8.getD k (0,0))).2:=by grind[qp]);(have XJ:(b8.take k).length<=2:=by grind);(have QQ:fG.length<=4000:=by grind);refine⟨⟨by omega,by omega⟩,fun hx=>⟨gU (by grind) (by decide),bC (by omega) (by omega),k+1,by omega,by omega,by omega,?_⟩,fun hx=>⟨bC (by omega) (by omega),k+1,by omega,by omega,by omega,?_⟩⟩;all_goals grind
 have T8:=eH mR h;have hke:k=b8.length:=by omega
 refine⟨bC (by omega) (by omega),s4+1,by omega,by omega,by omega,?_⟩;grind[AO]
theorem v141(n:aS)(r:aM):aq (av aQ [(92,o8),(117,qY)]) Tryz.f141 MT (a141 (n,r,())) (n,r,())=( U (((List.replicate (2:Nat) (0:Int)).set (0:Nat) (0:Int)).set (1:Nat) (1:Int)) fun(y2:List Int)=>U (((List.replicate (2:Nat) (0:Int)).set (0:Nat) (2:Int)).set (1:Nat) (3:Int)) fun(y3:List Int)=>(∃(uU:Nat),uU<=r.2.2.2.1.length/\(uU:Int)=(0:Int)/\[n]=[n]/\(0:Nat)=(0:Nat)/\r.2.2.2.1=r.2.2.2.1/\(r.2.2.2.1.length:Int)=(r.2.2.2.1.length:Int)/\gV n.1 r uU=[]/\bG r (True))/\∀(s4:Nat),U (decide ((s4:Int)<(r.2.2.2.1.length:Int))) fun(y5:Bool)=>U (r.2.2.2.1.getD (s4:Int).toNat ((0:Int),(0:Int),(0:Int))) fun(y6:Int×Int×Int)=>U (ax n.1 y6.1==(2:Int)) fun(y7:Bool)=>U ((3:Int)-max y6.2.1 y6.2.2) fun(y8:Int)=>U (qx n.1 (stepOf r (s4:Int))) fun(y9:List Int)=>U ((List.replicate (1:Nat) (0:Int)).set (0:Nat) y8) fun(cj:List Int)=>U (gV n.1 r (s4:Int).toNat) fun(aA:List ar)=>U (pT n.1 (stepOf r (s4:Int))) fun(b8:List ar)=>U (ax n.1 y6.1==(3:Int)) fun(db:Bool)=>U (decide (y6.2.1>(1:Int))) fun(dO:Bool)=>s4<=r.2.2.2.1.length->(y5=true->bD (s4:Int) r.2.2.2.1.length/\True/\(y7=true->bH IntKind.i64 y8/\(∃(pO:Nat),pO<=y9.length/\(pO:Int)=(0:Int)/\(y9.length:Int)=(cj.length:Int)/\[n]=[n]/\(0:Nat)=(0:Nat)/\r.2.2.2.1=r.2.2.2.1/\(r.2.2.2.1.length:Int)=(r.2.2.2.1.length:Int)/\(s4:Int)=(s4:Int)/\aA++gb n.1 (List.take pO b8)=gV n.1 r s4/\y9=cj/\bG r (y6.1=y6.1/\y6.2.1=y6.2.1/\y6.2.2=y6.2.2/\True))/\∀(fD:Nat),U (decide ((fD:Int)<(y9.length:Int))) fun(cV:Bool)=>U (y6.1,y9.getD (fD:Int).toNat (0:Int)) fun(cH:Int×Int)=>U (aA++gb n.1 (List.take fD b8)) fun(fG:List ar)=>U ((List.replicate (1:Nat) ((0:Int),(0:Int))).set (0:Nat) cH) fun(jc:List (Int×Int))=>fD<=y9.length->(cV=true->bD (fD:Int) y9.length/\True/\((eY n cH).2=true->roomFor (fG.length+jc.length) (16:Nat)/\bH IntKind.i64 ((fD:Int)+(1:Int))/\∃(eF:Nat),eF<=y9.length/\y9.length-eF<y9.length-fD/\(eF:Int)=(fD:Int)+(1:Int)/\(y9.length:Int)=(y9.length:Int)/\[n]=[n]/\(0:Nat)=(0:Nat)/\r.2.2.2.1=r.2.2.2.1/\(r.2.2.2.1.length:Int)=(r.2.2.2.1.length:Int)/\(s4:Int)=(s4:Int)/\aA++gb n.1 (List.take eF b8)=fG++jc/\y9=y9/\bG r (y6.1=y6.1/\y6.2.1=y6.2.1/\y6.2.2=y6.2.2/\True))/\((eY n cH).2=false->bH IntKind.i64 ((fD:Int)+(1:Int))/\∃(eF:Nat),eF<=y9.length/\y9.length-eF<y9.length-fD/\(eF:Int)=(fD:Int)+(1:Int)/\(y9.length:Int)=(y9.length:Int)/\[n]=[n]/\(0:Nat)=(0:Nat)/\r.2.2.2.1=r.2.2.2.1/\(r.2.2.2.1.length:Int)=(r.2.2.2.1.length:Int)/\(s4:Int)=(s4:Int)/\aA++gb n.1 (List.take eF b8)=fG/\y9=y9/\bG r (y6.1=y6.1/\y6.2.1=y6.2.1/\y6.2.2=y6.2.2/\True)))/\(cV=false->bH IntKind.i64 ((s4:Int)+(1:Int))/\∃(eF:Nat),eF<=r.2.2.2.1.length/\r.2.2.2.1.length-eF<r.2.2.2.1.length-s4/\(eF:Int)=(s4:Int)+(1:Int)/\[n]=[n]/\(0:Nat)=(0:Nat)/\r.2.2.2.1=r.2.2.2.1/\(r.2.2.2.1.length:Int)=(r.2.2.2.1.length:Int)/\gV n.1 r eF=fG/\bG r (True)))/\(y7=false->(db=true->(dO=true->(∃(pO:Nat),pO<=y9.length/\(pO:Int)=(0:Int)/\(y9.length:Int)=(y2.length:Int)/\[n]=[n]/\(0:Nat)=(0:Nat)/\r.2.2.2.1=r.2.2.2.1/\(r.2.2.2.1.length:Int)=(r.2.2.2.1.length:Int)/\(s4:Int)=(s4:Int)/\aA++gb n.1 (List.take pO b8)=gV n.1 r s4/\y9=y2/\bG r (y6.1=y6.1/\y6.2.1=y6.2.1/\y6.2.2=y6.2.2/\True))/\∀(fD:Nat),U (decide ((fD:Int)<(y9.length:Int))) fun(cV:Bool)=>U (y6.1,y9.getD (fD:Int).toNat (0:Int)) fun(cH:Int×Int)=>U (aA++gb n.1 (List.take fD b8)) fun(fG:List ar)=>U ((List.replicate (1:Nat) ((0:Int),(0:Int))).set (0:Nat) cH) fun(jc:List (Int×Int))=>fD<=y9.length->(cV=true->bD (fD:Int) y9.length/\True/\((eY n cH).2=true->roomFor (fG.length+jc.length) (16:Nat)/\bH IntKind.i64 ((fD:Int)+(1:Int))/\∃(eF:Nat),eF<=y9.length/\y9.length-eF<y9.length-fD/\(eF:Int)=(fD:Int)+(1:Int)/\(y9.length:Int)=(y9.length:Int)/\[n]=[n]/\(0:Nat)=(0:Nat)/\r.2.2.2.1=r.2.2.2.1/\(r.2.2.2.1.length:Int)=(r.2.2.2.1.length:Int)/\(s4:Int)=(s4:Int)/\aA++gb n.1 (List.take eF b8)=fG++jc/\y9=y9/\bG r (y6.1=y6.1/\y6.2.1=y6.2.1/\y6.2.2=y6.2.2/\True))/\((eY n cH).2=false->bH IntKind.i64 ((fD:Int)+(1:Int))/\∃(eF:Nat),eF<=y9.length/\y9.length-eF<y9.length-fD/\(eF:Int)=(fD:Int)+(1:Int)/\(y9.length:Int)=(y9.length:Int)/\[n]=[n]/\(0:Nat)=(0:Nat)/\r.2.2.2.1=r.2.2.2.1/\(r.2.2.2.1.length:Int)=(r.2.2.2.1.length:Int)/\(s4:Int)=(s4:Int)/\aA++gb n.1 (List.take eF b8)=fG/\y9=y9/\bG r (y6.1=y6.1/\y6.2.1=y6.2.1/\y6.2.2=y6.2.2/\True)))/\(cV=false->bH IntKind.i64 ((s4:Int)+(1:Int))/\∃(eF:Nat),eF<=r.2.2.2.1.length/\r.2.2.2.1.length-eF<r.2.2.2.1.length-s4/\(eF:Int)=(s4:Int)+(1:Int)/\[n]=[n]/\(0:Nat)=(0:Nat)/\r.2.2.2.1=r.2.2.2.1/\(r.2.2.2.1.length:Int)=(r.2.2.2.1.length:Int)/\gV n.1 r eF=fG/\bG r (True)))/\(dO=false->(∃(pO:Nat),pO<=y9.length/\(pO:Int)=(0:Int)/\(y9.length:Int)=(y3.length:Int)/\[n]=[n]/\(0:Nat)=(0:Nat)/\r.2.2.2.1=r.2.2.2.1/\(r.2.2.2.1.length:Int)=(r.2.2.2.1.length:Int)/\(s4:Int)=(s4:Int)/\aA++gb n.1 (List.take pO b8)=gV n.1 r s4/\y9=y3/\bG r (y6.1=y6.1/\y6.2.1=y6.2.1/\y6.2.2=y6.2.2/\True))/\∀(fD:Nat),U (decide ((fD:Int)<(y9.length:Int))) fun(cV:Bool)=>U (y6.1,y9.getD (fD:Int).toNat (0:Int)) fun(cH:Int×Int)=>U (aA++gb n.1 (List.take fD b8)) fun(fG:List ar)=>U ((List.replicate (1:Nat) ((0:Int),(0:Int))).set (0:Nat) cH) fun(jc:List (Int×Int))=>fD<=y9.length->(cV=true->bD (fD:Int) y9.length/\True/\((eY n cH).2=true->roomFor (fG.length+jc.length) (16:Nat)/\bH IntKind.i64 ((fD:Int)+(1:Int))/\∃(eF:Nat),eF<=y9.length/\y9.length-eF<y9.length-fD/\(eF:Int)=(fD:Int)+(1:Int)/\(y9.length:Int)=(y9.length:Int)/\[n]=[n]/\(0:Nat)=(0:Nat)/\r.2.2.2.1=r.2.2.2.1/\(r.2.2.2.1.length:Int)=(r.2.2.2.1.length:Int)/\(s4:Int)=(s4:Int)/\aA++gb n.1 (List.take eF b8)=fG++jc/\y9=y9/\bG r (y6.1=y6.1/\y6.2.1=y6.2.1/\y6.2.2=y6.2.2/\True))/\((eY n cH).2=false->bH IntKind.i64 ((fD:Int)+(1:Int))/\∃(eF:Nat),eF<=y9.length/\y9.length-eF<y9.length-fD/\(eF:Int)=(fD:Int)+(1:Int)/\(y9.length:Int)=(y9.length:Int)/\[n]=[n]/\(0:Nat)=(0:Nat)/\r.2.2.2.1=r.2.2.2.1/\(r.2.2.2.1.length:Int)=(r.2.2.2.1.length:Int)/\(s4:Int)=(s4:Int)/\aA++gb n.1 (List.take eF b8)=fG/\y9=y9/\bG r (y6.1=y6.1/\y6.2.1=y6.2.1/\y6.2.2=y6.2.2/\True)))/\(cV=false->bH IntKind.i64 ((s4:Int)+(1:Int))/\∃(eF:Nat),eF<=r.2.2.2.1.length/\r.2.2.2.1.length-eF<r.2.2.2.1.length-s4/\(eF:Int)=(s4:Int)+(1:Int)/\[n]=[n]/\(0:Nat)=(0:Nat)/\r.2.2.2.1=r.2.2.2.1/\(r.2.2.2.1.length:Int)=(r.2.2.2.1.length:Int)/\gV n.1 r eF=fG/\bG r (True))))/\(db=false->(∃(pO:Nat),pO<=y9.length/\(pO:Int)=(0:Int)/\(y9.length:Int)=(0:Int)/\[n]=[n]/\(0:Nat)=(0:Nat)/\r.2.2.2.1=r.2.2.2.1/\(r.2.2.2.1.length:Int)=(r.2.2.2.1.length:Int)/\(s4:Int)=(s4:Int)/\aA++gb n.1 (List.take pO b8)=gV n.1 r s4/\y9=[]/\bG r (y6.1=y6.1/\y6.2.1=y6.2.1/\y6.2.2=y6.2.2/\True))/\∀(fD:Nat),U (decide ((fD:Int)<(y9.length:Int))) fun(cV:Bool)=>U (y6.1,y9.getD (fD:Int).toNat (0:Int)) fun(cH:Int×Int)=>U (aA++gb n.1 (List.take fD b8)) fun(fG:List ar)=>U ((List.replicate (1:Nat) ((0:Int),(0:Int))).set (0:Nat) cH) fun(jc:List (Int×Int))=>fD<=y9.length->(cV=true->bD (fD:Int) y9.length/\True/\((eY n cH).2=true->roomFor (fG.length+jc.length) (16:Nat)/\bH IntKind.i64 ((fD:Int)+(1:Int))/\∃(eF:Nat),eF<=y9.length/\y9.length-eF<y9.length-fD/\(eF:Int)=(fD:Int)+(1:Int)/\(y9.length:Int)=(y9.length:Int)/\[n]=[n]/\(0:Nat)=(0:Nat)/\r.2.2.2.1=r.2.2.2.1/\(r.2.2.2.1.length:Int)=(r.2.2.2.1.length:Int)/\(s4:Int)=(s4:Int)/\aA++gb n.1 (List.take eF b8)=fG++jc/\y9=y9/\bG r (y6.1=y6.1/\y6.2.1=y6.2.1/\y6.2.2=y6.2.2/\True))/\((eY n cH).2=false->bH IntKind.i64 ((fD:Int)+(1:Int))/\∃(eF:Nat),eF<=y9.length/\y9.length-eF<y9.length-fD/\(eF:Int)=(fD:Int)+(1:Int)/\(y9.length:Int)=(y9.length:Int)/\[n]=[n]/\(0:Nat)=(0:Nat)/\r.2.2.2.1=r.2.2.2.1/\(r.2.2.2.1.length:Int)=(r.2.2.2.1.length:Int)/\(s4:Int)=(s4:Int)/\aA++gb n.1 (List.take eF b8)=fG/\y9=y9/\bG r (y6.1=y6.1/\y6.2.1=y6.2.1/\y6.2.2=y6.2.2/\True)))/\(cV=false->bH IntKind.i64 ((s4:Int)+(1:Int))/\∃(eF:Nat),eF<=r.2.2.2.1.length/\r.2.2.2.1.length-eF<r.2.2.2.1.length-s4/\(eF:Int)=(s4:Int)+(1:Int)/\[n]=[n]/\(0:Nat)=(0:Nat)/\r.2.2.2.1=r.2.2.2.1/\(r.2.2.2.1.length:Int)=(r.2.2.2.1.length:Int)/\gV n.1 r eF=fG/\bG r (True)))))/\(y5=false->gV n.1 r s4=eh n.1 r/\True)):=by kernel_rfl
theorem aoI(n:aS)(r:aM)(hn:dk n)(hr:x8 r):aq (av aQ [(92,o8),(117,qY)]) Tryz.f141 MT (a141 (n,r,())) (n,r,()):=by
 have XL:=hr.1;rw[v141];refine U.mk fun y2 e2=>U.mk fun y3 e3=>⟨?_,?_⟩;refine⟨0,by omega,rfl,rfl,rfl,rfl,rfl,?_,rfl,rfl,rfl,rfl,rfl,rfl,rfl,rfl,rfl,trivial⟩;grind[gV];intro k;refine U.mk fun y5 e5=>U.mk fun y6 e6=>U.mk fun y7 e7=>U.mk fun y8 e8=>U.mk fun y9 e9=>U.mk fun cj ei=>U.mk fun aA fW=>U.mk fun b8 fJ=>U.mk fun db iB=>U.mk fun dO kS=>fun hk=>⟨fun h=>?_,fun h=>?_⟩;have hk:=di e5 h;have h6:y6=r.2.2.2.1.getD k rm:=e6;have kf:stepOf r (k:Int)=y6:=h6.symm;have h9:y9=qx n.1 y6:=by grind
 have Cv:aA=gV n.1 r k:=fW;have mz:b8=pT n.1 y6:=by grind
 have hm:za y6:=hr.2 y6 (by grind);obtain⟨⟨m1,m2⟩,m3,m4⟩:=hm;have h0:aA++gb n.1 (b8.take 0)=gV n.1 r k:=by grind[gb]
 have fin:∀(z:List Int),y9=z->(∃(pO:Nat),pO<=y9.length/\(pO:Int)=(0:Int)/\(y9.length:Int)=(z.length:Int)/\aA++gb n.1 (List.take pO b8)=gV n.1 r k/\y9=z):=fun z hz=>⟨0,by omega,rfl,by rw[hz],h0,hz⟩;have DA:=Xy n r k y6 y9 aA b8 hn hr hk h6 h9 Cv mz;refine⟨⟨by omega,by omega⟩,trivial,fun h7=>?_,fun h7=>⟨fun lU=>⟨fun wR=>?_,fun wR=>?_⟩,fun lU=>?_⟩⟩;have hz:y9=cj:=by rw[h9,ei,e8];unfold qx;simp_all
 obtain⟨j,q1,q2,q3,q4,q5⟩:=fin _ hz;exact⟨bC (by omega) (by omega),⟨j,q1,q2,q3,rfl,rfl,rfl,rfl,rfl,q4,q5,rfl,rfl,rfl,rfl,rfl,rfl,rfl,rfl,rfl,rfl,rfl,rfl,trivial⟩,DA⟩;have hz:y9=y2:=by rw[h9,e2];unfold qx;simp_all
 obtain⟨j,q1,q2,q3,q4,q5⟩:=fin _ hz;exact⟨⟨j,q1,q2,q3,rfl,rfl,rfl,rfl,rfl,q4,q5,rfl,rfl,rfl,rfl,rfl,rfl,rfl,rfl,rfl,rfl,rfl,rfl,trivial⟩,DA⟩;have hz:y9=y3:=by rw[h9,e3];unfold qx;rw[<-e7,h7,<-iB,lU,<-kS,wR];rfl
 obtain⟨j,q1,q2,q3,q4,q5⟩:=fin _ hz;exact⟨⟨j,q1,q2,q3,rfl,rfl,rfl,rfl,rfl,q4,q5,rfl,rfl,rfl,rfl,rfl,rfl,rfl,rfl,rfl,rfl,rfl,rfl,trivial⟩,DA⟩;have hz:y9=[]:=by rw[h9];unfold qx;grind
 obtain⟨j,q1,q2,q3,q4,q5⟩:=fin _ hz;exact⟨⟨j,q1,q2,q3,rfl,rfl,rfl,rfl,rfl,q4,q5,rfl,rfl,rfl,rfl,rfl,rfl,rfl,rfl,rfl,rfl,rfl,rfl,trivial⟩,DA⟩;have T8:=eH e5 h;have:k=r.2.2.2.1.length:=by omega
 subst this;simp[eh]
theorem agQ:aN Tryz.prog 141 MT:=aN.cB (l:=[(92,o8),(117,qY)]) (A:=a141) aO ⟨xe,Dq,trivial⟩ Tryz.func141 (by rfl) (by rfl) fun x _ hp=>aoI x.1 x.2.1 hp.1 hp.2
theorem v145(r:aM)(e:Int):fH (av aQ [(144,Ae)]) Tryz.f145 MR az (r,e,())=( U (dx r.2.2.2.2.2.2.1 e) fun(y2:Bool)=>U (eO r e).2.2.2 fun(y3:Int×List (Int×Int×Int)×List (Int×Int)×List (Int×Int)×List Int×List Int×Bool)=>U (decide ((r.2.2.2.2.2.2.1.length:Int)>=(12:Int))) fun(y4:Bool)=>U ((List.replicate (1:Nat) (0:Int)).set (0:Nat) e) fun(y5:List Int)=>True/\(y2=true->true=(eO r e).1/\r.1=(eO r e).2.1/\r.2.1=(eO r e).2.2.1/\r.2.2.1=y3.1/\r.2.2.2.1=y3.2.1/\r.2.2.2.2.1=y3.2.2.1/\r.2.2.2.2.2.1=y3.2.2.2.1/\r.2.2.2.2.2.2.1=y3.2.2.2.2.1/\r.2.2.2.2.2.2.2.1=y3.2.2.2.2.2.1/\r.2.2.2.2.2.2.2.2=y3.2.2.2.2.2.2/\True)/\(y2=false->(y4=true->false=(eO r e).1/\r.1=(eO r e).2.1/\r.2.1=(eO r e).2.2.1/\r.2.2.1=y3.1/\r.2.2.2.1=y3.2.1/\r.2.2.2.2.1=y3.2.2.1/\r.2.2.2.2.2.1=y3.2.2.2.1/\r.2.2.2.2.2.2.1=y3.2.2.2.2.1/\r.2.2.2.2.2.2.2.1=y3.2.2.2.2.2.1/\true=y3.2.2.2.2.2.2/\True)/\(y4=false->roomFor (r.2.2.2.2.2.2.1.length+y5.length) (8:Nat)/\true=(eO r e).1/\r.1=(eO r e).2.1/\r.2.1=(eO r e).2.2.1/\r.2.2.1=y3.1/\r.2.2.2.1=y3.2.1/\r.2.2.2.2.1=y3.2.2.1/\r.2.2.2.2.2.1=y3.2.2.2.1/\r.2.2.2.2.2.2.1++y5=y3.2.2.2.2.1/\r.2.2.2.2.2.2.2.1=y3.2.2.2.2.2.1/\r.2.2.2.2.2.2.2.2=y3.2.2.2.2.2.2/\True))):=by kernel_rfl
theorem aoF(r:aM)(e:Int)(hl:r.2.2.2.2.2.2.1.length<=1000):fH (av aQ [(144,Ae)]) Tryz.f145 MR az (r,e,()):=by
 rw[v145];refine U.mk fun y2 e2=>U.mk fun y3 e3=>U.mk fun y4 e4=>U.mk fun y5 e5=>⟨trivial,fun h=>?_,fun h=>⟨fun h4=>?_,fun h4=>?_⟩⟩;have hz:eO r e=(true,r):=by grind[eO]
 grind;have hz:eO r e=(false,ZC r):=by grind[eO]
 rw[e3,hz];exact⟨rfl,rfl,rfl,rfl,rfl,rfl,rfl,rfl,rfl,rfl,trivial⟩;have hz:eO r e=(true,ZB r (r.2.2.2.2.2.2.1++[e])):=by grind[eO]
 rw[e3,hz,e5];exact⟨gU (by grind) (by decide),rfl,rfl,rfl,rfl,rfl,rfl,rfl,rfl,rfl,rfl,trivial⟩
theorem agN:lS Tryz.prog 145 MR:=lS.cB (l:=[(144,Ae)]) (A:=fun _=>az) aO ⟨Tg,trivial⟩ Tryz.func145 (by rfl) (by rfl) fun x hw hp=>aoF x.1 x.2.1 hp
theorem akB(e:Int)(stop:Int)(n:aS)(todo:List (Int×Int)):fH (av aQ [(117,qY)]) Tryz.f142 MS az (e,stop,n,todo,())=( U (eY n (e,stop)).2 fun(y4:Bool)=>U ((List.replicate (1:Nat) ((0:Int),(0:Int))).set (0:Nat) (eY n (e,stop)).1) fun(y5:List (Int×Int))=>True/\(y4=true->roomFor (todo.length+y5.length) (16:Nat)/\n=n/\todo++y5=qH n e stop todo/\True)/\(y4=false->n=n/\todo=qH n e stop todo/\True)):=by kernel_rfl
theorem aoH(e stop:Int)(n:aS)(todo:List ar)(hl:todo.length<=1000000):fH (av aQ [(117,qY)]) Tryz.f142 MS az (e,stop,n,todo,()):=by rw[akB];refine U.mk fun y4 e4=>U.mk fun y5 e5=>⟨trivial,fun h=>?_,fun h=>?_⟩;refine⟨gU (by grind) (by decide),rfl,?_,trivial⟩;grind[qH];grind[qH]
theorem agP:lS Tryz.prog 142 MS:=lS.cB (l:=[(117,qY)]) (A:=fun _=>az) aO ⟨Dq,trivial⟩ Tryz.func142 (by rfl) (by rfl) fun x hw hp=>aoH x.1 x.2.1 x.2.2.1 x.2.2.2.1 hp
theorem akf(l:List (Int×Int))(x:Int×Int):aq (av aQ []) Tryz.f185 MC (acb (l,x,())) (l,x,())=( U (js (fun(y:dH)=>x==y) l) fun(y2:Int)=>(∃(jL:Nat),(jL<=l.length/\((List.take jL l).any fun(y:dH)=>x==y)=false)/\(jL:Int)=(0:Int)/\l=l/\(l.length:Int)=(l.length:Int)/\x.1=x.1/\x.2=x.2/\True)/\∀(s3:Nat),U (decide ((s3:Int)<(l.length:Int))) fun(y4:Bool)=>U (l.getD (s3:Int).toNat ((0:Int),(0:Int))) fun(y5:Int×Int)=>U (x.1==y5.1&&(x.2==y5.2&&true)) fun(y6:Bool)=>s3<=l.length/\((List.take s3 l).any fun(y:dH)=>x==y)=false->(y4=true->bD (s3:Int) l.length/\(y6=true->(s3:Int)=y2/\True)/\(y6=false->bH IntKind.i64 ((s3:Int)+(1:Int))/\∃(mv:Nat),(mv<=l.length/\((List.take mv l).any fun(y:dH)=>x==y)=false)/\l.length-mv<l.length-s3/\(mv:Int)=(s3:Int)+(1:Int)/\l=l/\(l.length:Int)=(l.length:Int)/\x.1=x.1/\x.2=x.2/\True))/\(y4=false->(-1:Int)=y2/\True)):=by kernel_rfl
theorem aor(l:List dH)(x:dH)(hw:l.length<=bI):aq (av aQ []) Tryz.f185 MC (acb (l,x,())) (l,x,()):=by rw[akf];refine U.mk fun y2 e2=>?_;simp only[ck,aX,eq_self];refine⟨⟨0,⟨by omega,by simp⟩,by omega⟩,fun s=>U.mk fun y4 e4=>U.mk fun y5 e5=>U.mk fun y6 e6=>?_⟩;rintro⟨h1,h2⟩;refine⟨fun hs=>?_,fun hs=>?_⟩;(·have hs:=di e4 hs;refine⟨⟨by omega,by omega⟩,fun e=>?_,fun e=>⟨fY hs hw,s+1,⟨by omega,?_⟩,by omega,by omega⟩⟩;all_goals grind[yv,any_succ]);rw[e2];exact ur (s:=s) (eH e4 hs) h2
theorem agj:aN Tryz.prog 185 MC:=aN.cB (l:=[]) (A:=acb) aO trivial Tryz.func185 (by rfl) (by rfl) fun x hw hp=>aor x.1 x.2.1 hw.1.1
theorem v146(l:List (Int×Int))(x:Int×Int):aq (av aQ [(185,MC)]) Tryz.f146 MQ az (l,x,())=( U (js (fun(y:dH)=>x==y) l) fun(y2:Int)=>True/\decide (y2>=(0:Int))=dm l x/\True):=by kernel_rfl
theorem aoE(l:List dH)(x:dH):aq (av aQ [(185,MC)]) Tryz.f146 MQ az (l,x,()):=by rw[v146];simp[U.mk,n6,dm,o9]
theorem agM:aN Tryz.prog 146 MQ:=aN.cB (l:=[(185,MC)]) (A:=fun _=>az) aO ⟨agj,trivial⟩ Tryz.func146 (by rfl) (by rfl) fun x hw hp=>aoE x.1 x.2.1
theorem Jo:aN Tryz.prog 51 uO:=alQ.ptr fun x h=>by obtain⟨n,h1⟩:=h;grind
theorem ac5:aN Tryz.prog 138 Pc:=agS.ptr fun x h=>by obtain⟨n,h1,h2⟩:=h;grind
theorem Tx{o:Option aS}(h:hX o):dk (bf o)/\o=some (bf o):=by obtain⟨n,rfl,h⟩:=h;exact⟨h,rfl⟩
theorem ajX(o:Option (aS)):fH (av aQ [(51,uO),(138,Pc)]) Tryz.f86 My (ab8 (o,())) (o,())=( U (bf o).1.2.2.1.length fun(y1:Nat)=>ka o/\(∃(ga:Nat),ga<=y1/\(ga:Int)=(0:Int)/\o=o/\(y1:Int)=(y1:Int)/\ng (bf o).1 ga=[]/\True)/\∀(s2:Nat),U (decide ((s2:Int)<(y1:Int))) fun(y3:Bool)=>U (ng (bf o).1 s2).length fun(y4:Nat)=>U (wS (bf o).1 (s2:Int)) fun(y5:List aM)=>s2<=y1->(y3=true->hX o/\roomFor (y4+y5.length) (152:Nat)/\bH IntKind.i64 ((s2:Int)+(1:Int))/\∃(l8:Nat),l8<=y1/\y1-l8<y1-s2/\(l8:Int)=(s2:Int)+(1:Int)/\o=o/\(y1:Int)=(y1:Int)/\ng (bf o).1 l8=ng (bf o).1 s2++y5/\True)/\(y3=false->(decide ((y4:Int)>(64:Int))=true->[]=(jI (bf o).1).1/\(3:Int)=(jI (bf o).1).2/\True)/\(decide ((y4:Int)>(64:Int))=false->ng (bf o).1 s2=(jI (bf o).1).1/\(0:Int)=(jI (bf o).1).2/\True))):=by kernel_rfl
theorem aoi(o:Option aS)(ho:hX o):fH (av aQ [(51,uO),(138,Pc)]) Tryz.f86 My (ab8 (o,())) (o,()):=by obtain⟨hn,XK⟩:=Tx ho;have hs:=(pa (jJ hn.2).1).2.1;rw[ajX];refine U.mk fun y1 e1=>⟨⟨_,XK⟩,⟨0,by omega,rfl,rfl,rfl,by grind[ng],trivial⟩,fun k=>U.mk fun y3 e3=>U.mk fun y4 e4=>U.mk fun y5 e5=>fun hk=>⟨fun h=>?_,fun h=>?_⟩⟩;have hk:=di e3 h;have h1:=Fx (bf o).1 k;have h2:=H9 (bf o).1 k;exact⟨ho,gU (by grind) (by decide),bC (by omega) (by omega),k+1,by omega,by omega,by omega,rfl,rfl,by grind[zQ],trivial⟩;·have hk:=eH e3 h;(have:k=y1:=by omega);subst this;rw[all_eq,e4,e1];all_goals grind
theorem af4:lS Tryz.prog 86 My:=lS.cB (l:=[(51,uO),(138,Pc)]) (A:=ab8) aO ⟨Jo,ac5,trivial⟩ Tryz.func86 (by rfl) (by rfl) fun x _ hp=>aoi x.1 hp
theorem af2:aN Tryz.prog 88 VL:=ZM.ptr fun x h=>by obtain⟨⟨n,h1⟩,h2⟩:=h;refine⟨n,h1,?_⟩;rw[h1]at h2;exact h2
theorem Jp{l:List Int}:∀{k:Nat},k<=l.length->(∀j,j<k->(l.getD j 0)∉l.take j)->(l.take k).Nodup|0,_,_=>by simp|k+1,hk,h=>by rw[kT 0 (by omega),List.nodup_append];refine⟨Jp (by omega) fun j hj=>h j (by omega),by simp,fun a ha b hb=>?_⟩;rw[aL]at hb;intro e;subst e;exact h k (by omega) (hb▸ha)
theorem NX{l:List Int}{e:Int}(h:e∈l):dx l e=true:=by unfold dx;grind
theorem N4{p:ab}(h:bK p=0):dN p:=fun l hl=>by obtain⟨hS,_,_,_,hL⟩:=jJ h;have hs:=(pa hS).1;obtain⟨i,hi,rfl⟩:=List.getElem_of_mem hl;have hg:p.2.2.2.1[i]=p.2.2.2.1.getD i zL:=(yp zL hi).symm;rw[hg];have he:=N5 hL hi;unfold iD at hL;have nZ:=iM.1 hL i hi;unfold kZ at nZ;rw[ae]at nZ;generalize JZ:(p.2.2.2.1.getD i zL).2=l at*;(have hn:l.Nodup:=by(have:=Jp (l:=l) (aZ _) fun j hj hm=>by have:=iM.1 nZ.1 j hj;unfold oq at this;rw[JZ]at this;grind[NX]);grind);(have hr:∀e∈l,e∈(List.range p.1.length).map fun(k:Nat)=>(k:Int):=fun e he'=>by obtain⟨k,hk,rfl⟩:=List.getElem_of_mem he';have XP:=(OY he hk).2;rw[yp 0 hk]at XP;have hr:=Hf (p:=p) (e:=l[k]) (by omega);exact List.mem_map.2 ⟨l[k].toNat,List.mem_range.2 (by omega),by omega⟩);have:=vQ hn hr;grind
theorem Ds{n:aS}(h:dk n):tO n.1:=by have hs:=pa (jJ h.2).1;exact⟨by show _<=1000;omega,by show _<=1000;omega,by show _<=1000;omega,by show _<=1000;omega,N4 h.2⟩
theorem CA{p:ab}{y:ar}(hh:ez p y=true)(h4:(ax p y.1==4)=false)(h2:(ax p y.1==2)=false):bP p y.1 y.2 0=((wq p y.1 y.2 0).1,true):=by
 obtain⟨e,i⟩:=y;obtain⟨_,h0,hE⟩:=m7 hh;have h0:0<=i:=h0;have hE:i<eb (ax p e):=hE;have h4:(ax p e==4)=false:=h4;have h2:(ax p e==2)=false:=h2;have e1:eb 1=2:=by grind[eb]
 have e3:eb 3=4:=by grind[eb]
 have hk:ax p e=1\/ax p e=3:=by grind[eb]
 have has:∀j,0<=j->j<eb (ax p e)->ez p (e,j)=true:=fun j j0 j1=>by unfold ez at hh⊢;grind
 rcases hk with hk|hk;have kk:(ax p e==1)=true:=by grind
 have Nt:∀j,0<=j->j<2->bP p e j 0=(1-j,true):=fun j j0 j1=>by unfold bP ct;rw[has j j0 (by grind),kk];rfl
 rw[hk,e1]at hE;show bP p e i 0=((wq p e i 0).1,true);rw[Nt i h0 hE];unfold wq;rw[hk,e1];have hi:i=0\/i=1:=by omega
 have t0:=Nt 0 (by decide) (by decide);have t1:=Nt 1 (by decide) (by decide);rcases hi with rfl|rfl;show _=((Qr ((List.range 2).find? fun i=>(bP p e (i:Int) 0).2&&(bP p e (i:Int) 0).1==0)).1,true);simp only[gW,List.range_zero,List.nil_append,List.cons_append,List.find?_cons];rw[show bP p e ((0:Nat):Int) 0=(1-0,true)from t0,show bP p e ((1:Nat):Int) 0=(1-1,true)from t1];rfl;show _=((Qr ((List.range 2).find? fun i=>(bP p e (i:Int) 0).2&&(bP p e (i:Int) 0).1==1)).1,true);simp only[gW,List.range_zero,List.nil_append,List.cons_append,List.find?_cons];rw[show bP p e ((0:Nat):Int) 0=(1-0,true)from t0];rfl;have k1:(ax p e==1)=false:=by grind
 have k3:(ax p e==3)=true:=by grind
 have Nt:∀j,0<=j->j<4->bP p e j 0=(It j,true):=fun j j0 j1=>by unfold bP ct;rw[has j j0 (by grind),k1,k3];rfl
 rw[hk,e3]at hE;show bP p e i 0=((wq p e i 0).1,true);rw[Nt i h0 hE];unfold wq;rw[hk,e3];have hi:i=0\/i=1\/i=2\/i=3:=by omega
 have t0:bP p e ((0:Nat):Int) 0=(1,true):=Nt 0 (by decide) (by decide);have t1:bP p e ((1:Nat):Int) 0=(0,true):=Nt 1 (by decide) (by decide);have t2:bP p e ((2:Nat):Int) 0=(3,true):=Nt 2 (by decide) (by decide);have t3:bP p e ((3:Nat):Int) 0=(2,true):=Nt 3 (by decide) (by decide);have go:∀q,(Qr ((List.range 4).find? fun i=>(bP p e (i:Int) 0).2&&(bP p e (i:Int) 0).1==q)).1=(Qr (bif(1:Int)==q then some 0 else bif(0:Int)==q then some 1 else bif(3:Int)==q then some 2 else bif(2:Int)==q then some 3 else none)).1:=fun q=>by simp only[gW,List.range_zero,List.nil_append,List.cons_append,List.find?_cons,List.find?_nil];grind
 rcases hi with rfl|rfl|rfl|rfl;exact Prod.ext (go 0).symm rfl;exact Prod.ext (go 1).symm rfl;exact Prod.ext (go 2).symm rfl;exact Prod.ext (go 3).symm rfl
theorem XX{n:aS}{r:aM}{y:ar}{ts:List ar}{s:bc}(h:kQ n r (y::ts,s)):kQ n r ((lM y s).1++ts,(lM y s).2)/\gM ((lM y s).1++ts) (lM y s).2<gM (y::ts) s:=by obtain⟨h1,h2,h3,h4,h5⟩:=h;have h1:fin (y::ts) s=_:=h1;have h3:s.1=n.1:=h3;have h5:gM (y::ts) s<=100000:=h5;(have hy:y∈cT s.1:=by grind);obtain⟨k1,k2,k3,k4⟩:=XY (y:=y) (ts:=ts) (s:=s) ⟨h2,hy⟩;refine⟨⟨by grind,k2.lY h2,k2.vO.trans h3,fun x hx=>?_,c6 (Nat.le_of_lt k4) h5⟩,k4⟩;grind
def xI(s:bc):aM:=(s.2.1,s.2.2.1,s.2.2.2.1,iC s,eZ s,cu s,fP s,eD s,s.2.2.2.2.2.2.2.2.2.1)
theorem U8(s:bc):vL s=xI s:=by unfold vL;rfl
theorem Sb(s:bc)(e:Int):(eO (xI s) e).1=(eI s e).1/\(eO (xI s) e).2=xI (eI s e).2/\dE (eI s e).2=dE s/\(eI s e).2.1=s.1:=by unfold eO eI;show(bif dx (fP s) e then _ else bif decide (12<=(fP s).length)then _ else _:Bool×aM).1=_/\(bif dx (fP s) e then _ else bif decide (12<=(fP s).length)then _ else _:Bool×aM).2=_/\_;cases dx (fP s) e with|true=>simp|false=>cases decide (12<=(fP s).length)<;>exact⟨rfl,rfl,rfl,rfl⟩
theorem ZE(p:ab)(e stop:Int):(pn p e stop).reverse=pn p e stop:=by grind[pn]
theorem L1{n:aS}(hn:dk n)(e stop:Int)(l:List ar):qH n e stop l=l++pn n.1 e stop:=by grind[qH,pn,qp]
theorem WW(s:bc)(y:ar):(cL bp (eR s) y).getD false=mP (dE s) y:=by have:=rz bp (fun x:ar=>x) (dE s) y;grind[eR,mP,Hi]
theorem PB{s:bc}{y:ar}(h:mP (dE s) y=false):gO bp (eR s) y true=eR (gG s (dE s++[y])):=by(have hn:(cL bp (eR s) y).isSome=false:=by rw[kF];unfold eR;rw[List.any_map];unfold mP at h;rw[<-h];congr 1;funext x;show Ty.nu bp y x=_;rw[Hi,o9]);rw[qq qN hn];show eR s++[(y,true)]=(dE s++[y]).map _;rw[dW];rfl
theorem v87(n:aS)(r:aM):aq (av aQ [(139,Hw),(140,Ry),(88,UA),(141,MT),(117,qY),(143,Rx),(61,yB),(92,o8),(145,MR),(144,Ae),(146,MQ),(147,Rw),(142,MS)] [] [] [142]) Tryz.f87 c87 (a87 (n,r,())) (n,r,())=( U (r.1,r.2.1,r.2.2.1,r.2.2.2.1,r.2.2.2.2.1,[],[],[],false) fun(y2:aM)=>U ((↑(eh n.1 y2).length:Int)-(1:Int)) fun(y3:Int)=>U ((↑(eh n.1 r).length:Int)-(1:Int)) fun(y4:Int)=>lW r.2.2.2.1/\lW r.2.2.2.2.1/\tO n.1/\(dk n/\x8 y2)/\bH IntKind.i64 y3/\(∃(mh:Nat),mh<=(eh n.1 r).length/\y4-(mh:Int)=y3/\n.1.2.2.2.2.2.2.2.2=n.1.2.2.2.2.2.2.2.2/\mL n.1 r mh=[]/\[n]=[n]/\(0:Nat)=(0:Nat)/\r.1=r.1/\r.2.1=r.2.1/\r.2.2.1=r.2.2.1/\false=false/\(0:Int)=(0:Int)/\(0:Int)=(0:Int)/\(0:Int)=(0:Int)/\false=false/\r.2.2.2.1=r.2.2.2.1/\r.2.2.2.2.1=r.2.2.2.2.1/\([]:List (ar×Bool))=[]/\eh n.1 y2=eh n.1 y2/\True)/\∀(s5:Nat),U (decide (y4-(s5:Int)>=(0:Int))) fun(y6:Bool)=>U ((List.replicate (1:Nat) ((0:Int),(0:Int))).set (0:Nat) (eY n ((eh n.1 y2).getD (y4-(s5:Int)).toNat ((0:Int),(0:Int)))).1) fun(y7:List (Int×Int))=>U (y4-(s5:Int)-(1:Int)) fun(y8:Int)=>s5<=(eh n.1 r).length->(y6=true->bD (y4-(s5:Int)) (eh n.1 y2).length/\True/\roomFor ((mL n.1 r s5).length+y7.length) (16:Nat)/\bH IntKind.i64 y8/\∃(zj:Nat),zj<=(eh n.1 r).length/\(eh n.1 r).length-zj<(eh n.1 r).length-s5/\y4-(zj:Int)=y8/\n.1.2.2.2.2.2.2.2.2=n.1.2.2.2.2.2.2.2.2/\mL n.1 r zj=mL n.1 r s5++y7/\[n]=[n]/\(0:Nat)=(0:Nat)/\r.1=r.1/\r.2.1=r.2.1/\r.2.2.1=r.2.2.1/\false=false/\(0:Int)=(0:Int)/\(0:Int)=(0:Int)/\(0:Int)=(0:Int)/\false=false/\r.2.2.2.1=r.2.2.2.1/\r.2.2.2.2.1=r.2.2.2.2.1/\([]:List (ar×Bool))=[]/\eh n.1 y2=eh n.1 y2/\True)/\(y6=false->(∃(mX:List ar×bc),kQ n r mX/\n.1.2.2.2.2.2.2.2.2=n.1.2.2.2.2.2.2.2.2/\n=n/\mX.2.2.1=r.1/\mX.2.2.2.1=r.2.1/\mX.2.2.2.2.1=r.2.2.1/\mX.2.2.2.2.2.2.2.2.2.2.1=false/\iC mX.2=r.2.2.2.1/\eZ mX.2=r.2.2.2.2.1/\cu mX.2=[]/\fP mX.2=[]/\eD mX.2=[]/\mX.1.reverse=mL n.1 r s5/\eR mX.2=[]/\(0:Int)=(0:Int)/\(0:Int)=(0:Int)/\(0:Int)=(0:Int)/\false=false/\True)/\∀(s9:List ar×bc),U (decide ((s9.1.reverse.length:Int)>(0:Int))) fun(cj:Bool)=>U ((s9.1.reverse.length:Int)-(1:Int)) fun(aA:Int)=>U (s9.2.2.1,s9.2.2.2.1,s9.2.2.2.2.1,iC s9.2,eZ s9.2,cu s9.2,fP s9.2,eD s9.2,s9.2.2.2.2.2.2.2.2.2.2.1) fun(b8:aM)=>U (s9.1.reverse.getD aA.toNat ((0:Int),(0:Int))) fun(db:Int×Int)=>U (bif uM b8 db.1 then true else(cL bp (eR s9.2) db).getD false) fun(dO:Bool)=>U (List.take aA.toNat s9.1.reverse) fun(cy:List (Int×Int))=>U (bif decide (kz n db>=(0:Int))then !n.1.2.2.2.2.2.2.2.2 else false) fun(cV:Bool)=>U (!dx (eD s9.2) (kz n db)) fun(cH:Bool)=>U ((List.replicate (1:Nat) (0:Int)).set (0:Nat) (kz n db)) fun(fG:List Int)=>U (ax n.1 db.1==(4:Int)) fun(jc:Bool)=>U (ax n.1 db.1==(2:Int)) fun(gz:Bool)=>U (qH n db.1 (2:Int) cy) fun(iY:List ar)=>U (eO b8 db.1).2.2 fun(fL:Int×Int×List (Int×Int×Int)×List (Int×Int)×List (Int×Int)×List Int×List Int×Bool)=>U (bif dm (eZ s9.2) db then true else dm (cu s9.2) db) fun(lz:Bool)=>U (db.1,(3:Int)-db.2) fun(nD:Int×Int)=>U (!dm (cu s9.2) nD) fun(mf:Bool)=>U ((List.replicate (1:Nat) ((0:Int),(0:Int))).set (0:Nat) nD) fun(pg:List (Int×Int))=>U (bP n.1 db.1 db.2 (0:Int)) fun(pI:Int×Bool)=>kQ n r s9->(cj=true->bH IntKind.i64 aA/\bD aA s9.1.reverse.length/\bH IntKind.i64 aA/\((0:Int)<=aA/\aA<=(s9.1.reverse.length:Int))/\(iC s9.2).length<=(1000:Nat)/\(dO=true->∃(aD:List ar×bc),kQ n r aD/\gM aD.1 aD.2<gM s9.1 s9.2/\n.1.2.2.2.2.2.2.2.2=n.1.2.2.2.2.2.2.2.2/\n=n/\aD.2.2.1=s9.2.2.1/\aD.2.2.2.1=s9.2.2.2.1/\aD.2.2.2.2.1=s9.2.2.2.2.1/\aD.2.2.2.2.2.2.2.2.2.2.1=s9.2.2.2.2.2.2.2.2.2.2.1/\iC aD.2=iC s9.2/\eZ aD.2=eZ s9.2/\cu aD.2=cu s9.2/\fP aD.2=fP s9.2/\eD aD.2=eD s9.2/\aD.1.reverse=cy/\eR aD.2=eR s9.2/\(0:Int)=(0:Int)/\(0:Int)=(0:Int)/\(0:Int)=(0:Int)/\false=false/\True)/\(dO=false->True/\(cV=true->True/\(cH=true->roomFor ((eD s9.2).length+fG.length) (8:Nat)/\∃(aD:List ar×bc),kQ n r aD/\gM aD.1 aD.2<gM s9.1 s9.2/\n.1.2.2.2.2.2.2.2.2=n.1.2.2.2.2.2.2.2.2/\n=n/\aD.2.2.1=s9.2.2.1/\aD.2.2.2.1=s9.2.2.2.1/\aD.2.2.2.2.1=s9.2.2.2.2.1/\aD.2.2.2.2.2.2.2.2.2.2.1=s9.2.2.2.2.2.2.2.2.2.2.1/\iC aD.2=iC s9.2/\eZ aD.2=eZ s9.2/\cu aD.2=cu s9.2/\fP aD.2=fP s9.2/\eD aD.2=eD s9.2++fG/\aD.1.reverse=cy/\eR aD.2=gO bp (eR s9.2) db true/\(0:Int)=(0:Int)/\(0:Int)=(0:Int)/\(0:Int)=(0:Int)/\false=false/\True)/\(cH=false->∃(aD:List ar×bc),kQ n r aD/\gM aD.1 aD.2<gM s9.1 s9.2/\n.1.2.2.2.2.2.2.2.2=n.1.2.2.2.2.2.2.2.2/\n=n/\aD.2.2.1=s9.2.2.1/\aD.2.2.2.1=s9.2.2.2.1/\aD.2.2.2.2.1=s9.2.2.2.2.1/\aD.2.2.2.2.2.2.2.2.2.2.1=s9.2.2.2.2.2.2.2.2.2.2.1/\iC aD.2=iC s9.2/\eZ aD.2=eZ s9.2/\cu aD.2=cu s9.2/\fP aD.2=fP s9.2/\eD aD.2=eD s9.2/\aD.1.reverse=cy/\eR aD.2=gO bp (eR s9.2) db true/\(0:Int)=(0:Int)/\(0:Int)=(0:Int)/\(0:Int)=(0:Int)/\false=false/\True))/\(cV=false->True/\(jc=true->∃(aD:List ar×bc),kQ n r aD/\gM aD.1 aD.2<gM s9.1 s9.2/\n.1.2.2.2.2.2.2.2.2=n.1.2.2.2.2.2.2.2.2/\n=n/\aD.2.2.1=s9.2.2.1/\aD.2.2.2.1=s9.2.2.2.1/\aD.2.2.2.2.1=s9.2.2.2.2.1/\aD.2.2.2.2.2.2.2.2.2.2.1=true/\iC aD.2=iC s9.2/\eZ aD.2=eZ s9.2/\cu aD.2=cu s9.2/\fP aD.2=fP s9.2/\eD aD.2=eD s9.2/\aD.1.reverse=cy/\eR aD.2=gO bp (eR s9.2) db true/\(0:Int)=(0:Int)/\(0:Int)=(0:Int)/\(0:Int)=(0:Int)/\false=false/\True)/\(jc=false->(gz=true->((db.2==(0:Int))=true->(fP s9.2).length<=(1000:Nat)/\((eO b8 db.1).1=true->cy.length<=(1000000:Nat)/\iY.length<=(1000000:Nat)/\∃(aD:List ar×bc),kQ n r aD/\gM aD.1 aD.2<gM s9.1 s9.2/\n.1.2.2.2.2.2.2.2.2=n.1.2.2.2.2.2.2.2.2/\n=n/\aD.2.2.1=(eO b8 db.1).2.1/\aD.2.2.2.1=fL.1/\aD.2.2.2.2.1=fL.2.1/\aD.2.2.2.2.2.2.2.2.2.2.1=fL.2.2.2.2.2.2.2/\iC aD.2=fL.2.2.1/\eZ aD.2=fL.2.2.2.1/\cu aD.2=fL.2.2.2.2.1/\fP aD.2=fL.2.2.2.2.2.1/\eD aD.2=fL.2.2.2.2.2.2.1/\aD.1.reverse=qH n db.1 (1:Int) iY/\eR aD.2=gO bp (eR s9.2) db true/\(0:Int)=(0:Int)/\(0:Int)=(0:Int)/\(0:Int)=(0:Int)/\false=false/\True)/\((eO b8 db.1).1=false->∃(aD:List ar×bc),kQ n r aD/\gM aD.1 aD.2<gM s9.1 s9.2/\n.1.2.2.2.2.2.2.2.2=n.1.2.2.2.2.2.2.2.2/\n=n/\aD.2.2.1=(eO b8 db.1).2.1/\aD.2.2.2.1=fL.1/\aD.2.2.2.2.1=fL.2.1/\aD.2.2.2.2.2.2.2.2.2.2.1=fL.2.2.2.2.2.2.2/\iC aD.2=fL.2.2.1/\eZ aD.2=fL.2.2.2.1/\cu aD.2=fL.2.2.2.2.1/\fP aD.2=fL.2.2.2.2.2.1/\eD aD.2=fL.2.2.2.2.2.2.1/\aD.1.reverse=cy/\eR aD.2=gO bp (eR s9.2) db true/\(0:Int)=(0:Int)/\(0:Int)=(0:Int)/\(0:Int)=(0:Int)/\false=false/\True))/\((db.2==(0:Int))=false->True/\(dm (eZ s9.2) db=false->True)/\(lz=true->(fP s9.2).length<=(1000:Nat)/\((eO b8 db.1).1=true->cy.length<=(1000000:Nat)/\∃(aD:List ar×bc),kQ n r aD/\gM aD.1 aD.2<gM s9.1 s9.2/\n.1.2.2.2.2.2.2.2.2=n.1.2.2.2.2.2.2.2.2/\n=n/\aD.2.2.1=(eO b8 db.1).2.1/\aD.2.2.2.1=fL.1/\aD.2.2.2.2.1=fL.2.1/\aD.2.2.2.2.2.2.2.2.2.2.1=fL.2.2.2.2.2.2.2/\iC aD.2=fL.2.2.1/\eZ aD.2=fL.2.2.2.1/\cu aD.2=fL.2.2.2.2.1/\fP aD.2=fL.2.2.2.2.2.1/\eD aD.2=fL.2.2.2.2.2.2.1/\aD.1.reverse=qH n db.1 (0:Int) cy/\eR aD.2=gO bp (eR s9.2) db true/\(0:Int)=(0:Int)/\(0:Int)=(0:Int)/\(0:Int)=(0:Int)/\false=false/\True)/\((eO b8 db.1).1=false->∃(aD:List ar×bc),kQ n r aD/\gM aD.1 aD.2<gM s9.1 s9.2/\n.1.2.2.2.2.2.2.2.2=n.1.2.2.2.2.2.2.2.2/\n=n/\aD.2.2.1=(eO b8 db.1).2.1/\aD.2.2.2.1=fL.1/\aD.2.2.2.2.1=fL.2.1/\aD.2.2.2.2.2.2.2.2.2.2.1=fL.2.2.2.2.2.2.2/\iC aD.2=fL.2.2.1/\eZ aD.2=fL.2.2.2.1/\cu aD.2=fL.2.2.2.2.1/\fP aD.2=fL.2.2.2.2.2.1/\eD aD.2=fL.2.2.2.2.2.2.1/\aD.1.reverse=cy/\eR aD.2=gO bp (eR s9.2) db true/\(0:Int)=(0:Int)/\(0:Int)=(0:Int)/\(0:Int)=(0:Int)/\false=false/\True))/\(lz=false->bH IntKind.i64 ((3:Int)-db.2)/\True/\(mf=true->roomFor ((cu s9.2).length+pg.length) (16:Nat)/\∃(aD:List ar×bc),kQ n r aD/\gM aD.1 aD.2<gM s9.1 s9.2/\n.1.2.2.2.2.2.2.2.2=n.1.2.2.2.2.2.2.2.2/\n=n/\aD.2.2.1=s9.2.2.1/\aD.2.2.2.1=s9.2.2.2.1/\aD.2.2.2.2.1=s9.2.2.2.2.1/\aD.2.2.2.2.2.2.2.2.2.2.1=s9.2.2.2.2.2.2.2.2.2.2.1/\iC aD.2=iC s9.2/\eZ aD.2=eZ s9.2/\cu aD.2=cu s9.2++pg/\fP aD.2=fP s9.2/\eD aD.2=eD s9.2/\aD.1.reverse=cy/\eR aD.2=gO bp (eR s9.2) db true/\(0:Int)=(0:Int)/\(0:Int)=(0:Int)/\(0:Int)=(0:Int)/\false=false/\True)/\(mf=false->∃(aD:List ar×bc),kQ n r aD/\gM aD.1 aD.2<gM s9.1 s9.2/\n.1.2.2.2.2.2.2.2.2=n.1.2.2.2.2.2.2.2.2/\n=n/\aD.2.2.1=s9.2.2.1/\aD.2.2.2.1=s9.2.2.2.1/\aD.2.2.2.2.1=s9.2.2.2.2.1/\aD.2.2.2.2.2.2.2.2.2.2.1=s9.2.2.2.2.2.2.2.2.2.2.1/\iC aD.2=iC s9.2/\eZ aD.2=eZ s9.2/\cu aD.2=cu s9.2/\fP aD.2=fP s9.2/\eD aD.2=eD s9.2/\aD.1.reverse=cy/\eR aD.2=gO bp (eR s9.2) db true/\(0:Int)=(0:Int)/\(0:Int)=(0:Int)/\(0:Int)=(0:Int)/\false=false/\True))))/\(gz=false->True/\(pI.2=true->(fP s9.2).length<=(1000:Nat)/\((eO b8 db.1).1=true->cy.length<=(1000000:Nat)/\∃(aD:List ar×bc),kQ n r aD/\gM aD.1 aD.2<gM s9.1 s9.2/\n.1.2.2.2.2.2.2.2.2=n.1.2.2.2.2.2.2.2.2/\n=n/\aD.2.2.1=(eO b8 db.1).2.1/\aD.2.2.2.1=fL.1/\aD.2.2.2.2.1=fL.2.1/\aD.2.2.2.2.2.2.2.2.2.2.1=fL.2.2.2.2.2.2.2/\iC aD.2=fL.2.2.1/\eZ aD.2=fL.2.2.2.1/\cu aD.2=fL.2.2.2.2.1/\fP aD.2=fL.2.2.2.2.2.1/\eD aD.2=fL.2.2.2.2.2.2.1/\aD.1.reverse=qH n db.1 pI.1 cy/\eR aD.2=gO bp (eR s9.2) db true/\(0:Int)=(0:Int)/\(0:Int)=(0:Int)/\(0:Int)=(0:Int)/\false=false/\True)/\((eO b8 db.1).1=false->∃(aD:List ar×bc),kQ n r aD/\gM aD.1 aD.2<gM s9.1 s9.2/\n.1.2.2.2.2.2.2.2.2=n.1.2.2.2.2.2.2.2.2/\n=n/\aD.2.2.1=(eO b8 db.1).2.1/\aD.2.2.2.1=fL.1/\aD.2.2.2.2.1=fL.2.1/\aD.2.2.2.2.2.2.2.2.2.2.1=fL.2.2.2.2.2.2.2/\iC aD.2=fL.2.2.1/\eZ aD.2=fL.2.2.2.1/\cu aD.2=fL.2.2.2.2.1/\fP aD.2=fL.2.2.2.2.2.1/\eD aD.2=fL.2.2.2.2.2.2.1/\aD.1.reverse=cy/\eR aD.2=gO bp (eR s9.2) db true/\(0:Int)=(0:Int)/\(0:Int)=(0:Int)/\(0:Int)=(0:Int)/\false=false/\True))/\(pI.2=!true->(false=true->cy.length<=(1000000:Nat)/\∃(aD:List ar×bc),kQ n r aD/\gM aD.1 aD.2<gM s9.1 s9.2/\n.1.2.2.2.2.2.2.2.2=n.1.2.2.2.2.2.2.2.2/\n=n/\aD.2.2.1=s9.2.2.1/\aD.2.2.2.1=s9.2.2.2.1/\aD.2.2.2.2.1=s9.2.2.2.2.1/\aD.2.2.2.2.2.2.2.2.2.2.1=s9.2.2.2.2.2.2.2.2.2.2.1/\iC aD.2=iC s9.2/\eZ aD.2=eZ s9.2/\cu aD.2=cu s9.2/\fP aD.2=fP s9.2/\eD aD.2=eD s9.2/\aD.1.reverse=qH n db.1 pI.1 cy/\eR aD.2=gO bp (eR s9.2) db true/\(0:Int)=(0:Int)/\(0:Int)=(0:Int)/\(0:Int)=(0:Int)/\false=false/\True)/\(false=false->∃(aD:List ar×bc),kQ n r aD/\gM aD.1 aD.2<gM s9.1 s9.2/\n.1.2.2.2.2.2.2.2.2=n.1.2.2.2.2.2.2.2.2/\n=n/\aD.2.2.1=s9.2.2.1/\aD.2.2.2.1=s9.2.2.2.1/\aD.2.2.2.2.1=s9.2.2.2.2.1/\aD.2.2.2.2.2.2.2.2.2.2.1=s9.2.2.2.2.2.2.2.2.2.2.1/\iC aD.2=iC s9.2/\eZ aD.2=eZ s9.2/\cu aD.2=cu s9.2/\fP aD.2=fP s9.2/\eD aD.2=eD s9.2/\aD.1.reverse=cy/\eR aD.2=gO bp (eR s9.2) db true/\(0:Int)=(0:Int)/\(0:Int)=(0:Int)/\(0:Int)=(0:Int)/\false=false/\True)))))))/\(cj=false->b8=ri n.1 r/\True))):=by kernel_rfl
theorem b87(n:aS)(r:aM)(hn:dk n)(hf:vt n.1 r):aq (av aQ [(139,Hw),(140,Ry),(88,UA),(141,MT),(117,qY),(143,Rx),(61,yB),(92,o8),(145,MR),(144,Ae),(146,MQ),(147,Rw),(142,MS)] [] [] [142]) Tryz.f87 c87 (a87 (n,r,())) (n,r,()):=by
 have kf:x8 r:=hf.2.1;have XL:=kf.1;have XO:=hf.2.2;have hup:=xK n.1 r r.2.2.2.1.length (aZ _);have pH:(eh n.1 r).length<=2000:=by grind[eh]
 have kH:=pa (jJ hn.2).1;rw[v87];refine U.mk fun y2 e2=>?_;have hp2:eh n.1 y2=eh n.1 r:=by grind[eh,gV]
 rw[hp2];refine U.mk fun y3 e3=>U.mk fun y4 e4=>⟨XL,XO,Ds hn,⟨hn,by rw[e2];exact kf⟩,bC (by omega) (by omega),⟨0,by omega,?_⟩,fun k=>U.mk fun y6 e6=>U.mk fun y7 e7=>U.mk fun y8 e8=>fun hk=>⟨fun h6=>?_,fun h6=>⟨?_,?_⟩⟩⟩;·(have q1:y4-((0:Nat):Int)=y3:=by omega);(repeat' apply And.intro);all_goals first|rfl|trivial|exact q1
 have h6:y4-(k:Int)>=0:=ao (by grind);have Ai:k<(eh n.1 r).length:=by omega
 have hpo:(mL n.1 r k).length<=2000:=by grind[mL]
 refine⟨⟨by omega,by omega⟩,trivial,gU (by grind) (by decide),bC (by omega) (by omega),k+1,by omega,by omega,?_⟩;have q1:y4-((k+1:Nat):Int)=y8:=by omega
 have q2:mL n.1 r (k+1)=mL n.1 r k++y7:=by unfold mL;rw[kT (0,0) (by grind),dW,e7,qp hn];(have ht:(y4-(k:Int)).toNat=(eh n.1 r).length-1-k:=by omega);grind
 grind;·have h6:¬y4-(k:Int)>=0:=aj (by grind);(have Ai:k=(eh n.1 r).length:=by omega);have QH:=Kf hf (eh n.1 r).length (aZ _);rw[List.take_length]at QH;have hon:=(Gk hf 0).1;(have hje:(cT n.1).length<=160:=by grind[oS]);(have q2:((eh n.1 r).map fun x=>(aF n.1 x).1).reverse=mL n.1 r k:=by grind[mL,List.length_reverse,List.map_reverse]);refine⟨((eh n.1 r).map fun x=>(aF n.1 x).1,s0 n.1 r),⟨QH.symm,hon,rfl,fun y hy=>?_,?_⟩,?_⟩;grind[rR,CJ];grind[gM,s0];·(repeat' apply And.intro);all_goals first|rfl|trivial|exact q2
 ·intro s9;refine U.mk fun cj ei=>U.mk fun aA fW=>U.mk fun b8 fJ=>U.mk fun db iB=>U.mk fun dO kS=>U.mk fun cy nf=>U.mk fun cV mR=>U.mk fun cH o7=>U.mk fun fG wx=>U.mk fun jc An=>U.mk fun gz uu=>U.mk fun iY Am=>U.mk fun fL uF=>U.mk fun lz Gw=>U.mk fun nD Gv=>U.mk fun mf Al=>U.mk fun pg Gu=>U.mk fun pI Rc=>fun nZ=>?_;obtain⟨ts,s⟩:=s9;have aap:b8=xI s:=fJ;cases ts with|nil=>(have kC:cj=false:=by grind);refine⟨fun h=>(by rw[kC]at h;cases h),fun _=>⟨?_,trivial⟩⟩;have h1:s=uo n.1 r (eh n.1 r).length:=nZ.same;grind[ri,U8]|cons y ts=>(have hlen:((y::ts).reverse).length=ts.length+1:=by simp);have hwk:gM (y::ts) s<=100000:=nZ.small;(have XJ:ts.length<=100000:=by grind[gM]);(have kC:cj=true:=by grind);(have Cv:aA=(ts.length:Int):=by grind);have hrv:(y::ts).reverse=ts.reverse++[y]:=List.reverse_cons;(have lU:db=y:=by grind[DH]);(have h15:cy=ts.reverse:=by grind[List.take_left']);have pH:s.1=n.1:=nZ.vO;have hyj:y∈cT n.1:=nZ.NL y bz;have hinv:=nZ.inv.1;have hinv:HE s:=hinv;have hzl:(fP s).length<=12:=hinv.Au;have Cr:=WR s hinv;have hgl:(cu s).length<=2000:=c6 hinv.guards Cr;have hhl:(eD s).length<=2000:=c6 hinv.holds Cr;have Ge:(iC s).length<=1000:=hinv.steps;obtain⟨g1,g2⟩:=XX nZ;(have hR:kz n y=cr s.1 y:=by grind[ry]);(have wR:dO=(uM (vL s) y.1||mP (dE s) y):=by rw[kS,aap,lU,U8];show(bif uM (xI s) y.1 then true else(cL bp (eR s) y).getD false)=_;simp[WW]);(have Cu:cV=(decide (0<=cr s.1 y)&&!s.1.2.2.2.2.2.2.2.2):=by simp_all);(have QR:cH=!dx (eD s) (cr s.1 y):=by grind);(have QQ:fG=[cr s.1 y]:=by grind);(have vd:jc=(ax s.1 y.1==4):=by grind);(have wQ:gz=(ax s.1 y.1==2):=by grind);(have QO:iY=ts.reverse++pn s.1 y.1 2:=by grind[L1]);(have HY:fL=(eO (xI s) y.1).2.2:=by grind);(have XS:lz=(dm (eZ s) y||dm (cu s) y):=by grind);(have HX:nD=(y.1,3-y.2):=by grind);(have HW:mf=!dm (cu s) (y.1,3-y.2):=by grind);(have h26:pg=[(y.1,3-y.2)]:=by grind);(have Uk:pI=bP s.1 y.1 y.2 0:=by grind);(have EO:ez s.1 y=true:=by obtain⟨j,hj,hx⟩:=(X7 n.1 y).1 hyj;have:=zr (jJ hn.2).2.2.1 hj;grind);have atJ:=yo EO;clear ei fW iB kS nf mR o7 wx An uu Am uF Gw Gv Al Gu Rc;rw[lU,h15,aap,Cv];have atx:((y::ts).reverse).length=ts.length+1:=hlen;obtain⟨hzA,Qs,hzC,hzD⟩:=Sb (gG s (dE s++[y])) y.1;have hzA:(eO (xI s) y.1).1=(eI (gG s (dE s++[y])) y.1).1:=hzA;have Qs:(eO (xI s) y.1).2=xI (eI (gG s (dE s++[y])) y.1).2:=Qs;(have l15:ts.reverse.length<=1000000:=by grind);(have r1:∀e stop,(pn s.1 e stop++ts).reverse=ts.reverse++pn s.1 e stop:=fun e stop=>by rw[List.reverse_append,ZE]);(have o1:∀e stop l,qH n e stop l=l++pn s.1 e stop:=fun e stop l=>by grind[L1]);refine⟨fun _=>⟨bC (by omega) (by omega),⟨by omega,by grind⟩,bC (by omega) (by omega),⟨by omega,by grind⟩,Ge,fun an6=>?_,fun an6=>?_⟩,fun h=>(by grind)⟩;(have hm:lM y s=([],s):=by grind[lM]);rw[hm]at g1 g2;grind;(have amY:mP (dE s) y=false:=by grind);(have JW:lM y s=AS y (gG s (dE s++[y])):=by grind[lM]);have q2:eR (gG s (dE s++[y]))=gO bp (eR s) y true:=(PB amY).symm;(have qz:eR (eI (gG s (dE s++[y])) y.1).2=gO bp (eR s) y true:=by grind[eR]);(have hN:∀c,(decide (0<=cr s.1 y)&&!s.1.2.2.2.2.2.2.2.2)=c->AS y (gG s (dE s++[y]))=bif c then([],bif dx (eD s) (cr s.1 y)then gG s (dE s++[y])else IZ (gG s (dE s++[y])) (eD s++[cr s.1 y]))else bif ax s.1 y.1==4 then([],Dj (gG s (dE s++[y])))else bif ax s.1 y.1==2 then lN y (gG s (dE s++[y]))else(bif(eI (gG s (dE s++[y])) y.1).1 then(pn s.1 y.1 (wq s.1 y.1 y.2 0).1,(eI (gG s (dE s++[y])) y.1).2)else([],(eI (gG s (dE s++[y])) y.1).2)):=fun c hc=>by subst hc;rfl);rw[QQ,QO,HY,h26];refine⟨trivial,fun an7=>⟨trivial,fun an8=>⟨gU (by show(eD s).length+1<=_;omega) (by decide),?_⟩,fun an8=>?_⟩,fun an7=>⟨trivial,fun C4=>?_,fun C4=>⟨fun Fg=>⟨fun Yd=>⟨by grind,fun cz=>⟨l15,?_,?_⟩,fun cz=>?_⟩,fun Yd=>⟨trivial,fun _=>trivial,fun aoa=>⟨by grind,fun cz=>⟨l15,?_⟩,fun cz=>?_⟩,fun aoa=>⟨bC ?_ ?_,trivial,fun an9=>⟨gU (by grind) (by decide),?_⟩,fun an9=>?_⟩⟩⟩,fun Fg=>⟨trivial,fun abz=>⟨by grind,fun cz=>⟨l15,?_⟩,fun cz=>?_⟩,fun abz=>?_⟩⟩⟩⟩;(·(have hm:lM y s=([],IZ (gG s (dE s++[y])) (eD s++[cr s.1 y])):=by rw[JW,hN true (by grind)];grind);rw[hm]at g1 g2;refine⟨([]++ts,_),g1,g2,?_⟩;(repeat' apply And.intro);all_goals first|rfl|trivial|exact q2);(·(have hm:lM y s=([],gG s (dE s++[y])):=by rw[JW,hN true (by grind)];grind);rw[hm]at g1 g2;refine⟨([]++ts,_),g1,g2,?_⟩;(repeat' apply And.intro);all_goals first|rfl|trivial|exact q2);(·(have hm:lM y s=([],Dj (gG s (dE s++[y]))):=by rw[JW,hN false (by grind),<-vd,C4];rfl);rw[hm]at g1 g2;refine⟨([]++ts,_),g1,g2,?_⟩;(repeat' apply And.intro);all_goals first|rfl|trivial|exact q2);grind[El];(·(have cz:(eI (gG s (dE s++[y])) y.1).1=true:=by grind);(have hm:lM y s=(pn s.1 y.1 1++pn s.1 y.1 2,(eI (gG s (dE s++[y])) y.1).2):=by rw[JW,hN false (by grind),<-vd,C4,<-wQ,Fg];show lN y _=_;unfold lN;rw[Yd,cz];rfl);rw[hm]at g1 g2;(have q1:(pn s.1 y.1 1++pn s.1 y.1 2++ts).reverse=qH n y.1 1 (ts.reverse++pn s.1 y.1 2):=by simp_all);refine⟨(pn s.1 y.1 1++pn s.1 y.1 2++ts,_),g1,g2,?_⟩;rw[Qs];(repeat' apply And.intro);all_goals first|rfl|trivial|exact q1|exact qz);(·(have cz:(eI (gG s (dE s++[y])) y.1).1=false:=by grind);(have hm:lM y s=([],(eI (gG s (dE s++[y])) y.1).2):=by rw[JW,hN false (by grind),<-vd,C4,<-wQ,Fg];show lN y _=_;unfold lN;simp_all);rw[hm]at g1 g2;refine⟨([]++ts,_),g1,g2,?_⟩;rw[Qs];(repeat' apply And.intro);all_goals first|rfl|trivial|exact qz);(·(have cz:(eI (gG s (dE s++[y])) y.1).1=true:=by grind);(have hm:lM y s=(pn s.1 y.1 0,(eI (gG s (dE s++[y])) y.1).2):=by rw[JW,hN false (by grind),<-vd,C4,<-wQ,Fg];show lN y _=_;unfold lN;(have:(!dm (eZ (gG s (dE s++[y]))) (y.1,y.2)&&!dm (cu (gG s (dE s++[y]))) (y.1,y.2))=false:=by show(!dm (eZ s) y&&!dm (cu s) y)=false;grind);rw[Yd,this,cz];rfl);rw[hm]at g1 g2;(have q1:(pn s.1 y.1 0++ts).reverse=qH n y.1 0 ts.reverse:=by rw[o1,r1]);refine⟨(pn s.1 y.1 0++ts,_),g1,g2,?_⟩;rw[Qs];(repeat' apply And.intro);all_goals first|rfl|trivial|exact q1|exact qz);(·(have cz:(eI (gG s (dE s++[y])) y.1).1=false:=by grind);(have hm:lM y s=([],(eI (gG s (dE s++[y])) y.1).2):=by rw[JW,hN false (by grind),<-vd,C4,<-wQ,Fg];show lN y _=_;unfold lN;(have:(!dm (eZ (gG s (dE s++[y]))) (y.1,y.2)&&!dm (cu (gG s (dE s++[y]))) (y.1,y.2))=false:=by show(!dm (eZ s) y&&!dm (cu s) y)=false;grind);rw[Yd,this,cz];rfl);rw[hm]at g1 g2;refine⟨([]++ts,_),g1,g2,?_⟩;rw[Qs];(repeat' apply And.intro);all_goals first|rfl|trivial|exact qz);omega;omega;(·(have zy:(!dm (eZ (gG s (dE s++[y]))) (y.1,y.2)&&!dm (cu (gG s (dE s++[y]))) (y.1,y.2))=true:=by show(!dm (eZ s) y&&!dm (cu s) y)=true;grind);(have hm:lM y s=([],H6 (gG s (dE s++[y])) (cu s++[(y.1,3-y.2)])):=by rw[JW,hN false (by grind),<-vd,C4,<-wQ,Fg];show lN y _=_;unfold lN;(have:dm (cu (gG s (dE s++[y]))) (y.1,3-y.2)=false:=by show dm (cu s) _=false;grind);rw[Yd,zy,this];rfl);rw[hm]at g1 g2;refine⟨([]++ts,_),g1,g2,?_⟩;(repeat' apply And.intro);all_goals first|rfl|trivial|exact q2);(·(have zy:(!dm (eZ (gG s (dE s++[y]))) (y.1,y.2)&&!dm (cu (gG s (dE s++[y]))) (y.1,y.2))=true:=by show(!dm (eZ s) y&&!dm (cu s) y)=true;grind);(have hm:lM y s=([],gG s (dE s++[y])):=by rw[JW,hN false (by grind),<-vd,C4,<-wQ,Fg];show lN y _=_;unfold lN;(have:dm (cu (gG s (dE s++[y]))) (y.1,3-y.2)=true:=by show dm (cu s) _=true;grind);rw[Yd,zy,this];rfl);rw[hm]at g1 g2;refine⟨([]++ts,_),g1,g2,?_⟩;(repeat' apply And.intro);all_goals first|rfl|trivial|exact q2);(·have HO:=CA EO (by grind) (by grind);(have cz:(eI (gG s (dE s++[y])) y.1).1=true:=by grind);(have hm:lM y s=(pn s.1 y.1 (wq s.1 y.1 y.2 0).1,(eI (gG s (dE s++[y])) y.1).2):=by rw[JW,hN false (by grind),<-vd,C4,<-wQ,Fg,cz];rfl);rw[hm]at g1 g2;(have q1:(pn s.1 y.1 (wq s.1 y.1 y.2 0).1++ts).reverse=qH n y.1 pI.1 ts.reverse:=by rw[o1,r1,Uk,HO]);refine⟨(pn s.1 y.1 (wq s.1 y.1 y.2 0).1++ts,_),g1,g2,?_⟩;rw[Qs];(repeat' apply And.intro);all_goals first|rfl|trivial|exact q1|exact qz);(·(have cz:(eI (gG s (dE s++[y])) y.1).1=false:=by grind);(have hm:lM y s=([],(eI (gG s (dE s++[y])) y.1).2):=by rw[JW,hN false (by grind),<-vd,C4,<-wQ,Fg,cz];rfl);rw[hm]at g1 g2;refine⟨([]++ts,_),g1,g2,?_⟩;rw[Qs];(repeat' apply And.intro);all_goals first|rfl|trivial|exact qz);have HO:=CA EO (by grind) (by grind);rw[Uk,HO]at abz;cases abz
theorem alp:aN Tryz.prog 87 c87:=aN.cB (l:=[(139,Hw),(140,Ry),(88,UA),(141,MT),(117,qY),(143,Rx),(61,yB),(92,o8),(145,MR),(144,Ae),(146,MQ),(147,Rw),(142,MS)]) (wraps:=[]) (clos:=[]) (mclos:=[142]) (A:=a87) aO ⟨ZW,agR,ZM,agQ,Dq,agO,Jn,xe,agN,Tg,agM,agL,agP,trivial⟩ Tryz.func87 (by rfl) (by rfl) fun x _ hp=>b87 x.1 x.2.1 hp.1 hp.2
theorem af3:aN Tryz.prog 87 VM:=alp.ptr fun x h=>by obtain⟨⟨n,h1,h2⟩,h3⟩:=h;refine⟨n,h1,h2,?_⟩;rw[h1]at h3;exact h3
theorem mM(p:ab):(ic p).1=p:=by grind[ic]
theorem BQ{p:ab}(h:bK p=0):dk (ic p):=⟨by rw[mM],by grind[mM]⟩
theorem FW{p:ab}(h:bK p=0):dp p=some (ic p):=by grind[dp]
theorem v42(p:ab):aq (av aQ [(34,xV),(86,My),(87,VM),(88,VL)]) Tryz.f42 O9 (a42 (p,())) (p,())=( U (jI (bf (dp p)).1).2 fun(y1:Int)=>U (jI (bf (dp p)).1).1 fun(y2:List aM)=>U ((0:Int),(0:Int),(0:Int),[],[],[],[],[],false) fun(y3:aM)=>dN p/\((bK p !=(0:Int))=true->(([],[],[],[],(0:Int),(0:Int),(0:Int),(0:Int),false),[])=(eg p).1/\bK p=(eg p).2/\True)/\((bK p !=(0:Int))=false->hX (dp p)/\((y1 !=(0:Int))=true->(([],[],[],[],(0:Int),(0:Int),(0:Int),(0:Int),false),[])=(eg p).1/\y1=(eg p).2/\True)/\((y1 !=(0:Int))=false->(∃(uU:Nat),uU<=(jI p).1.length/\(uU:Int)=(0:Int)/\dp p=dp p/\(y2.length:Int)=(y2.length:Int)/\jf p uU=y2/\(0:Int)=(0:Int)/\(0:Int)=(0:Int)/\(0:Int)=(0:Int)/\(0:Int)=(0:Int)/\false=false/\True)/\∀(s4:Nat),U (decide ((s4:Int)<(y2.length:Int))) fun(y5:Bool)=>U ((jf p s4).getD (s4:Int).toNat y3) fun(y6:aM)=>s4<=(jI p).1.length->(y5=true->bD (s4:Int) (jf p s4).length/\(hX (dp p)/\vt (bf (dp p)).1 y6)/\bD (s4:Int) (jf p s4).length/\bH IntKind.i64 ((s4:Int)+(1:Int))/\∃(mv:Nat),mv<=(jI p).1.length/\(jI p).1.length-mv<(jI p).1.length-s4/\(mv:Int)=(s4:Int)+(1:Int)/\dp p=dp p/\(y2.length:Int)=(y2.length:Int)/\jf p mv=(jf p s4).set (s4:Int).toNat (ri (bf (dp p)).1 y6)/\(0:Int)=(0:Int)/\(0:Int)=(0:Int)/\(0:Int)=(0:Int)/\(0:Int)=(0:Int)/\false=false/\True)/\(y5=false->(ka (dp p)/\tO (bf (dp p)).1)/\((bf (dp p)).1,jf p s4)=(eg p).1/\(0:Int)=(eg p).2/\True)))):=by kernel_rfl
theorem b42(p:ab)(hp:dN p):aq (av aQ [(34,xV),(86,My),(87,VM),(88,VL)]) Tryz.f42 O9 (a42 (p,())) (p,()):=by
 have hB:eg p=bif bK p==0 then(bif(jI p).2==0 then((p,(jI p).1.map (ri p)),0)else(zC,(jI p).2))else(zC,bK p):=by grind[eg]
 have DF:=KT p;rw[v42];refine U.mk fun y1 e1=>U.mk fun y2 e2=>U.mk fun y3 e3=>⟨hp,fun h=>?_,fun h=>?_⟩;rw[uP]at h;have h:(bK p==0)=false:=by grind
 rw[hB,h];exact⟨rfl,rfl,trivial⟩;rw[uP]at h;have h:(bK p==0)=true:=by grind
 have hc:bK p=0:=eq_of_beq h;have qt:hX (dp p):=⟨ic p,FW hc,BQ hc⟩;have hof:(bf (dp p)).1=p:=by rw[FW hc];exact mM p
 rw[hof]at e1 e2⊢;obtain⟨h3,h4⟩:=vh hc;obtain⟨_,h5,_,_⟩:=D2 h3;rw[h]at hB;refine⟨qt,fun h2=>?_,fun h2=>?_⟩;rw[uP,e1]at h2;have h2:((jI p).2==0)=false:=by grind
 rw[hB,h2,e1];exact⟨rfl,rfl,trivial⟩;rw[uP,e1]at h2;have h2:((jI p).2==0)=true:=by grind
 rw[h2]at hB;have q0:jf p 0=y2:=by grind[jf]
 refine⟨⟨0,by omega,rfl,?_⟩,fun k=>U.mk fun y5 e5=>U.mk fun y6 e6=>fun hk=>?_⟩;grind;have Cr:(List.map (ri p) (List.take k (jI p).1)).length=k:=by grind
 have hfl:(jf p k).length=(jI p).1.length:=by grind[jf]
 refine⟨fun h=>?_,fun h=>?_⟩;have h:=di e5 h;have mO:k<(jI p).1.length:=by grind
 have hd:(jI p).1.drop k=(jI p).1.getD k zR::(jI p).1.drop (k+1):=by simp_all
 have e6:y6=(jI p).1.getD k zR:=by rw[e6];unfold jf;simp_all
 have nZ:=aer h4 y6 (by grind);have q1:jf p (k+1)=(jf p k).set (k:Int).toNat (ri p y6):=by unfold jf;rw[hd,ak,List.set_append_right _ _ (by omega),Cr,Nat.sub_self,List.set_cons_zero,vq _ zR mO,fw,e6];rfl
 refine⟨⟨by omega,by omega⟩,⟨qt,hc,⟨by have:=nZ.2.1;omega,nZ.1⟩,by have:=nZ.2.2;omega⟩,⟨by omega,by omega⟩,bC (by omega) (by omega),k+1,by omega,by omega,by omega,?_⟩;grind;have hle:=eH e5 h;have hke:k=(jI p).1.length:=by grind
 have hsh:=Ds (BQ hc);rw[mM]at hsh;refine⟨⟨⟨_,FW hc⟩,hsh⟩,?_⟩;rw[hB];unfold jf;grind
theorem aeR:aN Tryz.prog 42 O9:=aN.cB (l:=[(34,xV),(86,My),(87,VM),(88,VL)]) (A:=a42) aO ⟨L4,af4,af3,af2,trivial⟩ Tryz.func42 (by rfl) (by rfl) fun x _ hp=>b42 x.1 hp
def VU:bg where args:=[.list GK,.list GK];out:=.data [.bool];pre:=fun(x:List oE×List oE×Unit)=>True;fn:=fun(x:List oE×List oE×Unit)=>(x.1==x.2.1,())
def afv(x:List oE×List oE×Unit):gh:=bN [(4,fun _=>fE x.1.length (tn x.1 x.2.1) 13 [0,1,12] [])]
def VT:bg where args:=[.list GJ,.list GJ];out:=.data [.bool];pre:=fun(x:List oD×List oD×Unit)=>True;fn:=fun(x:List oD×List oD×Unit)=>(x.1==x.2.1,())
def afu(x:List oD×List oD×Unit):gh:=bN [(4,fun _=>fE x.1.length (tn x.1 x.2.1) 13 [0,1,12] [])]
def VS:bg where args:=[.list BD,.list BD];out:=.data [.bool];pre:=fun(x:List jB×List jB×Unit)=>True;fn:=fun(x:List jB×List jB×Unit)=>(x.1==x.2.1,())
def aft(x:List jB×List jB×Unit):gh:=bN [(4,fun _=>fE x.1.length (tn x.1 x.2.1) 13 [0,1,12] [])]
def MB:bg where args:=[.list I,.list I];out:=.data [.bool];pre:=fun(x:List Int×List Int×Unit)=>True;fn:=fun(x:List Int×List Int×Unit)=>(x.1==x.2.1,())
def a194(x:List Int×List Int×Unit):gh:=bN [(4,fun _=>fE x.1.length (tn x.1 x.2.1) 13 [0,1,12] [])]
def VQ:bg where args:=[.list n8,.list n8];out:=.data [.bool];pre:=fun(x:List eJ×List eJ×Unit)=>True;fn:=fun(x:List eJ×List eJ×Unit)=>(x.1==x.2.1,())
def afs(x:List eJ×List eJ×Unit):gh:=bN [(4,fun _=>fE x.1.length (tn x.1 x.2.1) 13 [0,1,12] [])]
def VP:bg where args:=[.list oC,.list oC];out:=.data [.bool];pre:=fun(x:List dH×List dH×Unit)=>True;fn:=fun(x:List dH×List dH×Unit)=>(x.1==x.2.1,())
def a196(x:List dH×List dH×Unit):gh:=bN [(4,fun _=>fE x.1.length (tn x.1 x.2.1) 13 [0,1,12] [])]
def VR:bg where args:=[BE,BE];out:=.data [.bool];pre:=fun(x:ni×ni×Unit)=>True;fn:=fun(x:ni×ni×Unit)=>(x.1==x.2.1,())
abbrev aex:Ty:=.lQ 193 .unit
abbrev aey:Ty:=.lQ 160 .unit
def B9:bg where args:=[.list BE,.list BE,aex];out:=.data [.bool];pre:=fun(x:List ni×List ni×Unit×Unit)=>True;fn:=fun(x:List ni×List ni×Unit×Unit)=>(x.1==x.2.1,())
def Ng(x:List ni×List ni×Unit×Unit):gh:=bN [(4,fun _=>fE x.1.length (tn x.1 x.2.1) 17 [0,1,2,15,16] [])]
def V0:bg where args:=[PlanT,PlanT];out:=.data [.bool];pre:=fun(x:ab×ab×Unit)=>True;fn:=fun(x:ab×ab×Unit)=>(x.1==x.2.1,())
def VZ:bg where args:=[n9,n9];out:=.data [.bool];pre:=fun(x:aM×aM×Unit)=>True;fn:=fun(x:aM×aM×Unit)=>(x.1==x.2.1,())
def Cb:bg where args:=[.list n9,.list n9,aey];out:=.data [.bool];pre:=fun(x:List aM×List aM×Unit×Unit)=>True;fn:=fun(x:List aM×List aM×Unit×Unit)=>(x.1==x.2.1,())
def Nh(x:List aM×List aM×Unit×Unit):gh:=bN [(4,fun _=>fE x.1.length (tn x.1 x.2.1) 17 [0,1,2,15,16] [])]
def c99:bg where args:=[sT,sT];out:=.data [.bool];pre:=fun(x:dG×dG×Unit)=>True;fn:=fun(x:dG×dG×Unit)=>(x.1==x.2.1,())
abbrev afz:fj:=.cells true (.pair (.a6 sT) (.pair (.row 319 ajq) (.pair acC (.pair Wc (.row 3 I)))))
abbrev Da:=dG×List nA×gx×zV×List Int
def aiO(p:ab):gx:=(max 0 (min (p.1.length:Int) 40),[],[],[],[])
def Wa(c:dG):Da:=(c,List.replicate c.2.length uw,aiO c.1,(some (ic c.1),[]),List.replicate c.1.2.2.1.length 0)
@[irreducible]def tG(c:dG):Int:=bif !((eg c.1).2==0)then(eg c.1).2 else bif c==(eg c.1).1 then 0 else 1
def Fl:iX where args:=[.a6 sT];outs:=[afz,.a6 I];pre:=fun(x:dG×Unit)=>dN x.1.1/\tG x.1=0;fn:=fun(x:dG×Unit)=>(Wa x.1,0,())
abbrev dT:Ty:=.pair I (.pair (.list bp) (.pair I (.pair I I)))
abbrev aw:=Int×List ar×Int×Int×Int
abbrev StockT:Ty:=.pair .str (.pair I (.pair I (.pair I I)))
abbrev aP:=oV×Int×Int×Int×Int
abbrev TrainT:Ty:=.pair .str (.pair I (.pair bp I))
abbrev bn:=oV×Int×ar×Int
abbrev NoteT:Ty:=.pair (.list I) (.pair (.list I) (.list dT))
abbrev bT:=List Int×List Int×List aw
def ln:aP:=([],0,0,0,0)
def iI:bn:=([],0,(0,0),0)
def fC:aw:=(0,[],0,0,0)
@[irreducible]def dc(s:aP):Bool:=jE s.1&&(mc 1 4000 s.2.1&&(mc 1 60 s.2.2.1&&(mc 1 10 s.2.2.2.1&&mc 1 10 s.2.2.2.2)))
@[irreducible]def ft(l:List aP):Int:=bif decide (l.length>4)then 3 else bif l.all dc then(bif gg (l.map fun s=>s.1)then 4 else 0)else 1
def oY(p:ab)(s:aP):Bool:=decide (s.2.2.1>p.2.2.2.2.1)||decide (s.2.2.2.2<p.2.2.2.2.2.1)
@[irreducible]def lj(p:ab)(l:List aP):Int:=bif ft l==0 then(bif l.any (oY p)then 9 else 0)else ft l
def dh(n lo hi:Int):Int:=max lo (min n hi)
@[irreducible]def pd(s:aP):Bool:=(s.2.2.1==dh s.2.2.1 1 60)&&((s.2.2.2.1==dh s.2.2.2.1 1 10)&&s.2.2.2.2==dh s.2.2.2.2 1 10)
@[irreducible]def uD(s:aP)(v want:Int)(forced:Bool):Int:=bif pd s then dh (dh v 0 s.2.2.1+(bif forced then-s.2.2.2.2 else dh want (-s.2.2.2.2) s.2.2.2.1)) 0 s.2.2.1 else 0
def bm(l:List ar):ar:=l.getD (l.length-1) zP
@[irreducible]def iP(b:aw):Bool:=b.2.2.1==0&&(b.2.2.2.1==0&&b.2.2.2.2==0)
@[irreducible]def tX(p:ab)(h:ar):Bool:=(aF p h).2&&ax p (aF p h).1.1==4
@[irreducible]def kK(p:ab)(b:aw):Bool:=decide (b.2.1.length=1)&&(ax p (b.2.1.getD 0 zP).1==4&&((b.2.1.getD 0 zP).2==0&&iP b))
@[irreducible]def mQ(p:ab)(h next:ar):Bool:=(aF p h).2&&((aF p h).1.1==next.1&&(ct p (aF p h).1.1 (aF p h).1.2).any fun w=>w.1==next.2)
def jl(p:ab)(l:List ar)(i:Nat):Bool:=!ez p (l.getD i zP)||((ax p (l.getD i zP).1==4&&(decide (0<i)||decide (i+1=l.length)))||(decide (0<i)&&!mQ p (l.getD (i-1) zP) (l.getD i zP)))
@[irreducible]def du(p:ab)(l:List ar):Bool:=!bV (jl p l) l.length&&decide (0<l.length)
@[irreducible]def p7(p:ab)(n:Int)(b:aw):Bool:=!(decide (b.2.2.1<0)||(decide (aR p (bm b.2.1).1<=b.2.2.1)||(decide (b.2.2.2.2<0)||(decide (60<b.2.2.2.2)||(decide (b.2.2.2.1<0)||decide (n<=b.2.2.2.1))))))&&(b.2.2.2.1==0||(b.2.2.1==0&&tX p (bm b.2.1)))
def gX(p:ab)(l:List ar)(k:Nat):Int:=((l.drop k).map fun h=>aR p h.1).sum
def uR(p:ab)(n:Int)(b:aw):Int:=n-b.2.2.2.1-gX p b.2.1 1+(bif decide (b.2.1.length=1)then 0 else b.2.2.1)
def tailOff(b:aw):Int:=bif decide (b.2.1.length=1)then b.2.2.1 else 0
@[irreducible]def k8(p:ab)(n:Int)(b:aw):Bool:=decide (1<=uR p n b)&&(ax p (b.2.1.getD 0 zP).1==4||decide (uR p n b<=aR p (b.2.1.getD 0 zP).1-tailOff b))
@[irreducible]def cm(p:ab)(n:Int)(b:aw):Bool:=bif decide (n<1)||decide (4000<n)then false else bif b.1==1 then kK p b else bif b.1==3 then(decide (b.2.1.length=0)&&iP b)else bif b.1==2 then(du p b.2.1&&(p7 p n b&&k8 p n b))else bif b.1==4 then(du p b.2.1&&(iP b&&k8 p n b))else false
@[irreducible]def fh(p:ab)(n:Int)(t:bn):aw×Int:=bif(decide (n<1)||decide (4000<n))||((!(ax p t.2.2.1.1==4)&&!(ax p t.2.2.1.1==1))||!ez p t.2.2.1)then(fC,1)else bif decide (cr p t.2.2.1<0)then(fC,7)else bif(ax p t.2.2.1.1==4&&!(t.2.2.2==0))||(ax p t.2.2.1.1==1&&(decide (t.2.2.2<0)||decide (aR p t.2.2.1.1<t.2.2.2)))then(fC,1)else bif ax p t.2.2.1.1==1&&decide (aR p t.2.2.1.1<t.2.2.2+n)then(fC,9)else((bif ax p t.2.2.1.1==4 then 1 else 2,[t.2.2.1],t.2.2.2,0,0),0)
def xi(p:ab)(l:List ar):List Int:=(l.filter fun h=>!(ax p h.1==4)).map fun h=>h.1
def lv:List Int->List Int|[]=>[]|x::l=>bif(lv l).head?==some x then lv l else x::lv l
@[irreducible]def cN(p:ab)(b:aw):List Int:=lv (sc (xi p b.2.1) (xi p b.2.1).length)
def fa(b:aw):ar×Bool:=bif decide (b.2.1.length=0)then((0,0),false)else(bm b.2.1,true)
def kr(pos:List Int)(e:Int):Int:=bif decide (e<(pos.length:Int))then pos.getD e.toNat 0 else 0
def hZ(p:ab)(pos:List Int)(b:aw)(m:Int):(aw×Int)×Bool:=bif decide (m<=b.2.2.1)then(((b.1,b.2.1,b.2.2.1-m,b.2.2.2),0),false)else bif !(aF p (bm b.2.1)).2 then(((b.1,b.2.1,0,b.2.2.2.1,0),m-b.2.2.1),false)else bif ax p (aF p (bm b.2.1)).1.1==4 then(((b.1,b.2.1,0,b.2.2.2.1+(m-b.2.2.1),b.2.2.2.2),m-b.2.2.1),false)else bif !(bP p (aF p (bm b.2.1)).1.1 (aF p (bm b.2.1)).1.2 (kr pos (aF p (bm b.2.1)).1.1)).2 then(((bif b.1==2 then 4 else b.1,b.2.1,0,b.2.2.2.1,0),m-b.2.2.1),false)else(((2,b.2.1++[((aF p (bm b.2.1)).1.1,(bP p (aF p (bm b.2.1)).1.1 (aF p (bm b.2.1)).1.2 (kr pos (aF p (bm b.2.1)).1.1)).1)],aR p (aF p (bm b.2.1)).1.1,b.2.2.2.1,b.2.2.2.2),m-b.2.2.1),true)
def goUp(p:ab)(pos:List Int):Nat->aw->Int->aw|0,b,_=>b|k+1,b,m=>bif decide (m<=0)then b else bif(hZ p pos b m).2 then goUp p pos k (hZ p pos b m).1.1 (hZ p pos b m).1.2 else(hZ p pos b m).1.1
def eC(b:aw)(m:Int):Nat:=2*m.toNat+(bif decide (b.2.2.1<=0)then 1 else 0)
@[irreducible]def ij(p:ab)(pos:List Int)(b:aw)(m:Int):aw:=goUp p pos (eC b m) b m
@[irreducible]def iz(p:ab)(b:aw):Int:=b.2.2.2.1-b.2.2.1+gX p b.2.1 1
def jQ(p:ab)(n:Int):Nat->aw->aw|0,b=>b|k+1,b=>bif decide (1<b.2.1.length)&&decide (n<=iz p b)then jQ p n k (b.1,b.2.1.tail,b.2.2)else b
@[irreducible]def lP(p:ab)(n:Int)(b:aw):aw:=jQ p n b.2.1.length b
def DG(b:aw)(v:Int):Bool:=(!(b.1==1)&&!(b.1==2))||decide (b.2.1.length=0)
@[irreducible]def sL(p:ab)(pos:List Int)(n:Int)(b:aw)(v:Int):aw:=bif DG b v then b else bif b.1==1&&dh v 0 60==0 then(b.1,b.2.1,b.2.2.1,b.2.2.2.1,0)else bif decide (n<=(ij p pos (b.1,b.2.1,b.2.2.1,b.2.2.2.1,dh v 0 60) (dh v 0 60)).2.2.2.1)then(3,[],0,0,0)else lP p n (ij p pos (b.1,b.2.1,b.2.2.1,b.2.2.2.1,dh v 0 60) (dh v 0 60))
@[irreducible]def eL(p:ab)(b:aw):Int×Bool:=bif !(b.1==2)||(!decide (b.2.1.length=1)||(!(b.2.2.2.1==0)||!(ax p (b.2.1.getD 0 zP).1==1)))then(0,false)else((b.2.1.getD 0 zP).1,true)
@[irreducible]def gI(p:ab)(n:Int)(b:aw):aw×Bool:=bif !(eL p b).2||!(b.2.2.2.2==0)then(fC,false)else bif decide (cr p ((eL p b).1,1-(b.2.1.getD 0 zP).2)<0)then(fC,false)else((2,[((eL p b).1,1-(b.2.1.getD 0 zP).2)],aR p (eL p b).1-b.2.2.1-n,0,0),true)
@[irreducible]def yu(a:Int):Bool:=a==1||a==2
@[irreducible]def rG(nY:List Int)(s:Int):Bool:=decide (s<0)||(decide ((nY.length:Int)<=s)||!yu (nY.getD s.toNat 0))
@[irreducible]def na(p:ab)(h:ar)(left:Int):Bool:=decide (0<=cr p h)&&(decide (0<=left)&&decide (left<=p.2.2.2.2.2.2.1))
@[irreducible]def m9(p:ab)(b:aw):Int:=bif !(fa b).2||(!(b.1==2)||(!(b.2.2.2.1==0)||!na p (fa b).1 b.2.2.1))then-1 else cr p (fa b).1
@[irreducible]def nc(p:ab)(nY:List Int)(b:aw)(first:Bool):Bool:=bif b.1==1 then(!first||rG nY (cr p (fa b).1))else(decide (0<=m9 p b)&&rG nY (m9 p b))
@[irreducible]def tE(p:ab)(pos nY:List Int)(s:aP)(b:aw)(want:Int)(first:Bool):aw:=sL p pos s.2.1 b (uD s b.2.2.2.2 want (nc p nY b first))
def nM(b:aw):Int×Bool:=((fa b).1.1,(fa b).2&&b.1==1)
def wH(l:List aw)(i:Nat):Bool:=!(nM (l.getD i fC)).2||!((l.take i).any fun x=>(nM x).2&&(nM x).1==(nM (l.getD i fC)).1)
@[irreducible]def fe(l:List aw):List Bool:=(List.range l.length).map (wH l)
def iR(a b:aw):Bool:=a==b
theorem Ml{p:ab}{x:ar}(h:ez p x=true):0<=x.1/\x.1<(p.1.length:Int):=by unfold ez at h;simp only[ae,ay]at h;exact⟨h.1,h.2.1⟩
theorem F6{p:ab}{e:Int}(h0:0<=e)(h1:e<(p.1.length:Int)):ax p e=(p.1.getD e.toNat zE).2.1/\aR p e=(p.1.getD e.toNat zE).2.2:=by unfold ax aR;rw[aC (by omega:¬e<0),aC (by omega:¬(p.1.length:Int)<=e)];exact⟨rfl,rfl⟩
theorem AU{p:ab}(hp:bK p=0){e:Int}(h0:0<=e)(h1:e<(p.1.length:Int)):(ax p e=4->aR p e=0)/\(ax p e≠4->1<=aR p e/\aR p e<=4000):=by have hA:=(jJ hp).2.1;unfold fArgs at hA;simp only[ae]at hA;(have hm:p.1.getD e.toNat zE∈p.1:=by rw[ai,ah (by omega)];exact bS _);have hE:=List.all_eq_true.1 hA.2.1 _ hm;unfold jh at hE;simp only[ae]at hE;obtain⟨k1,k2⟩:=F6 h0 h1;rw[k1,k2];have hE:=hE.2.2;refine⟨fun h=>?_,fun h=>?_⟩;rw[h]at hE;exact eq_of_beq hE;rw[dt h]at hE;unfold mc at hE;simp only[cond_false,ae,ay]at hE;exact hE
theorem pz(p:ab)(hp:bK p=0)(e:Int):0<=aR p e/\aR p e<=4000:=by by_cases h:0<=e/\e<(p.1.length:Int);have:=AU hp h.1 h.2;by_cases hk:ax p e=4;have:=this.1 hk;omega;have:=this.2 hk;omega;unfold aR;(have:(decide (e<0)||decide ((p.1.length:Int)<=e))=true:=by simp only[gy,ay];omega);rw[this];show(0:Int)<=0/\(0:Int)<=4000;decide
theorem wk{p:ab}(hp:bK p=0)(pos:List Int){b:aw}{m:Int}(hl:0<=b.2.2.1)(hm:0<m)(h:(hZ p pos b m).2=true):eC (hZ p pos b m).1.1 (hZ p pos b m).1.2<eC b m/\1<=(hZ p pos b m).1.1.2.2.1/\(hZ p pos b m).1.1.2.2.1<=4000/\0<(hZ p pos b m).1.2/\(hZ p pos b m).1.2<=m:=by unfold hZ at h⊢;by_cases h1:m<=b.2.2.1;rw[aJ h1]at h;cases h;rw[aC h1]at h⊢;cases h2:(aF p (bm b.2.1)).2 with|false=>rw[h2]at h;cases h|true=>rw[h2]at h;have hh:=vn (jJ hp).2.2.1 h2;obtain⟨q1,q2⟩:=Ml hh;cases h3:ax p (aF p (bm b.2.1)).1.1==4 with|true=>rw[h3]at h;cases h|false=>rw[h3]at h;(have hk:ax p (aF p (bm b.2.1)).1.1≠4:=fun e=>by rw[e]at h3;cases h3);have hlen:=(AU hp q1 q2).2 hk;cases h4:(bP p (aF p (bm b.2.1)).1.1 (aF p (bm b.2.1)).1.2 (kr pos (aF p (bm b.2.1)).1.1)).2 with|false=>rw[h4]at h;cases h|true=>show eC (_,_,aR p (aF p (bm b.2.1)).1.1,_,_) (m-b.2.2.1)<eC b m/\1<=aR p (aF p (bm b.2.1)).1.1/\aR p (aF p (bm b.2.1)).1.1<=4000/\0<m-b.2.2.1/\m-b.2.2.1<=m;refine⟨?_,hlen.1,hlen.2,by omega,by omega⟩;unfold eC;show 2*(m-b.2.2.1).toNat+(bif decide (aR p (aF p (bm b.2.1)).1.1<=0)then 1 else 0)<2*m.toNat+(bif decide (b.2.2.1<=0)then 1 else 0);rw[aC (by omega:¬aR p (aF p (bm b.2.1)).1.1<=0)];by_cases hz:b.2.2.1<=0;rw[aJ hz];show 2*(m-b.2.2.1).toNat+0<2*m.toNat+1;omega;rw[aC hz];show 2*(m-b.2.2.1).toNat+0<2*m.toNat+0;omega
theorem EY {p:ab} (hp:bK p=0) (pos:List Int):∀(k j:Nat) (b:aw) (m:Int),0<=b.2.2.1->eC b m<=k->eC b m<=j->goUp p pos k b m=goUp p pos j b m
 |0,0,_,_,_,_,_=>rfl
 |0,j+1,b,m,hl,hk,_=>by
  have:m<=0:=by unfold eC at hk;omega
  unfold goUp
  rw[aJ this]
  rfl
 |k+1,0,b,m,hl,_,hj=>by
  have:m<=0:=by unfold eC at hj;omega
  conv=>lhs;unfold goUp
  rw[aJ this]
  rfl
 |k+1,j+1,b,m,hl,hk,hj=>by
  unfold goUp
  by_cases hm:m<=0
  ·rw[aJ hm]
   rfl
  ·rw[aC hm]
   cases hg:(hZ p pos b m).2 with
   |false=>rfl
   |true=>
    obtain⟨g1,g2,_⟩:=wk hp pos hl (by omega) hg
    exact EY hp pos k j _ _ (by omega) (by omega) (by omega)
theorem PH{p:ab}(hp:bK p=0)(pos:List Int){b:aw}{m:Int}(hl:0<=b.2.2.1)(hm:0<m)(h:(hZ p pos b m).2=true):ij p pos b m=ij p pos (hZ p pos b m).1.1 (hZ p pos b m).1.2:=by obtain⟨g1,g2,_⟩:=wk hp pos hl hm h;unfold ij;obtain⟨k,hk⟩:∃k,eC b m=k+1:=⟨eC b m-1,by omega⟩;rw[hk];show(bif decide (m<=0)then b else bif(hZ p pos b m).2 then goUp p pos k (hZ p pos b m).1.1 (hZ p pos b m).1.2 else(hZ p pos b m).1.1)=_;rw[aC (by omega:¬m<=0),h];exact EY hp pos _ _ _ _ (by omega) (by omega) (aZ _)
theorem rP{p:ab}(pos:List Int){b:aw}{m:Int}(hm:0<m)(h:(hZ p pos b m).2=false):ij p pos b m=(hZ p pos b m).1.1:=by unfold ij;obtain⟨k,hk⟩:∃k,eC b m=k+1:=⟨eC b m-1,by unfold eC;omega⟩;rw[hk];show(bif decide (m<=0)then b else bif(hZ p pos b m).2 then goUp p pos k (hZ p pos b m).1.1 (hZ p pos b m).1.2 else(hZ p pos b m).1.1)=_;rw[aC (by omega:¬m<=0),h];rfl
theorem Dk(p:ab)(pos:List Int){b:aw}{m:Int}(hm:m<=0):ij p pos b m=b:=by unfold ij;cases eC b m with|zero=>rfl|succ k=>show(bif decide (m<=0)then b else _)=b;rw[aJ hm];rfl
theorem C5 (p:ab) (n:Int):∀(k j:Nat) (b:aw),b.2.1.length<=k+1->b.2.1.length<=j+1->jQ p n k b=jQ p n j b
 |0,0,_,_,_=>rfl
 |0,j+1,b,hk,_=>by
  unfold jQ
  rw[aC (by omega:¬1<b.2.1.length)]
  rfl
 |k+1,0,b,_,hj=>by
  conv=>lhs;unfold jQ
  rw[aC (by omega:¬1<b.2.1.length)]
  rfl
 |k+1,j+1,b,hk,hj=>by
  unfold jQ
  cases decide (1<b.2.1.length)&&decide (n<=iz p b) with
  |false=>rfl
  |true=>exact C5 p n k j _ (by show b.2.1.tail.length<=_;rw[eT];omega) (by show b.2.1.tail.length<=_;rw[eT];omega)
theorem aea{p:ab}{n:Int}{b:aw}(h1:1<b.2.1.length)(h2:n<=iz p b):lP p n b=lP p n (b.1,b.2.1.tail,b.2.2):=by unfold lP;obtain⟨k,hk⟩:∃k,b.2.1.length=k+1:=⟨b.2.1.length-1,by omega⟩;rw[hk];show(bif decide (1<b.2.1.length)&&decide (n<=iz p b)then jQ p n k (b.1,b.2.1.tail,b.2.2)else b)=_;rw[aJ h1,aJ h2];exact C5 p n _ _ _ (by show b.2.1.tail.length<=_;rw[eT];omega) (by show b.2.1.tail.length<=b.2.1.tail.length+1;omega)
theorem abC{p:ab}{n:Int}{b:aw}(h:¬(1<b.2.1.length/\n<=iz p b)):lP p n b=b:=by unfold lP;cases hk:b.2.1.length with|zero=>rfl|succ k=>show(bif decide (1<b.2.1.length)&&decide (n<=iz p b)then jQ p n k (b.1,b.2.1.tail,b.2.2)else b)=b;(have:(decide (1<b.2.1.length)&&decide (n<=iz p b))=false:=by rw[Bool.and_eq_false_iff,cc,cc];omega);rw[this];rfl
def qS(p:ab)(l:List ar):Prop:=∀h∈l.tail,1<=aR p h.1
structure jK (p:ab) (n:Int) (b:aw):Prop where
 mode:1<=b.1/\b.1<=4
 left:0<=b.2.2.1/\b.2.2.1<=4000
 sY:0<=b.2.2.2.1/\b.2.2.2.1<=4000
 v:0<=b.2.2.2.2/\b.2.2.2.2<=60
 there:b.1=1\/b.1=2->b.2.1≠[]
 inner:qS p b.2.1
 E7:b.2.1.length<=1\/iz p b<n
 fits:b.2.1≠[]->ax p (b.2.1.getD 0 zP).1=4\/n - iz p b<=aR p (b.2.1.getD 0 zP).1
theorem yY{p:ab}(hp:bK p=0):∀(l:List ar),0<=(l.map fun h=>aR p h.1).sum/\(l.map fun h=>aR p h.1).sum<=4000*(l.length:Int)|[]=>by show(0:Int)<=0/\(0:Int)<=0;decide|h::l=>by have ih:=yY hp l;have:=pz p hp h.1;simp only[List.map_cons,List.sum_cons,List.length_cons];omega
theorem IN{p:ab}:∀{l:List ar},(∀h∈l,1<=aR p h.1)->(l.length:Int)<=(l.map fun h=>aR p h.1).sum|[],_=>fu 0|h::l,hl=>by have ih:=IN (l:=l) fun x hx=>hl x (bk _ hx);have:=hl h bz;simp only[List.map_cons,List.sum_cons,List.length_cons];omega
theorem drop_one(l:List ar):l.drop 1=l.tail:=by cases l<;>rfl
theorem pX(p:ab)(b:aw):iz p b=b.2.2.2.1-b.2.2.1+(b.2.1.tail.map fun h=>aR p h.1).sum:=by unfold iz gX;rw[drop_one]
theorem jK.Sx{p:ab}{n:Int}{b:aw}(h:jK p n b)(hn:n<=4000):b.2.1.length<=8001:=by have h1:=h.E7;have h2:=IN h.inner;rw[pX,eT]at*;have:=h.left;have:=h.sY;omega
structure BB (p:ab) (m0:Int) (x0:ar) (fo:Int) (b:aw) (m:Int):Prop where
 mode:b.1=1\/b.1=2\/b.1=4
 left:0<=b.2.2.1/\b.2.2.1<=4000
 sY:0<=b.2.2.2.1/\b.2.2.2.1<=4000+(m0 - m)
 v:0<=b.2.2.2.2/\b.2.2.2.2<=60
 there:b.2.1≠[]
 inner:qS p b.2.1
 head:b.2.1.getD 0 zP=x0
 abj:fo<=iz p b
theorem TV{p:ab}{l:List ar}(h:qS p l){x:ar}(hx:1<=aR p x.1):qS p (l++[x]):=by intro y hy;cases l with|nil=>cases hy|cons z l=>rcases cG.1 hy with hy|hy;exact h y hy;rw[aL.1 hy];exact hx
theorem XQ{l:List ar}(h:l≠[])(x:ar):(l++[x]).getD 0 zP=l.getD 0 zP:=by cases l with|nil=>exact absurd rfl h|cons y l=>rfl
theorem XV{p:ab}{l:List ar}(h:l≠[]){m o v e i:Int}:iz p (m,l++[(e,i)],aR p e,o,v)=o+(l.tail.map fun h=>aR p h.1).sum:=by rw[pX];cases l with|nil=>exact absurd rfl h|cons y l=>show o-aR p e+((l++[(e,i)]).map fun h=>aR p h.1).sum=o+(l.map fun h=>aR p h.1).sum;rw[dW,List.sum_append];simp;omega
theorem QX{p:ab}(hp:bK p=0)(pos:List Int){b:aw}{m0:Int}{x0:ar}{fo m:Int}(h:BB p m0 x0 fo b m)(hm:0<m):((hZ p pos b m).2=true->BB p m0 x0 fo (hZ p pos b m).1.1 (hZ p pos b m).1.2)/\((hZ p pos b m).2=false->BB p m0 x0 fo (hZ p pos b m).1.1 0/\0<=(hZ p pos b m).1.2):=by have g:=wk hp pos (b:=b) (m:=m) h.left.1 hm;obtain⟨h1,h2,h3,h4,h5,h6,h7,h8⟩:=h;rw[pX]at h8;unfold hZ at g⊢;by_cases c1:m<=b.2.2.1;rw[aJ c1]at g⊢;exact⟨fun h=>(by cases h),fun _=>⟨⟨h1,⟨by show 0<=b.2.2.1-m;omega,by show b.2.2.1-m<=4000;omega⟩,⟨h3.1,by show b.2.2.2.1<=_;omega⟩,h4,h5,h6,h7,by rw[pX];show fo<=b.2.2.2.1-(b.2.2.1-m)+(b.2.1.tail.map fun h=>aR p h.1).sum;omega⟩,fu _⟩⟩;rw[aC c1]at g⊢;cases c2:(aF p (bm b.2.1)).2 with|false=>rw[c2]at g;exact⟨fun h=>(by cases h),fun _=>⟨⟨h1,⟨fu _,by show(0:Int)<=4000;decide⟩,⟨h3.1,by show b.2.2.2.1<=_;omega⟩,⟨fu _,by show(0:Int)<=60;decide⟩,h5,h6,h7,by rw[pX];show fo<=b.2.2.2.1-0+(b.2.1.tail.map fun h=>aR p h.1).sum;omega⟩,by show 0<=m-b.2.2.1;omega⟩⟩|true=>rw[c2]at g;cases c3:ax p (aF p (bm b.2.1)).1.1==4 with|true=>rw[c3]at g;exact⟨fun h=>(by cases h),fun _=>⟨⟨h1,⟨fu _,by show(0:Int)<=4000;decide⟩,⟨by show 0<=b.2.2.2.1+(m-b.2.2.1);omega,by show b.2.2.2.1+(m-b.2.2.1)<=_;omega⟩,h4,h5,h6,h7,by rw[pX];show fo<=b.2.2.2.1+(m-b.2.2.1)-0+(b.2.1.tail.map fun h=>aR p h.1).sum;omega⟩,by show 0<=m-b.2.2.1;omega⟩⟩|false=>rw[c3]at g;cases c4:(bP p (aF p (bm b.2.1)).1.1 (aF p (bm b.2.1)).1.2 (kr pos (aF p (bm b.2.1)).1.1)).2 with|false=>(refine⟨fun h=>(by cases h),fun _=>⟨⟨?_,⟨fu _,by show(0:Int)<=4000;decide⟩,⟨h3.1,by show b.2.2.2.1<=_;omega⟩,⟨fu _,by show(0:Int)<=60;decide⟩,h5,h6,h7,by rw[pX];show fo<=b.2.2.2.1-0+(b.2.1.tail.map fun h=>aR p h.1).sum;omega⟩,by show 0<=m-b.2.2.1;omega⟩⟩;show(bif b.1==2 then 4 else b.1)=1\/(bif b.1==2 then 4 else b.1)=2\/(bif b.1==2 then 4 else b.1)=4;cases hb:b.1==2 with|true=>exact .inr (.inr rfl)|false=>exact h1)|true=>rw[c4]at g;obtain⟨g1,g2,g3,g4,g5⟩:=g rfl;have g2:1<=aR p (aF p (bm b.2.1)).1.1:=g2;have g3:aR p (aF p (bm b.2.1)).1.1<=4000:=g3;refine⟨fun _=>⟨.inr (.inl rfl),⟨by show 0<=aR p (aF p (bm b.2.1)).1.1;omega,g3⟩,⟨h3.1,by show b.2.2.2.1<=4000+(m0-(m-b.2.2.1));omega⟩,h4,by simp,TV h6 g2,(XQ h5 _).trans h7,Int.le_trans (b:=b.2.2.2.1+(b.2.1.tail.map fun h=>aR p h.1).sum) (by omega) (Int.le_of_eq (XV h5).symm)⟩,fun h=>(by cases h)⟩
theorem Bb{p:ab}(hp:bK p=0)(pos:List Int){m0:Int}{x0:ar}{fo:Int}:∀(k:Nat){b:aw}{m:Int},BB p m0 x0 fo b m->0<=m->BB p m0 x0 fo (goUp p pos k b m) 0|0,b,m,h,hm=>⟨h.mode,h.left,⟨h.sY.1,by have:=h.sY.2;show b.2.2.2.1<=_;omega⟩,h.v,h.there,h.inner,h.head,h.abj⟩|k+1,b,m,h,hm=>by unfold goUp;by_cases c:m<=0;rw[aJ c];exact⟨h.mode,h.left,⟨h.sY.1,by have:=h.sY.2;show b.2.2.2.1<=_;omega⟩,h.v,h.there,h.inner,h.head,h.abj⟩;rw[aC c];obtain⟨q1,q2⟩:=QX hp pos h (by omega);cases hg:(hZ p pos b m).2 with|true=>exact Bb hp pos k (q1 hg) (Int.le_of_lt (wk hp pos h.left.1 (by omega) hg).2.2.2.1)|false=>exact(q2 hg).1
theorem Qq{p:ab}{l:List ar}(h:qS p l):qS p l.tail:=fun x hx=>h x (List.mem_of_mem_tail hx)
def Gl(p:ab)(n:Int)(b:aw):Prop:=ax p (b.2.1.getD 0 zP).1=4\/n-iz p b<=aR p (b.2.1.getD 0 zP).1
theorem Ku(p:ab)(n:Int):∀(k:Nat)(b:aw),b.2.1≠[]->qS p b.2.1->Gl p n b->b.2.1.length<=k+1->Gl p n (jQ p n k b)/\(jQ p n k b).1=b.1/\(jQ p n k b).2.2=b.2.2/\(jQ p n k b).2.1≠[]/\qS p (jQ p n k b).2.1/\((jQ p n k b).2.1.length<=1\/iz p (jQ p n k b)<n)|0,b,h1,h2,hf,h3=>⟨hf,rfl,rfl,h1,h2,.inl h3⟩|k+1,b,h1,h2,hf,h3=>by unfold jQ;by_cases c1:1<b.2.1.length;rw[aJ c1];by_cases c2:n<=iz p b;rw[aJ c2];(have Ct:Gl p n (b.1,b.2.1.tail,b.2.2):=by right;rw[pX]at c2⊢;cases hl:b.2.1 with|nil=>exact absurd hl h1|cons x l=>cases l with|nil=>rw[hl]at c1;exact absurd c1 (Nat.lt_irrefl 1)|cons y l=>rw[hl]at c2;simp only[List.tail_cons,List.map_cons,List.sum_cons]at c2;show n-(b.2.2.2.1-b.2.2.1+(l.map fun h=>aR p h.1).sum)<=aR p y.1;omega);obtain⟨q0,q1,q2,q3⟩:=Ku p n k (b.1,b.2.1.tail,b.2.2) (fun h=>by have:=bA List.length h;simp at this;omega) (Qq h2) Ct (by show b.2.1.tail.length<=_;rw[eT];omega);exact⟨q0,q1,q2,q3⟩;rw[aC c2];exact⟨hf,rfl,rfl,h1,h2,.inr (by show iz p b<n;omega)⟩;rw[aC c1];exact⟨hf,rfl,rfl,h1,h2,.inl (by show b.2.1.length<=1;omega)⟩
theorem Qx(v:Int):0<=dh v 0 60/\dh v 0 60<=60:=by unfold dh;omega
theorem Jw{p:ab}(hp:bK p=0)(pos:List Int){n:Int}(hn:1<=n/\n<=4000){b:aw}(h:jK p n b)(v:Int):jK p n (sL p pos n b v):=by unfold sL;cases c0:DG b v with|true=>exact h|false=>cases c1:b.1==1&&dh v 0 60==0 with|true=>show jK p n (b.1,b.2.1,b.2.2.1,b.2.2.2.1,0);exact⟨h.mode,h.left,h.sY,⟨fu _,by show(0:Int)<=60;decide⟩,h.there,h.inner,h.E7.imp_right fun hf=>by unfold iz at hf⊢;exact hf,fun nv=>(h.fits nv).imp_right fun hf=>by unfold iz at hf⊢;exact hf⟩|false=>have hv:=Qx v;(have hm:b.1=1\/b.1=2:=by unfold DG at c0;simp only[aG,Bool.and_eq_false_iff,bh,aU]at c0;exact c0.1);have hw:BB p (dh v 0 60) (b.2.1.getD 0 zP) (iz p b) (b.1,b.2.1,b.2.2.1,b.2.2.2.1,dh v 0 60) (dh v 0 60):=⟨by show b.1=1\/b.1=2\/b.1=4;omega,h.left,⟨h.sY.1,by show b.2.2.2.1<=_;have:=h.sY.2;omega⟩,hv,h.there hm,h.inner,rfl,by unfold iz;exact fu _⟩;have hr:=Bb hp pos (eC (b.1,b.2.1,b.2.2.1,b.2.2.2.1,dh v 0 60) (dh v 0 60)) hw hv.1;(have hr:BB p (dh v 0 60) (b.2.1.getD 0 zP) (iz p b) (ij p pos (b.1,b.2.1,b.2.2.1,b.2.2.2.1,dh v 0 60) (dh v 0 60)) 0:=by unfold ij;exact hr);show jK p n (bif decide (n<=(ij p pos (b.1,b.2.1,b.2.2.1,b.2.2.2.1,dh v 0 60) (dh v 0 60)).2.2.2.1)then(3,[],0,0,0)else lP p n (ij p pos (b.1,b.2.1,b.2.2.1,b.2.2.2.1,dh v 0 60) (dh v 0 60)));generalize ij p pos (b.1,b.2.1,b.2.2.1,b.2.2.2.1,dh v 0 60) (dh v 0 60)=r at hr;by_cases c2:n<=r.2.2.2.1;rw[aJ c2];show jK p n (3,[],0,0,0);refine⟨by decide,by decide,by decide,by decide,fun h=>?_,fun x hx=>(by cases hx),.inl (by decide),fun h=>absurd rfl h⟩;rcases h with h|h;cases h;cases h;rw[aC c2];(have xo:Gl p n r:=by unfold Gl;rw[hr.head];exact(h.fits (h.there hm)).imp_right fun hf=>by have:=hr.abj;omega);obtain⟨q0,q1,q2,q3,q4,q5⟩:=Ku p n r.2.1.length r hr.there hr.inner xo (Nat.le_succ _);show jK p n (lP p n r);unfold lP;have QC:=hr.mode;exact⟨by rw[q1];omega,by rw[q2];exact hr.left,by rw[q2];exact⟨hr.sY.1,by omega⟩,by rw[q2];exact hr.v,fun _=>q3,q4,q5,fun _=>q0⟩
theorem BS{p:ab}(hp:bK p=0){n:Int}{b:aw}(h:cm p n b=true):(1<=n/\n<=4000)/\jK p n b:=by unfold cm at h;cases c0:decide (n<1)||decide (4000<n)with|true=>rw[c0]at h;cases h|false=>rw[c0]at h;simp only[aG,cc]at c0;refine⟨⟨by omega,by omega⟩,?_⟩;(have rest:iP b=true->b.2.2.1=0/\b.2.2.2.1=0/\b.2.2.2.2=0:=fun h=>by unfold iP at h;simp only[ae,aU]at h;exact⟨h.1,h.2.1,h.2.2⟩);(have trl:du p b.2.1=true->b.2.1≠[]/\qS p b.2.1:=fun h=>by unfold du at h;simp only[ae,bO,ay]at h;refine⟨fun e=>by rw[e]at h;exact absurd h.2 (by decide),fun x hx=>?_⟩;obtain⟨i,hi,rfl⟩:=List.mem_iff_getElem.1 hx;rw[eT]at hi;have hb:=ep.1 h.1 (i+1) (by omega);rw[List.getElem_tail];unfold jl at hb;simp only[aG,bh]at hb;(have hg:b.2.1.getD (i+1) zP=b.2.1[i+1]:=by rw[ai,ah (by omega)];rfl);rw[hg]at hb;obtain⟨k1,k2⟩:=Ml hb.1;refine((AU hp k1 k2).2 fun e=>?_).1;have:=hb.2.1;rw[e]at this;simp at this);(have E7:b.2.1≠[]->k8 p n b=true->b.2.1.length<=1\/iz p b<n:=fun nv hl=>by by_cases c:b.2.1.length=1;exact .inl (by omega);right;unfold k8 at hl;simp only[ae,ay]at hl;have hl:=hl.1;unfold uR at hl;rw[aC c]at hl;unfold iz;have hl:1<=n-b.2.2.2.1-gX p b.2.1 1+b.2.2.1:=hl;omega);(have fit:k8 p n b=true->Gl p n b:=fun hl=>by unfold k8 at hl;simp only[ae,gy,ay,aU]at hl;refine hl.2.imp_right fun hf=>?_;unfold uR tailOff at hf;unfold iz;by_cases c:b.2.1.length=1;rw[aJ c]at hf;have hf:n-b.2.2.2.1-gX p b.2.1 1+0<=aR p (b.2.1.getD 0 zP).1-b.2.2.1:=hf;omega;rw[aC c]at hf;have hf:n-b.2.2.2.1-gX p b.2.1 1+b.2.2.1<=aR p (b.2.1.getD 0 zP).1-0:=hf;omega);cases c1:b.1==1 with|true=>rw[c1]at h;have h:kK p b=true:=h;unfold kK at h;simp only[ae,ay]at h;obtain⟨r1,r2,r3⟩:=rest h.2.2.2;have c1:=eq_of_beq c1;refine⟨by omega,by omega,by omega,by omega,fun _ e=>by rw[e]at h;exact absurd h.1 (by decide),fun x hx=>?_,.inl (by omega),fun _=>.inl (eq_of_beq h.2.1)⟩;have:b.2.1.tail=[]:=dj (by rw[eT];omega);rw[this]at hx;cases hx|false=>rw[c1]at h;cases c3:b.1==3 with|true=>rw[c3]at h;have h:(decide (b.2.1.length=0)&&iP b)=true:=h;simp only[ae,ay]at h;obtain⟨r1,r2,r3⟩:=rest h.2;have c3:=eq_of_beq c3;have ym:=dj h.1;refine⟨by omega,by omega,by omega,by omega,fun e=>by omega,fun x hx=>?_,.inl (by omega),fun nv=>absurd ym nv⟩;rw[ym]at hx;cases hx|false=>rw[c3]at h;cases c2:b.1==2 with|true=>rw[c2]at h;have h:(du p b.2.1&&(p7 p n b&&k8 p n b))=true:=h;simp only[ae]at h;have c2:=eq_of_beq c2;obtain⟨t1,t2⟩:=trl h.1;have hg:=h.2.1;unfold p7 at hg;simp only[ae,bO,aG,cc]at hg;have hl:=pz p hp (bm b.2.1).1;exact⟨by omega,by omega,by omega,by omega,fun _=>t1,t2,E7 t1 h.2.2,fun _=>fit h.2.2⟩|false=>rw[c2]at h;cases c4:b.1==4 with|true=>rw[c4]at h;have h:(du p b.2.1&&(iP b&&k8 p n b))=true:=h;simp only[ae]at h;have c4:=eq_of_beq c4;obtain⟨t1,t2⟩:=trl h.1;obtain⟨r1,r2,r3⟩:=rest h.2.1;exact⟨by omega,by omega,by omega,by omega,fun _=>t1,t2,E7 t1 h.2.2,fun _=>fit h.2.2⟩|false=>rw[c4]at h;cases h
theorem rr:∀(l:List Int)(x:Int),x∈lv l↔x∈l|[],_=>Iff.rfl|y::l,x=>by unfold lv;cases h:(lv l).head?==some y with|true=>have h:=eq_of_beq h;have hy:y∈lv l:=List.mem_of_mem_head? (by rw[h];rfl);rw[cond_true,rr l x,a7];refine⟨.inr,fun hx=>hx.elim (fun e=>?_) id⟩;rw[e];exact(rr l y).1 hy|false=>rw[cond_false,a7,a7,rr l x]
theorem L2:∀{l:List Int},l.Pairwise (·<=·)->(lv l).Pairwise (·<·)|[],_=>List.Pairwise.nil|y::l,h=>by obtain⟨h1,h2⟩:=List.pairwise_cons.1 h;have ih:=L2 h2;unfold lv;cases hb:(lv l).head?==some y with|true=>exact ih|false=>refine List.pairwise_cons.2 ⟨fun x hx=>?_,ih⟩;have hle:=h1 x ((rr l x).1 hx);cases ho:lv l with|nil=>rw[ho]at hx;cases hx|cons z r=>rw[ho]at hb hx ih;(have hz:z≠y:=fun e=>by rw[e]at hb;simp at hb);have hyz:=h1 z ((rr l z).1 (by rw[ho];exact bz));rcases a7.1 hx with rfl|hx;omega;have:=(List.pairwise_cons.1 ih).1 x hx;omega
theorem Qc:∀{l m:List Int},l.Pairwise (·<·)->m.Pairwise (·<·)->(∀x,x∈l↔x∈m)->l=m|[],[],_,_,_=>rfl|[],y::m,_,_,h=>by have:=(h y).2 bz;cases this|x::l,[],_,_,h=>by have:=(h x).1 bz;cases this|x::l,y::m,h1,h2,h=>by obtain⟨a1,a2⟩:=List.pairwise_cons.1 h1;obtain⟨b1,b2⟩:=List.pairwise_cons.1 h2;(have e:x=y:=by rcases a7.1 ((h x).1 bz)with e|hx;exact e;rcases a7.1 ((h y).2 bz)with e|hy;exact e.symm;have:=a1 y hy;have:=b1 x hx;omega);subst e;rw[Qc a2 b2 fun z=>?_];refine⟨fun hz=>?_,fun hz=>?_⟩;rcases a7.1 ((h z).1 (bk _ hz))with rfl|hm;have:=a1 z hz;omega;exact hm;rcases a7.1 ((h z).2 (bk _ hz))with rfl|hm;have:=b1 z hz;omega;exact hm
theorem SC(l:List Int):(sc l l.length).Pairwise (·<=·):=by have hl:=tg l l.length;refine List.pairwise_iff_getElem.2 fun i j hi hj od=>?_;have:=xH l l.length (aZ _) i j od (by omega);rw[ai,ai,ah hi,ah hj]at this;exact this
theorem vr(p:ab)(b:aw)(e:Int):e∈cN p b↔∃h∈b.2.1,h.1=e/\ax p e≠4:=by unfold cN;rw[rr,(wY (xi p b.2.1) _ (aZ _)).mem_iff];unfold xi;simp only[List.mem_map,List.mem_filter,bO,cn];exact⟨fun⟨h,h1,h2⟩=>⟨h,h1.1,h2,h2▸h1.2⟩,fun⟨h,h1,h2,h3⟩=>⟨h,⟨h1,h2.symm▸h3⟩,h2⟩⟩
theorem aaf(p:ab)(b:aw):(cN p b).Pairwise (·<·):=by unfold cN;exact L2 (SC _)
theorem FV:∀(l:List Int),(lv l).length<=l.length|[]=>aZ _|x::l=>by have ih:=FV l;unfold lv;cases(lv l).head?==some x with|true=>exact Nat.le_succ_of_le ih|false=>exact Nat.succ_le_succ ih
theorem yj(p:ab)(b:aw):(cN p b).length<=b.2.1.length:=by unfold cN;refine c6 (FV _) ?_;rw[tg];unfold xi;rw[cS];exact List.length_filter_le _ _
def marked(l:List Bool)(k:Nat):List Int:=((List.range k).filter fun i=>l.getD i false).map fun(i:Nat)=>(i:Int)
theorem P8(l:List Bool)(k:Nat)(e:Int):e∈marked l k↔0<=e/\e<(k:Int)/\l.getD e.toNat false=true:=by unfold marked;simp only[List.mem_map,List.mem_filter,List.mem_range];refine⟨fun⟨i,⟨h1,h2⟩,h3⟩=>?_,fun⟨h1,h2,h3⟩=>⟨e.toNat,⟨by omega,h3⟩,by omega⟩⟩;subst h3;exact⟨by omega,by omega,h2⟩
theorem TG(l:List Bool)(k:Nat):(marked l k).Pairwise (·<·):=by unfold marked;refine List.Pairwise.map _ (fun a b(h:a<b)=>by omega) (List.Pairwise.filter _ List.pairwise_lt_range)
def kj(l:List ar):Prop:=l.length<=1000000
def M4:bg where args:=[I,I,I];out:=.data [I];pre:=fun(x:Int×Int×Int×Unit)=>True;fn:=fun(x:Int×Int×Int×Unit)=>(dh x.1 x.2.1 x.2.2.1,())
def V6:bg where args:=[StockT];out:=.data [.bool];pre:=fun(x:aP×Unit)=>True;fn:=fun(x:aP×Unit)=>(pd x.1,())
def c58:bg where args:=[StockT,I,I,.bool];out:=.data [I];pre:=fun(x:aP×Int×Int×Bool×Unit)=>True;fn:=fun(x:aP×Int×Int×Bool×Unit)=>(uD x.1 x.2.1 x.2.2.1 x.2.2.2.1,())
def VO:bg where args:=[I,I];out:=.data [.bool];pre:=fun(x:Int×Int×Unit)=>True;fn:=fun(x:Int×Int×Unit)=>(mc 1 x.2.1 x.1,())
def Ru:bg where args:=[StockT];out:=.data [.bool];pre:=fun(x:aP×Unit)=>True;fn:=fun(x:aP×Unit)=>(dc x.1,())
def RL:bg where args:=[.list StockT];out:=.data [I];pre:=fun(x:List aP×Unit)=>True;fn:=fun(x:List aP×Unit)=>(ft x.1,())
def Rn:bg where args:=[PlanT,.list StockT];out:=.data [I];pre:=fun(x:ab×List aP×Unit)=>True;fn:=fun(x:ab×List aP×Unit)=>(lj x.1 x.2.1,())
def VW:bg where args:=[I];out:=.data [.bool];pre:=fun(x:Int×Unit)=>True;fn:=fun(x:Int×Unit)=>(yu x.1,())
def VV:bg where args:=[.ref gF,bp,I];out:=.data [.bool];pre:=fun(x:aS×ar×Int×Unit)=>dk x.1;fn:=fun(x:aS×ar×Int×Unit)=>(na x.1.1 x.2.1 x.2.2.1,())
def Hv:bg where args:=[.ref gF,bp];out:=.data [.bool];pre:=fun(x:aS×ar×Unit)=>dk x.1;fn:=fun(x:aS×ar×Unit)=>(ez x.1.1 x.2.1,())
def Rp:bg where args:=[.ref gF,bp];out:=.data [.bool];pre:=fun(x:aS×ar×Unit)=>dk x.1;fn:=fun(x:aS×ar×Unit)=>(tX x.1.1 x.2.1,())
def KD:bg where args:=[dT];out:=.data [.bool];pre:=fun(x:aw×Unit)=>True;fn:=fun(x:aw×Unit)=>(iP x.1,())
def Rv:bg where args:=[.ref gF,dT];out:=.data [.bool];pre:=fun(x:aS×aw×Unit)=>dk x.1;fn:=fun(x:aS×aw×Unit)=>(kK x.1.1 x.2.1,())
def c93:bg where args:=[.ref gF,I,dT];out:=.data [.bool];pre:=fun(x:aS×Int×aw×Unit)=>dk x.1/\kj x.2.2.1.2.1;fn:=fun(x:aS×Int×aw×Unit)=>(cm x.1.1 x.2.1 x.2.2.1,())
def Rq:bg where args:=[.ref gF,bp,bp];out:=.data [.bool];pre:=fun(x:aS×ar×ar×Unit)=>dk x.1;fn:=fun(x:aS×ar×ar×Unit)=>(mQ x.1.1 x.2.1 x.2.2.1,())
def MP:bg where args:=[.ref gF,dT];out:=.data [.bool];pre:=fun(x:aS×aw×Unit)=>dk x.1;fn:=fun(x:aS×aw×Unit)=>(du x.1.1 x.2.1.2.1,())
def MO:bg where args:=[.ref gF,I,dT];out:=.data [.bool];pre:=fun(x:aS×Int×aw×Unit)=>dk x.1/\0<x.2.2.1.2.1.length;fn:=fun(x:aS×Int×aw×Unit)=>(p7 x.1.1 x.2.1 x.2.2.1,())
def vX(n:Int)(b:aw):Prop:=0<b.2.1.length/\kj b.2.1/\(1<=n/\n<=4000)/\(0<=b.2.2.1/\b.2.2.1<=4000)/\(0<=b.2.2.2.1/\b.2.2.2.1<=4000)
def MN:bg where args:=[.ref gF,I,dT];out:=.data [.bool];pre:=fun(x:aS×Int×aw×Unit)=>dk x.1/\vX x.2.1 x.2.2.1;fn:=fun(x:aS×Int×aw×Unit)=>(k8 x.1.1 x.2.1 x.2.2.1,())
def abW:bg where args:=[.ref gF,I,TrainT];out:=.data [dT,I];pre:=fun(x:aS×Int×bn×Unit)=>dk x.1;fn:=fun(x:aS×Int×bn×Unit)=>((fh x.1.1 x.2.1 x.2.2.1).1,(fh x.1.1 x.2.1 x.2.2.1).2,())
def aof:bg where args:=[.ref gF,dT];out:=.fresh [.list I];pre:=fun(x:aS×aw×Unit)=>dk x.1/\kj x.2.1.2.1;fn:=fun(x:aS×aw×Unit)=>(cN x.1.1 x.2.1,())
def Hy:bg where args:=[dT];out:=.data [bp,.bool];pre:=fun(x:aw×Unit)=>True;fn:=fun(x:aw×Unit)=>((fa x.1).1,(fa x.1).2,())
def c24:bg where args:=[.ref gF,.list I,I,dT,I];out:=.data [dT];pre:=fun(x:aS×List Int×Int×aw×Int×Unit)=>dk x.1/\(1<=x.2.2.1/\x.2.2.1<=4000)/\jK x.1.1 x.2.2.1 x.2.2.2.1;fn:=fun(x:aS×List Int×Int×aw×Int×Unit)=>(sL x.1.1 x.2.1 x.2.2.1 x.2.2.2.1 x.2.2.2.2.1,())
def Yw:bg where args:=[.ref gF,dT];out:=.data [I,.bool];pre:=fun(x:aS×aw×Unit)=>dk x.1;fn:=fun(x:aS×aw×Unit)=>((eL x.1.1 x.2.1).1,(eL x.1.1 x.2.1).2,())
def YF:bg where args:=[.ref gF,I,dT];out:=.data [dT,.bool];pre:=fun(x:aS×Int×aw×Unit)=>dk x.1/\(1<=x.2.1/\x.2.1<=4000)/\jK x.1.1 x.2.1 x.2.2.1;fn:=fun(x:aS×Int×aw×Unit)=>((gI x.1.1 x.2.1 x.2.2.1).1,(gI x.1.1 x.2.1 x.2.2.1).2,())
def Ro:bg where args:=[dT,dT];out:=.data [.bool];pre:=fun(x:aw×aw×Unit)=>True;fn:=fun(x:aw×aw×Unit)=>(iR x.1 x.2.1,())
def V5:bg where args:=[.list I,I];out:=.data [.bool];pre:=fun(x:List Int×Int×Unit)=>True;fn:=fun(x:List Int×Int×Unit)=>(rG x.1 x.2.1,())
def V4:bg where args:=[.ref gF,dT];out:=.data [I];pre:=fun(x:aS×aw×Unit)=>dk x.1;fn:=fun(x:aS×aw×Unit)=>(m9 x.1.1 x.2.1,())
def c59:bg where args:=[.ref gF,.list I,dT,.bool];out:=.data [.bool];pre:=fun(x:aS×List Int×aw×Bool×Unit)=>dk x.1;fn:=fun(x:aS×List Int×aw×Bool×Unit)=>(nc x.1.1 x.2.1 x.2.2.1 x.2.2.2.1,())
def c22:bg where args:=[.ref gF,.list I,.list I,StockT,dT,I,.bool];out:=.data [dT];pre:=fun(x:aS×List Int×List Int×aP×aw×Int×Bool×Unit)=>dk x.1/\(1<=x.2.2.2.1.2.1/\x.2.2.2.1.2.1<=4000)/\jK x.1.1 x.2.2.2.1.2.1 x.2.2.2.2.1;fn:=fun(x:aS×List Int×List Int×aP×aw×Int×Bool×Unit)=>(tE x.1.1 x.2.1 x.2.2.1 x.2.2.2.1 x.2.2.2.2.1 x.2.2.2.2.2.1 x.2.2.2.2.2.2.1,())
def Uz:bg where args:=[dT];out:=.data [I,.bool];pre:=fun(x:aw×Unit)=>True;fn:=fun(x:aw×Unit)=>((nM x.1).1,(nM x.1).2,())
def UB:bg where args:=[.list dT];out:=.fresh [.list .bool];pre:=fun(x:List aw×Unit)=>x.1.length<=1000;fn:=fun(x:List aw×Unit)=>(fe x.1,())
def yr(l:List aw):Prop:=l.length<=1000/\∀b∈l,kj b.2.1
def Bl{α:Type}(a b:List α)(same:Bool)(ne:Nat->Bool)(R:Prop)(W:Prop->Prop):Prop:=(((a.length:Int)!=(b.length:Int))=true->false=same/\True)/\(((a.length:Int)!=(b.length:Int))=false->(∃s0:Nat,(s0<=a.length/\tn a b s0)/\(s0:Int)=(0:Int)/\R)/\∀s:Nat,s<=a.length/\tn a b s->(decide ((s:Int)<(a.length:Int))=true->bD (s:Int) a.length/\bD (s:Int) b.length/\W ((ne s=true->false=same/\True)/\(ne s=false->bH IntKind.i64 ((s:Int)+(1:Int))/\∃t:Nat,(t<=a.length/\tn a b t)/\a.length-t<a.length-s/\(t:Int)=(s:Int)+(1:Int)/\R)))/\(decide ((s:Int)<(a.length:Int))=false->true=same/\True))
theorem qW{α:Type}[BEq α][LawfulBEq α]{a b:List α}{ne:Nat->Bool}{R:Prop}{W:Prop->Prop}(d:α)(hw:a.length<=bI)(hR:R)(hW:∀X,X->W X)(h:∀s,ne s=!(a.getD s d==b.getD s d)):Bl a b (a==b) ne R W:=by refine⟨fun h=>⟨adb rfl h,trivial⟩,fun hl=>?_⟩;have hl:=X2 rfl hl;refine⟨⟨0,⟨by omega,hl,rfl⟩,rfl,hR⟩,fun s=>?_⟩;rintro⟨h1,h2,h3⟩;refine⟨fun hs=>?_,fun hs=>⟨SG hl h3 (eH rfl hs),trivial⟩⟩;have hs:=di rfl hs;refine⟨⟨by omega,by omega⟩,⟨by omega,by omega⟩,hW _ ⟨fun e=>⟨?_,trivial⟩,fun e=>⟨fY hs hw,s+1,⟨by omega,hl,?_⟩,by omega,by omega,hR⟩⟩⟩;all_goals grind[SF]
theorem aoh{α β:Type}[BEq α][BEq β](x y:α×β):(x==y)=(x.1==y.1&&x.2==y.2):=rfl
theorem akc(a b:List oE):aq (av aQ []) Tryz.f189 VU (afv (a,b,())) (a,b,())=Bl a b (a==b) (fun s=>!((a.getD (s:Int).toNat zE).1==(b.getD (s:Int).toNat zE).1&&((a.getD (s:Int).toNat zE).2.1==(b.getD (s:Int).toNat zE).2.1&&((a.getD (s:Int).toNat zE).2.2==(b.getD (s:Int).toNat zE).2.2&&true)))) (a=a/\b=b/\(a.length:Int)=(a.length:Int)/\True) fun X=>X:=by kernel_rfl
theorem agf:aN Tryz.prog 189 VU:=aN.cB (l:=[]) (A:=afv) aO trivial Tryz.func189 (by rfl) (by rfl) fun x hw _=>by obtain⟨a,b,⟨⟩⟩:=x;rw[akc];exact qW zE hw.1.1 ⟨rfl,rfl,rfl,trivial⟩ (fun _ h=>h) fun s=>by grind
theorem akb(a b:List oD):aq (av aQ []) Tryz.f190 VT (afu (a,b,())) (a,b,())=Bl a b (a==b) (fun s=>!((a.getD (s:Int).toNat zJ).1.1==(b.getD (s:Int).toNat zJ).1.1&&((a.getD (s:Int).toNat zJ).1.2==(b.getD (s:Int).toNat zJ).1.2&&true)&&((a.getD (s:Int).toNat zJ).2.1==(b.getD (s:Int).toNat zJ).2.1&&((a.getD (s:Int).toNat zJ).2.2==(b.getD (s:Int).toNat zJ).2.2&&true)&&true))) (a=a/\b=b/\(a.length:Int)=(a.length:Int)/\True) fun X=>X:=by kernel_rfl
theorem age:aN Tryz.prog 190 VT:=aN.cB (l:=[]) (A:=afu) aO trivial Tryz.func190 (by rfl) (by rfl) fun x hw _=>by obtain⟨a,b,⟨⟩⟩:=x;rw[akb];exact qW zJ hw.1.1 ⟨rfl,rfl,rfl,trivial⟩ (fun _ h=>h) fun s=>by grind
theorem aka(a b:List jB):aq (av aQ []) Tryz.f191 VS (aft (a,b,())) (a,b,())=Bl a b (a==b) (fun s=>!((a.getD (s:Int).toNat zS).1==(b.getD (s:Int).toNat zS).1&&((a.getD (s:Int).toNat zS).2.1.1==(b.getD (s:Int).toNat zS).2.1.1&&((a.getD (s:Int).toNat zS).2.1.2==(b.getD (s:Int).toNat zS).2.1.2&&true)&&((a.getD (s:Int).toNat zS).2.2==(b.getD (s:Int).toNat zS).2.2&&true)))) (a=a/\b=b/\(a.length:Int)=(a.length:Int)/\True) fun X=>X:=by kernel_rfl
theorem agd:aN Tryz.prog 191 VS:=aN.cB (l:=[]) (A:=aft) aO trivial Tryz.func191 (by rfl) (by rfl) fun x hw _=>by obtain⟨a,b,⟨⟩⟩:=x;rw[aka];exact qW zS hw.1.1 ⟨rfl,rfl,rfl,trivial⟩ (fun _ h=>h) fun s=>by grind
theorem v194(a b:List Int):aq (av aQ []) Tryz.f194 MB (a194 (a,b,())) (a,b,())=Bl a b (a==b) (fun s=>a.getD (s:Int).toNat 0!=b.getD (s:Int).toNat 0) (a=a/\b=b/\(a.length:Int)=(a.length:Int)/\True) fun X=>X:=by kernel_rfl
theorem ZQ:aN Tryz.prog 194 MB:=aN.cB (l:=[]) (A:=a194) aO trivial Tryz.func194 (by rfl) (by rfl) fun x hw _=>by obtain⟨a,b,⟨⟩⟩:=x;rw[v194];exact qW 0 hw.1.1 ⟨rfl,rfl,rfl,trivial⟩ (fun _ h=>h) fun s=>by rfl
theorem aj9(a b:List eJ):aq (av aQ []) Tryz.f195 VQ (afs (a,b,())) (a,b,())=Bl a b (a==b) (fun s=>!((a.getD (s:Int).toNat rm).1==(b.getD (s:Int).toNat rm).1&&((a.getD (s:Int).toNat rm).2.1==(b.getD (s:Int).toNat rm).2.1&&((a.getD (s:Int).toNat rm).2.2==(b.getD (s:Int).toNat rm).2.2&&true)))) (a=a/\b=b/\(a.length:Int)=(a.length:Int)/\True) fun X=>X:=by kernel_rfl
theorem agb:aN Tryz.prog 195 VQ:=aN.cB (l:=[]) (A:=afs) aO trivial Tryz.func195 (by rfl) (by rfl) fun x hw _=>by obtain⟨a,b,⟨⟩⟩:=x;rw[aj9];exact qW rm hw.1.1 ⟨rfl,rfl,rfl,trivial⟩ (fun _ h=>h) fun s=>by grind
theorem v196(a b:List dH):aq (av aQ []) Tryz.f196 VP (a196 (a,b,())) (a,b,())=Bl a b (a==b) (fun s=>!((a.getD (s:Int).toNat (0,0)).1==(b.getD (s:Int).toNat (0,0)).1&&((a.getD (s:Int).toNat (0,0)).2==(b.getD (s:Int).toNat (0,0)).2&&true))) (a=a/\b=b/\(a.length:Int)=(a.length:Int)/\True) fun X=>X:=by kernel_rfl
theorem aga:aN Tryz.prog 196 VP:=aN.cB (l:=[]) (A:=a196) aO trivial Tryz.func196 (by rfl) (by rfl) fun x hw _=>by obtain⟨a,b,⟨⟩⟩:=x;rw[v196];exact qW (0,0) hw.1.1 ⟨rfl,rfl,rfl,trivial⟩ (fun _ h=>h) fun s=>by grind
theorem v193(a b:ni):aq (av aQ [(194,MB)]) Tryz.f193 VR az (a,b,())=(((a.1==b.1)=true->True)/\(bif a.1==b.1 then a.2==b.2 else false)=(a==b)/\True):=by kernel_rfl
theorem agc:aN Tryz.prog 193 VR:=aN.cB (l:=[(194,MB)]) (A:=fun _=>az) aO ⟨ZQ,trivial⟩ Tryz.func193 (by rfl) (by rfl) fun x hw _=>by obtain⟨a,b,⟨⟩⟩:=x;rw[v193,Bool.cond_false_right];grind
theorem Ww(a b:List ni)(f:Unit):aq (av aQ [(193,VR)]) Tryz.f192 B9 (Ng (a,b,f,())) (a,b,f,())=Bl a b (a==b) (fun s=>!(a.getD (s:Int).toNat zL==b.getD (s:Int).toNat zL)) (a=a/\b=b/\f=f/\a=a/\(a.length:Int)=(a.length:Int)/\True) fun X=>True/\X:=by kernel_rfl
theorem S7:aN Tryz.prog 192 B9:=aN.cB (l:=[(193,VR)]) (A:=Ng) aO ⟨agc,trivial⟩ Tryz.func192 (by rfl) (by rfl) fun x hw _=>by obtain⟨a,b,f,⟨⟩⟩:=x;rw[Ww];exact qW zL hw.1.1 ⟨rfl,rfl,rfl,rfl,rfl,trivial⟩ (fun _ h=>⟨trivial,h⟩) fun s=>by rfl
theorem aku(a b:ab):aq (av aQ [(189,VU),(190,VT),(191,VS),(1940192,B9)] [] [(193,.unit)]) Tryz.f158 V0 az (a,b,())=( U (bif a.1==b.1 then a.2.1==b.2.1 else false) fun y2=>U (bif y2 then a.2.2.1==b.2.2.1 else false) fun y3=>True/\((a.1==b.1)=true->True)/\(y2=true->True)/\(y3=true->True)/\(bif bif bif bif bif bif y3 then a.2.2.2.1==b.2.2.2.1 else false then a.2.2.2.2.1==b.2.2.2.2.1 else false then a.2.2.2.2.2.1==b.2.2.2.2.2.1 else false then a.2.2.2.2.2.2.1==b.2.2.2.2.2.2.1 else false then a.2.2.2.2.2.2.2.1==b.2.2.2.2.2.2.2.1 else false then a.2.2.2.2.2.2.2.2==b.2.2.2.2.2.2.2.2 else false)=(a==b)/\True):=by kernel_rfl
theorem agD:aN Tryz.prog 158 V0:=aN.cB (l:=[(189,VU),(190,VT),(191,VS),(1940192,B9)]) (clos:=[(193,.unit)]) (A:=fun _=>az) aO ⟨agf,age,agd,S7,trivial⟩ Tryz.func158 (by rfl) (by rfl) fun x hw _=>by obtain⟨a,b,⟨⟩⟩:=x;rw[aku];simp[U.mk,aoh,Bool.and_assoc]
theorem v160(a b:aM):aq (av aQ [(195,VQ),(196,VP),(194,MB)]) Tryz.f160 VZ az (a,b,())=( U (bif bif a.1==b.1 then a.2.1==b.2.1 else false then a.2.2.1==b.2.2.1 else false) fun y2=>U (bif y2 then a.2.2.2.1==b.2.2.2.1 else false) fun y3=>U (bif y3 then a.2.2.2.2.1==b.2.2.2.2.1 else false) fun y4=>U (bif y4 then a.2.2.2.2.2.1==b.2.2.2.2.2.1 else false) fun y5=>U (bif y5 then a.2.2.2.2.2.2.1==b.2.2.2.2.2.2.1 else false) fun y6=>(y2=true->True)/\(y3=true->True)/\(y4=true->True)/\(y5=true->True)/\(y6=true->True)/\(bif bif y6 then a.2.2.2.2.2.2.2.1==b.2.2.2.2.2.2.2.1 else false then a.2.2.2.2.2.2.2.2==b.2.2.2.2.2.2.2.2 else false)=(a==b)/\True):=by kernel_rfl
theorem agB:aN Tryz.prog 160 VZ:=aN.cB (l:=[(195,VQ),(196,VP),(194,MB)]) (A:=fun _=>az) aO ⟨agb,aga,ZQ,trivial⟩ Tryz.func160 (by rfl) (by rfl) fun x hw _=>by obtain⟨a,b,⟨⟩⟩:=x;rw[v160];refine U.mk fun y2 e2=>U.mk fun y3 e3=>U.mk fun y4 e4=>U.mk fun y5 e5=>U.mk fun y6 e6=>⟨fun _=>trivial,fun _=>trivial,fun _=>trivial,fun _=>trivial,fun _=>trivial,?_,trivial⟩;grind
theorem Wz(a b:List aM)(f:Unit):aq (av aQ [(160,VZ)]) Tryz.f159 Cb (Nh (a,b,f,())) (a,b,f,())=Bl a b (a==b) (fun s=>!(a.getD (s:Int).toNat zR==b.getD (s:Int).toNat zR)) (a=a/\b=b/\f=f/\a=a/\(a.length:Int)=(a.length:Int)/\True) fun X=>True/\X:=by kernel_rfl
theorem Tb:aN Tryz.prog 159 Cb:=aN.cB (l:=[(160,VZ)]) (A:=Nh) aO ⟨agB,trivial⟩ Tryz.func159 (by rfl) (by rfl) fun x hw _=>by obtain⟨a,b,f,⟨⟩⟩:=x;rw[Wz];exact qW zR hw.1.1 ⟨rfl,rfl,rfl,rfl,rfl,trivial⟩ (fun _ h=>⟨trivial,h⟩) fun s=>by rfl
theorem v99(a b:dG):aq (av aQ [(158,V0),(1610159,Cb)] [] [(160,.unit)]) Tryz.f99 c99 az (a,b,())=( True/\((a.1==b.1)=true->True)/\(bif a.1==b.1 then a.2==b.2 else false)=(a==b)/\True):=by kernel_rfl
theorem alg:aN Tryz.prog 99 c99:=aN.cB (l:=[(158,V0),(1610159,Cb)]) (clos:=[(160,.unit)]) (A:=fun _=>az) aO ⟨agD,Tb,trivial⟩ Tryz.func99 (by rfl) (by rfl) fun x hw _=>by obtain⟨a,b,⟨⟩⟩:=x;rw[v99,Bool.cond_false_right];exact⟨trivial,fun _=>trivial,rfl,trivial⟩
abbrev acq:=List Bool×Bool×Bool×Bool×Bool×Bool×Bool
def ab2(l:nA)(v:acq):Prop:=l.1<0\/l.1>3\/v.1.length=0\/l.2.2.2.length≠v.1.length\/l.2.1<0\/l.2.1>=v.1.length
instance(l:nA)(v:acq):Decidable (ab2 l v):=by unfold ab2;infer_instance
theorem BY{α:Type}(l:List α)(i j:Nat)(x d:α)(h:j<l.length):(l.set i x).getD j d=if i=j then x else l.getD j d:=by grind
structure apc (p:ab) (r:aM) (s:bc):Prop where
 still:still p r s
 each:∀e∈fP s,(0<=e/\e<(p.1.length:Int))/\uM r e=false
 nodup:(fP s).Nodup
 len:(fP s).length<=12
structure YQ (p:ab) (r:aM):Prop where
 sig:0<=r.1/\r.1<(p.2.2.1.length:Int)
 len:1<=r.2.2.2.1.length/\r.2.2.2.1.length<=12
 steps:∀s∈r.2.2.2.1,0<=s.1/\s.1<(p.1.length:Int)
 once:(pE r).Nodup
 Au:∀e∈r.2.2.2.2.2.2.1,(0<=e/\e<(p.1.length:Int))/\dx (pE r) e=false
 ao5:r.2.2.2.2.2.2.1.Nodup
 ajL:r.2.2.2.2.2.2.1.length<=12
 Z6:acv p (rH r)
 small:r.2.2.2.2.1.length<=1000/\r.2.2.2.2.2.1.length<=1000
 amc:∀n∈r.2.2.2.2.1,dx (pE r) n.1=true
 ajF:∀n∈r.2.2.2.2.2.1,dx (pE r) n.1=false
abbrev wI:=List Int×List Int×List dH×List dH
def ak7(uE:Int->Option wI)(o:Int)(v:Option wI)(k:Int):Option wI:=if k=o then v else uE k
structure Wm (uE:Int->Option wI) (b:gx):Prop where
 k1:(b.2.1.map Prod.fst).Nodup
 k2:(b.2.2.1.map Prod.fst).Nodup
 k3:(b.2.2.2.1.map Prod.fst).Nodup
 k4:(b.2.2.2.2.map Prod.fst).Nodup
 g1:∀o,cL I b.2.1 o=(uE o).map fun x=>x.1
 g2:∀o,cL I b.2.2.1 o=(uE o).map fun x=>x.2.1
 g3:∀o,cL I b.2.2.2.1 o=(uE o).map fun x=>x.2.2.1
 g4:∀o,cL I b.2.2.2.2 o=(uE o).map fun x=>x.2.2.2
def anP(r:aM):wI:=(pE r,r.2.2.2.2.2.2.1,r.2.2.2.2.1,r.2.2.2.2.2.1)
def anw(x:wI):Bool:=decide (0<x.1.length+x.2.1.length+x.2.2.2.length)
def Full(uE:Int->Option wI):Prop:=∀o x,uE o=some x->anw x=true
structure ajJ (m:Nat) (uE:Int->Option wI):Prop where
 who:∀o x,uE o=some x->0<=o/\o<(m:Int)
 atm:∀o x,uE o=some x->x.1.length<=1000/\x.2.1.length<=1000/\x.2.2.1.length<=1000/\x.2.2.2.length<=1000
structure afy (uE:Int->Option wI):Prop where
 one:∀o x k y e,uE o=some x->uE k=some y->dx x.1 e=true->dx y.1 e=true->o=k
 held:∀o x k y,uE o=some x->uE k=some y->∀u∈x.2.2.1++x.2.2.2,∀v∈y.2.2.1++y.2.2.2,u.1=v.1->u.2=v.2
def Vg(n:Nat)(l:nA):Prop:=l=uw\/((1<=l.1/\l.1<=3)/\(0<=l.2.1/\l.2.1<(n:Int))/\l.2.2.2.length=n/\(l.1≠3->l.2.1=0))
def al9(l:List Int)(x:dH):Bool:=!dx l x.1
def anR(r:aM)(k:Nat):wI:=((pE r).drop k,r.2.2.2.2.2.2.1,r.2.2.2.2.1.filter (al9 ((pE r).take k)),r.2.2.2.2.2.1)
def anQ(r:aM)(l:nA):Option wI:=if l.1=0 then none else some (anR r l.2.1.toNat)
def Mt(c:dG)(ls:List nA)(o:Int):Option wI:=if 0<=o/\o<(c.2.length:Int)then anQ (oM c o) (ls.getD o.toNat uw)else none
structure K4 (c:dG):Prop where
 ok:abG c
 aeD:∀r∈c.2,YQ c.1 r
 E7:c.2.length<=64
 elems:c.1.1.length<=40
 sigs:c.1.2.2.1.length<=24
structure Inv (c:dG) (ls:List nA) (b:gx):Prop where
 len:ls.length=c.2.length
 aae:∀i:Nat,i<c.2.length->Vg (oM c i).2.2.2.1.length (ls.getD i uw)
 size:b.1=(c.1.1.length:Int)
 book:Wm (Mt c ls) b
 anL:afy (Mt c ls)
 clear:∀o x k y e,Mt c ls o=some x->Mt c ls k=some y->dx x.1 e=true->dx y.2.1 e=false
structure atV (b:gx) (o:Int) (r:aM):Prop where
 pos:0<=o
 has:abr b o=false
 right:VE b r=true
 steps:r.2.2.2.1.any (IP b)=false
 Au:(r.2.2.2.2.2.2.1.any fun e=>decide (0<=Is b e))=false
 held:(rH r).any (QJ b)=false
structure atT (c:dG) (ls:List nA) (b:gx) (t:zV) (DA:R3) (k:Int):Prop where
 amy:0<=k/\k<(c.2.length:Int)
 bare:(oM c k).2.2.2.2.2.2.2.2=false
 same:bV (afU c ls k (oM c k)) c.2.length=false
 uY:(oM c k).2.2.2.1.any (Zh c.1 DA.1)=false
 ati:(oM c k).2.2.2.2.2.2.1.any (Kj c.1 DA.1)=false
 may:air b k (oM c k)=0
 points:(rH (oM c k)).any (SQ c.1 DA)=false
 line:aiq t (oM c k) DA.1 b=0
structure FB (W:Da):Prop where
 anG:K4 W.1
 inv:Inv W.1 W.2.1 W.2.2.1
 net:Xm W.2.2.2.1.1
 asp:W.2.2.2.2.length<=1000
def Pg(S:St)(b:Nat)(l:List (Nat×C)):dM:=match find S.bl b with|some (.cells cs)=>.cells (l.foldl (fun cs p=>cs.set p.1 p.2) cs)|_=>.cells []
abbrev KV:=dG×List nA×Iy×List Int×List Int
def kp(p:ab):dG:=(p,(mA p).1)
theorem Ci{p:ab}(h:(eg p).2=0):bK p=0/\(eg p).1.1=p/\(eg p).1.2.length<=64:=by unfold eg at h⊢;cases hc:(bK p==0)with|false=>grind|true=>rw[hc]at h;cases ha:((jI p).2==0)with|false=>grind|true=>refine⟨eq_of_beq hc,rfl,?_⟩;grind[KT]
theorem Tw{p:ab}(h:bK p=0):dp p=some (ic p):=by grind[dp]
theorem Js(p:ab):(bf (some (ic p))).1=p:=by show(ic p).1=p;grind[ic]
theorem abX{c:dG}(h:tG c=0):eg c.1=(c,0):=by unfold tG at h;grind
theorem L0{α β:Type}{x:α×β}{a:α}{b:β}(h1:x.1=a)(h2:x.2=b):x=(a,b):=by grind
theorem aj1(c:(ab)×List (aM)):fH (av aQ [(42,O9),(99,c99),(34,xV),(91,yz),(100,M6),(51,uO),(101,M5)]) Tryz.f47 Fl az (c,())=( U ((eg c.1).2!=(0:Int)) fun(y1:Bool)=>U (!c==(eg c.1).1) fun(y2:Bool)=>U (bK (eg c.1).1.1!=(0:Int)) fun(y3:Bool)=>U (dp (eg c.1).1.1) fun(y4:Option aS)=>dN c.1/\(y1=true->False)/\(y1=false->True/\(y2=true->False)/\(y2=false->dN (eg c.1).1.1/\(y3=true->False)/\(y3=false->((0:Int)<=(↑(eg c.1).1.2.length:Int)/\(↑(eg c.1).1.2.length:Int)<=(↑(eg c.1).1.2.length:Int))/\(roomFor (↑(eg c.1).1.2.length:Int).toNat (48:Nat)/\(↑(eg c.1).1.2.length:Int)<=(bI:Int))/\ka y4/\True/\True/\ka y4/\((0:Int)<=(↑(bf y4).1.2.2.1.length:Int)/\(↑(bf y4).1.2.2.1.length:Int)<=(↑(bf y4).1.2.2.1.length:Int))/\(roomFor (↑(bf y4).1.2.2.1.length:Int).toNat (8:Nat)/\(↑(bf y4).1.2.2.1.length:Int)<=(bI:Int))/\(eg c.1).1=c/\List.replicate (↑(eg c.1).1.2.length:Int).toNat ((0:Int),(0:Int),false,[])=List.replicate c.2.length uw/\max (0:Int) (min (↑(bf y4).1.1.length:Int) (40:Int))=max (0:Int) (min (c.1.1.length:Int) (40:Int))/\([]:List (Int×List Int)).Perm []/\([]:List (Int×List Int)).Perm []/\([]:List (Int×List (Int×Int))).Perm []/\([]:List (Int×List (Int×Int))).Perm []/\y4=some (ic c.1)/\([]:List ((Int×Int)×Bool)).Perm []/\List.replicate (↑(bf y4).1.2.2.1.length:Int).toNat (0:Int)=List.replicate c.1.2.2.1.length (0:Int)/\(0:Int)=(0:Int)/\True)))):=by kernel_rfl
theorem aom(c:dG)(hp:dN c.1)(hE:tG c=0):fH (av aQ [(42,O9),(99,c99),(34,xV),(91,yz),(100,M6),(51,uO),(101,M5)]) Tryz.f47 Fl az (c,()):=by
 have amZ:bI=9223372036854775807:=rfl;rw[aj1];have hB:=abX hE;obtain⟨g1,g2,g3⟩:=Ci (p:=c.1) (by rw[hB]);have HU:=(pa (jJ g1).1);rw[hB]at g3;rw[hB];refine U.mk fun y1 e1=>U.mk fun y2 e2=>U.mk fun y3 e3=>U.mk fun y4 e4=>?_;have h1:y1=false:=e1;have h2:y2=false:=by grind
 have h3:y3=false:=by grind
 have h4:y4=some (ic c.1):=by grind[Tw]
 rw[h1,h2,h3,h4,Js];refine⟨hp,fun h=>(by cases h),fun _=>⟨trivial,fun h=>(by cases h),fun _=>⟨hp,fun h=>(by cases h),fun _=>?_⟩⟩⟩;exact⟨⟨by omega,by omega⟩,⟨gU (by omega) (by decide),by omega⟩,⟨_,rfl⟩,trivial,trivial,⟨_,rfl⟩,⟨by omega,by omega⟩,⟨gU (by omega) (by decide),by omega⟩,rfl,rfl,rfl,.refl _,.refl _,.refl _,.refl _,rfl,.refl _,rfl,rfl,trivial⟩
theorem ZN:lS Tryz.prog 47 Fl:=lS.cB (l:=[(42,O9),(99,c99),(34,xV),(91,yz),(100,M6),(51,uO),(101,M5)]) (A:=fun _=>az) aO ⟨aeR,alg,L4,NP,ahj,Jo,ahi,trivial⟩ Tryz.func47 (by rfl) (by rfl) fun x hw hp=>aom x.1 hp.1 hp.2
theorem Ri{p:ab}(h:(mA p).2=true):eg p=(kp p,0):=by have hf:=(yb h).Hp;unfold mA at h;rw[hf]at h;have h0:(eg p).2=0:=eq_of_beq h;obtain⟨_,g2,_⟩:=Ci h0;refine L0 (L0 g2 ?_) h0;grind[mA]
theorem WS:(mA wZ).2=true:=by kernel_rfl
structure as4 (W:Da) (i:Nat):Prop where
 inv:FB W
 amy:i<W.1.2.length
 idle:∀j:Nat,j<W.1.2.length->j≠i->(W.2.1.getD j uw).1=0
 up:(W.2.1.getD i uw).1=1\/(W.2.1.getD i uw).1=2
 off:(W.2.1.getD i uw).2.2.1=false
def Zx(z:List Int):List Int:=U9 z z.length
def aid(o:Int)(x:wI):afx:=(o,x.1,Zx x.2.1,x.2.2.1,x.2.2.2)
structure R1 (uE:Int->Option wI) (b:Iy):Prop where
 ate:(b.2.map fun h=>h.1).Pairwise (· < ·)
 each:∀h∈b.2,∃x,uE h.1=some x/\h=aid h.1 x
 has:∀o x,uE o=some x->∃h∈b.2,h.1=o
structure acu (W:KV):Prop where
 anG:K4 W.1
 len:W.2.1.length=W.1.2.length
 aae:∀i:Nat,i<W.1.2.length->Vg (oM W.1 i).2.2.2.1.length (W.2.1.getD i uw)
 size:W.2.2.1.1=(W.1.1.1.length:Int)
 book:R1 (Mt W.1 W.2.1) W.2.2.1
 an5:W.2.2.2.1.length=W.1.1.2.2.2.1.length
structure atY (uE:Int->Option wI) (b:gx) (rb:Iy):Prop where
 p:Wm uE b
 r:R1 uE rb
 anL:afy uE
 full:Full uE
section
variable {p:ab} {DA:R3}
structure Mid (p:ab) (ls:List nA) (b:gx) (t:zV) (V:KV):Prop where
 inv:Inv (kp p) ls b
 inr:acu V
 aiH:V.1=kp p
 aac:V.2.1=ls
 tok:t.1=some (ic p)
 keys:(t.2.map Prod.fst).Nodup
 an5:∀l:Nat,l<p.2.2.2.1.length->V.2.2.2.1.getD l 0=abt t.2 (l:Int)
end
section
variable {p:ab} {DA:R3} {ls:List nA} {b:gx} {t:zV} {V:KV}
structure Alike (p:ab) (W:Da) (V:KV):Prop where
 inv:FB W
 aiH:W.1=kp p
 mid:Mid p W.2.1 W.2.2.1 W.2.2.2.1 V
 shown:V.2.2.2.2=W.2.2.2.2
end
structure api (p:ab) (V W:Da) (i:Nat):Prop where
 inv:FB V
 inw:FB W
 cv:V.1=kp p
 cw:W.1=kp p
 aae:V.2.1.getD i uw=W.2.1.getD i uw
theorem PQ{a:Ty}{β:Type}{k:a.den}{v:β}{x:a.den×β}:∀{m:List (a.den×β)},x∈gO a m k v->x=(k,v)\/x∈m|[],h=>.inl (aL.1 h)|y::m,h=>by unfold gO at h;cases hk:a.nu k y.1 with|true=>grind|false=>rw[hk]at h;rcases a7.1 h with h|h;exact .inr (h▸bz);rcases PQ h with h|h;exact .inl h;exact .inr (bk _ h)
theorem Re{a:Ty}{β:Type}{k:a.den}{x:a.den×β}:∀{m:List (a.den×β)},x∈sn a m k->x∈m|[],h=>h|y::m,h=>by unfold sn at h;cases hk:a.nu k y.1 with|true=>rw[hk]at h;exact bk _ h|false=>rw[hk]at h;rcases a7.1 h with h|h;exact h▸bz;exact bk _ (Re h)
theorem GR{l:List gE}{x:gE×Bool}:∀k,k<=l.length->x∈vk [] l k->x.1∈l|0,_,h=>absurd h hY|k+1,hk,h=>by have h:x∈gO BC (sn BC (vk [] l k) ((l.getD k zT).1,3-(l.getD k zT).2)) (l.getD k zT) true:=h;rcases PQ h with h|h;rw[h];exact vp zT (by omega);exact GR k (by omega) (Re h)
theorem sE{l:List gE}{t:gE}(h:EU (vk [] l l.length) t=true):t∈l:=by unfold EU at h;cases hg:cL BC (vk [] l l.length) t with|none=>grind|some v=>exact GR (x:=(t,v)) l.length (aZ _) (mw (a:=BC) rfl hg)
structure atX (a b:aM):Prop where
 any:a.1=b.1\/(∃e,e∈pE a/\e∈pE b)\/(∃e,e∈pE a/\e∈b.2.2.2.2.2.2.1)\/(∃e,e∈a.2.2.2.2.2.2.1/\e∈pE b)\/∃x∈rH a,∃y∈rH b,x.1=y.1/\x.2≠y.2
def jF(p:ab)(a b:aM):Prop:=∀t∈Q3 p a,∀u∈Q3 p b,t.1=u.1->t.2=u.2
structure ajH (c:dG) (i:Nat) (ls:List nA) (b:gx) (t:zV):Prop where
 inv:Inv c ls b
 uE:Mt c ls=ak7 (fun _=>none) (i:Int) (some (anP (oM c (i:Int))))
 aae:∀j:Nat,(ls.getD j uw).1=if j=i then 1 else 0
 tok:t=(some (ic c.1),vk [] (OV (ic c.1) (oM c (i:Int))) (OV (ic c.1) (oM c (i:Int))).length)
def KU(m:List (gE×Bool)):Prop:=∀x∈m,x.2=true
structure apj (p:ab) (W:Da) (V:KV):Prop where
 aeD:R0 p
 same:Alike p W V
 GP:KU W.2.2.2.1.2
theorem abY(c:dG):tG c=bif !((eg c.1).2==0)then(eg c.1).2 else bif c==(eg c.1).1 then 0 else 1:=by grind[tG]
def Q4(ls:List nA)(i:Int):Bool:=!(ad2 ls i==0)
def aeo(p:ab)(s:Int):Int:=(p.2.2.1.getD s.toNat zS).2.1.1
def ael(c:dG)(ls:List nA)(s:Int)(i:Nat):Bool:=(c.2.getD i zR).1==s&&Q4 ls (i:Int)
def ahm(c:dG)(ls:List nA)(s:Int)(i:Nat):Bool:=(c.2.getD i zR).2.2.1==1&&((c.2.getD i zR).2.1==s&&Q4 ls (i:Int))
def ale(c:dG)(ls:List nA)(uY:List Bool)(s:Int)(k:Nat):Bool:=aip c.1 uY (aeo c.1 s)||bV (ahm c ls s) k
@[irreducible]def abm(c:dG)(ls:List nA)(uY:List Bool)(s:Int):Bool:=!bV (ael c ls s) c.2.length&&ale c ls uY s c.2.length
def abl(c:dG)(s:Int)(i:Nat):Bool:=(c.2.getD i zR).1==s&&!(c.2.getD i zR).2.2.2.2.2.2.2.2
structure acB (W:Da):Prop where
 inv:FB W
 own:eg W.1.1=(W.1,0)
 short:dN W.1.1
structure ajK (c:dG) (ls:List nA) (uY:List Bool) (s:Nat) (x:Int):Prop where
 here:0<=x/\x<(c.2.length:Int)
 from_:(oM c x).1=(s:Int)
 bare:(oM c x).2.2.2.2.2.2.2.2=false
 auto:(c.1.2.2.1.getD s zS).2.2=true
 first:∀j:Nat,(j:Int)<x->abl c (s:Int) j=false
 apk:abm c ls uY (s:Int)=true
abbrev PtT:Ty:=.pair I (.pair I (.pair I (.pair .bool .bool)))
abbrev YR:=Int×Int×Int×Bool×Bool
abbrev Iz:Ty:=.pair (.ptr gF) (.pair (.vec 40 PtT) (.pair (.vec 40 .bool) (.vec 24 .bool)))
abbrev zW:=Option aS×List YR×List Bool×List Bool
def zPt:YR:=(0,0,0,false,false)
def acZ(f:zW):ab:=(bf f.1).1
@[irreducible]def nm(n:aS):zW:=(some n,(List.range 40).map (fun(e:Nat)=>(bif ax n.1 (e:Int)==2 then 1 else 0,0,0,false,false)),List.replicate 40 false,List.replicate 24 false)
structure R4 (f:zW):Prop where
 net:hX f.1
 pts:f.2.1.length=40
 ao7:f.2.2.1.length=40
 arY:f.2.2.2.length=24
 left:∀x∈f.2.1,0<=x.2.2.1/\x.2.2.1<=20
abbrev il:=Option aS×Da×zW×List aP×List aw×List Int×R3×Bool×Int×Bool
def dv(w:il):ab:=(bf w.1).1
def IJ(w:il):Da:=w.2.1
def H3(w:il):zW:=w.2.2.1
def eW(w:il):List aP:=w.2.2.2.1
def fm(w:il):List aw:=w.2.2.2.2.1
def Nr(w:il):List Int:=w.2.2.2.2.2.1
def om(kinds:List aP)(t:bn):Bool:=!jE t.1||(decide (t.2.1<0)||decide ((kinds.length:Int)<=t.2.1))
@[irreducible]def lD(kinds:List aP)(l:List bn):Int:=bif decide (8<l.length)then 3 else bif l.any (om kinds)then 1 else bif gg (l.map fun t=>t.1)then 4 else 0
def cI(kinds:List aP)(t:bn):aP:=kinds.getD t.2.1.toNat ln
def lr(p:ab)(kinds:List aP)(t:bn):Int:=(fh p (cI kinds t).2.1 t).2
def iJ(p:ab)(kinds:List aP):List bn->Int|[]=>0|t::l=>bif lr p kinds t==0 then iJ p kinds l else lr p kinds t
@[irreducible]def km(p:ab)(kinds:List aP)(l:List bn):List aw:=l.map fun t=>(fh p (cI kinds t).2.1 t).1
def yh(p:ab)(l:List aw)(i:Nat):Bool:=(cN p (l.getD i fC)).any fun e=>(l.take i).any fun b=>dx (cN p b) e
@[irreducible]def sM(p:ab)(l:List aw):Bool:=bV (yh p l) l.length
@[irreducible]def fc(c:dG)(kinds:List aP)(l:List bn):Int:=bif !(tG c==0)then tG c else bif !(lj c.1 kinds==0)then lj c.1 kinds else bif !(lD kinds l==0)then lD kinds l else bif !(iJ c.1 kinds l==0)then iJ c.1 kinds l else bif sM c.1 (km c.1 kinds l)then 18 else 0
def zIn:R3:=([],[],[],[])
@[irreducible]def jk(c:dG)(kinds:List aP)(l:List bn):il:=(some (ic c.1),Wa c,nm (ic c.1),l.map (cI kinds),km c.1 kinds l,List.replicate c.1.2.2.1.length 0,zIn,false,0,false)
abbrev aeu:=R3×List Int×List Int
def short{α:Type}(xs:List α):Prop:=xs.length<=1000000
def bytes(b:List Int):Prop:=∀x∈b,0<=x/\x<=255
structure May (m n:Int) (e:aeu):Prop where
 m0:0<=m/\m<=40
 n0:0<=n/\n<=24
 uY:(e.1.1.length:Int)=m
 pos:(e.1.2.1.length:Int)=m
 loop:(e.1.2.2.1.length:Int)=n
 held:(e.1.2.2.2.length:Int)=n
 ps:∀p∈e.1.2.1,0<=p/\p<=2
 calls:e.2.1.length<=200
 aob:e.2.2.length<=200
 cs:∀p∈e.2.1,0<=p/\p<=255
 ds:∀p∈e.2.2,0<=p/\p<=255
abbrev ajr:=Da×List Int×Int×Int
structure apf (K:ajr):Prop where
 on:acB K.1
 GP:KU K.1.2.2.2.1.2
 keys:(K.1.2.2.2.1.2.map Prod.fst).Nodup
 E7:K.2.1.length<=1000000
def aho(m:List (gE×Bool)):Prop:=(m.map Prod.fst).Nodup
theorem Mp{n:aS}(h:dk n):R4 (nm n):=by unfold nm;refine⟨⟨n,rfl,h⟩,by simp,by simp,by simp,fun x hx=>?_⟩;obtain⟨e,_,rfl⟩:=List.mem_map.1 hx;exact⟨fu 0,by show(0:Int)<=20;decide⟩
def Zm(i:R3):Prop:=i.1.length<=1000/\i.2.1.length<=1000/\i.2.2.1.length<=1000/\i.2.2.2.length<=1000
structure RZ (w:il):Prop where
 net:hX w.1
 on:acB (IJ w)
 GP:KU (IJ w).2.2.2.1.2
 keys:aho (IJ w).2.2.2.1.2
 vO:(IJ w).1.1=dv w
 field:R4 (H3 w)
 atP:(H3 w).1=w.1
 nY:(Nr w).length=(dv w).2.2.1.length
 many:(fm w).length=(eW w).length/\(eW w).length<=8
 lens:∀i,i<(eW w).length->1<=((eW w).getD i ln).2.1/\((eW w).getD i ln).2.1<=4000
 aen:∀i,i<(fm w).length->jK (dv w) ((eW w).getD i ln).2.1 ((fm w).getD i fC)
 asked:Zm w.2.2.2.2.2.2.1
def ajk(w v:il):Prop:=v.1=w.1/\eW v=eW w/\(fm v).length=(fm w).length/\(IJ v).1=(IJ w).1
theorem JN(p:ab)(x:ar):qS p [x]:=fun y hy=>by cases hy
theorem afR{p:ab}(hp:bK p=0){n:Int}{t:bn}(h:(fh p n t).2=0):(1<=n/\n<=4000)/\jK p n (fh p n t).1:=by unfold fh at h⊢;cases c1:(decide (n<1)||decide (4000<n))||((!(ax p t.2.2.1.1==4)&&!(ax p t.2.2.1.1==1))||!ez p t.2.2.1)with|true=>rw[c1]at h;cases h|false=>rw[c1]at h;cases c2:decide (cr p t.2.2.1<0)with|true=>rw[c2]at h;cases h|false=>rw[c2]at h;cases c3:(ax p t.2.2.1.1==4&&!(t.2.2.2==0))||(ax p t.2.2.1.1==1&&(decide (t.2.2.2<0)||decide (aR p t.2.2.1.1<t.2.2.2)))with|true=>rw[c3]at h;cases h|false=>rw[c3]at h;cases c4:ax p t.2.2.1.1==1&&decide (aR p t.2.2.1.1<t.2.2.2+n)with|true=>rw[c4]at h;cases h|false=>simp only[aG,Bool.and_eq_false_iff,cc,bh,aU,cn]at c1 c3 c4;have hl:=pz p hp t.2.2.1.1;refine⟨⟨by omega,by omega⟩,?_⟩;show jK p n (bif ax p t.2.2.1.1==4 then 1 else 2,[t.2.2.1],t.2.2.2,0,0);cases hk:ax p t.2.2.1.1==4 with|true=>have hk:=eq_of_beq hk;(have h0:t.2.2.2=0:=by rcases c3.1 with e|e;exact absurd hk e;exact e);exact⟨⟨by show(1:Int)<=1;decide,by show(1:Int)<=4;decide⟩,⟨by show 0<=t.2.2.2;omega,by show t.2.2.2<=4000;omega⟩,⟨fu 0,by show(0:Int)<=4000;decide⟩,⟨fu 0,by show(0:Int)<=60;decide⟩,fun _=>by simp,JN p _,.inl (aZ _),fun _=>.inl hk⟩|false=>have hk:=ne_of_beq_false hk;(have h1:ax p t.2.2.1.1=1:=by rcases c1.2.1 with e|e;exact absurd e hk;exact e);(have h2:¬t.2.2.2<0/\¬aR p t.2.2.1.1<t.2.2.2:=by rcases c3.2 with e|e;exact absurd h1 e;exact e);(have h3:¬aR p t.2.2.1.1<t.2.2.2+n:=by rcases c4 with e|e;exact absurd h1 e;exact e);exact⟨⟨by show(1:Int)<=2;decide,by show(2:Int)<=4;decide⟩,⟨by show 0<=t.2.2.2;omega,by show t.2.2.2<=4000;omega⟩,⟨fu 0,by show(0:Int)<=4000;decide⟩,⟨fu 0,by show(0:Int)<=60;decide⟩,fun _=>by simp,JN p _,.inl (aZ _),fun _=>.inr (by rw[pX];show n-(0-t.2.2.2+0)<=aR p t.2.2.1.1;omega)⟩
theorem GV{p:ab}{kinds:List aP}:∀{l:List bn},iJ p kinds l=0->∀t∈l,lr p kinds t=0|[],_,t,ht=>by cases ht|x::l,h,t,ht=>by unfold iJ at h;cases c:lr p kinds x==0 with|true=>rw[c]at h;rcases a7.1 ht with rfl|ht;exact eq_of_beq c;exact GV h t ht|false=>rw[c]at h;exact absurd h (ne_of_beq_false c)
theorem yP{c:dG}{kinds:List aP}{l:List bn}(h:fc c kinds l=0):tG c=0/\lj c.1 kinds=0/\lD kinds l=0/\iJ c.1 kinds l=0/\sM c.1 (km c.1 kinds l)=false:=by unfold fc at h;cases c1:!(tG c==0)with|true=>rw[c1]at h;simp at c1;exact absurd h c1|false=>rw[c1]at h;cases c2:!(lj c.1 kinds==0)with|true=>rw[c2]at h;simp at c2;exact absurd h c2|false=>rw[c2]at h;cases c3:!(lD kinds l==0)with|true=>rw[c3]at h;simp at c3;exact absurd h c3|false=>rw[c3]at h;cases c4:!(iJ c.1 kinds l==0)with|true=>rw[c4]at h;simp at c4;exact absurd h c4|false=>rw[c4]at h;cases c5:sM c.1 (km c.1 kinds l)with|true=>rw[c5]at h;cases h|false=>simp only[bh,aU]at c1 c2 c3 c4;exact⟨c1,c2,c3,c4,rfl⟩
theorem xg{kinds:List aP}{l:List bn}(h:lD kinds l=0):l.length<=8/\∀t∈l,0<=t.2.1/\t.2.1<(kinds.length:Int):=by unfold lD at h;cases c1:decide (8<l.length)with|true=>rw[c1]at h;cases h|false=>rw[c1]at h;cases c2:l.any (om kinds)with|true=>rw[c2]at h;cases h|false=>refine⟨by have:=aj c1;omega,fun t ht=>?_⟩;(have hb:om kinds t=false:=by cases hb:om kinds t with|false=>rfl|true=>rw[eG.2 ⟨t,ht,hb⟩]at c2;cases c2);unfold om at hb;simp only[aG,cc]at hb;omega
abbrev We:fj:=.obj Iz
abbrev Pp:fj:=.cells true (.pair (.a6 (.ptr gF)) (.pair afz (.pair We (.pair (.a6 (.list StockT)) (.pair (.row 33 dT) (.pair (.a6 (.list I)) (.pair (.a6 InT) (.a6 (.pair .bool (.pair I .bool))))))))))
def O5:iX where args:=[.a6 (.ptr gF)];outs:=[We];pre:=fun(x:Option aS×Unit)=>hX x.1;fn:=fun(x:Option aS×Unit)=>(nm (bf x.1),())
def wo(kinds:List aP)(l:List bn):Prop:=kinds.length<=1000/\l.length<=1000
def O6:bg where args:=[.list StockT,.list TrainT];out:=.data [I];pre:=fun(x:List aP×List bn×Unit)=>True;fn:=fun(x:List aP×List bn×Unit)=>(lD x.1 x.2.1,())
def jA(c:dG):Prop:=c=kp c.1/\(mA c.1).2=true
def Pb:iX where args:=[.a6 sT,.a6 (.list StockT),.a6 (.list TrainT)];outs:=[Pp,.a6 I];pre:=fun(x:dG×List aP×List bn×Unit)=>jA x.1/\fc x.1 x.2.1 x.2.2.1=0;fn:=fun(x:dG×List aP×List bn×Unit)=>(jk x.1 x.2.1 x.2.2.1,0,())
def dU:bT:=([],[],[])
def my(s:aP):Int:=max (-s.2.2.2.2) (-10)
def oO(s:aP):Int:=min s.2.2.2.1 10
def Dv(p:ab)(pos nY:List Int)(s:aP)(yR Lp:aw)(first:Bool)(k:Nat):Bool:=iR (tE p pos nY s yR (my s+(k:Int)) first) Lp
@[irreducible]def xT(p:ab)(pos nY:List Int)(s:aP)(yR Lp:aw)(first:Bool):Bool:=((gI p s.2.1 yR).2&&iR (gI p s.2.1 yR).1 Lp)||bV (Dv p pos nY s yR Lp first) (oO s+1-my s).toNat
@[irreducible]def nP(l:List Int)(n:Int):Bool:=(l.length:Int)==n&&!l.any fun x=>decide (x<0)||decide (2<x)
def nH(p:ab)(l:List Int)(i:Nat):Bool:=!(l.getD i 0==0)&&!(ax p (i:Int)==2)
def ll(p:ab)(st:List aP)(l:List aw)(i:Nat):Bool:=!cm p (st.getD i ln).2.1 (l.getD i fC)
@[irreducible]def gY(p:ab)(st:List aP)(x:bT):Bool:=(nP x.1 (p.1.length:Int)&&(nP x.2.1 (p.2.2.1.length:Int)&&(x.2.2.length:Int)==(st.length:Int)))&&(!bV (nH p x.1) x.1.length&&!bV (ll p st x.2.2) x.2.2.length)
def jq(p:ab)(l:List aw)(t i:Nat):Bool:=!(i==t)&&(cN p (l.getD i fC)).any fun e=>dx (cN p (l.getD t fC)) e
@[irreducible]def zH(p:ab)(l:List aw)(t:Int):Bool:=bV (jq p l t.toNat) l.length
@[irreducible]def xw(p:ab)(yR Lp:bT)(t:Int):Bool:=(cN p (yR.2.2.getD t.toNat fC)).any fun e=>!(yR.1.getD e.toNat 0==Lp.1.getD e.toNat 0)
abbrev iS:=ab×List aP×List aw
@[irreducible]def fZ(c:iS)(kind:Int)(l:List bT)(tick t:Int)(first:List Bool):Bool:=bif kind==3 then tick==0&&!iR ((l.getD tick.toNat dU).2.2.getD t.toNat fC) (c.2.2.getD t.toNat fC)else bif kind==4 then zH c.1 (l.getD tick.toNat dU).2.2 t else bif kind==5 then((l.getD tick.toNat dU).2.2.getD t.toNat fC).1==4 else bif kind==6 then decide (0<tick)&&xw c.1 (l.getD (tick-1).toNat dU) (l.getD tick.toNat dU) t else bif kind==7 then decide (0<tick)&&!xT c.1 (l.getD tick.toNat dU).1 (l.getD tick.toNat dU).2.1 (c.2.1.getD t.toNat ln) ((l.getD (tick-1).toNat dU).2.2.getD t.toNat fC) ((l.getD tick.toNat dU).2.2.getD t.toNat fC) (first.getD t.toNat false)else false
def fK(l:List bT)(i:Nat):List Bool:=fe (l.getD (i-1) dU).2.2
def qh(c:iS)(n:Nat)(l:List bT)(i:Nat)(kind:Int):Option Nat:=gK (fun t=>fZ c kind l (i:Int) (t:Int) (fK l i)) n
def oh(c:iS)(n:Nat)(l:List bT)(i:Nat):Nat->Int->Int×Int×Int|0,_=>(0,-1,-1)|k+1,kind=>match qh c n l i kind with|some t=>(kind,(i:Int),(t:Int))|none=>oh c n l i k (kind+1)
def gp(c:iS)(n:Nat)(l:List bT)(i:Nat):Int×Int×Int:=bif gY c.1 c.2.1 (l.getD i dU)then oh c n l i 5 3 else(2,(i:Int),-1)
def gj(c:iS)(n:Nat)(l:List bT):Nat->Nat->Int×Int×Int|0,_=>(0,-1,-1)|k+1,i=>bif(gp c n l i).1==0 then gj c n l k (i+1)else gp c n l i
def dI(p:ab)(kinds:List aP)(oL:List bn):iS:=(p,oL.map (cI kinds),km p kinds oL)
@[irreducible]def jH(c:dG)(kinds:List aP)(oL:List bn)(l:List bT):Int×Int×Int:=bif fc c kinds oL==0 then gj (dI c.1 kinds oL) oL.length l l.length 0 else(1,-1,-1)
theorem DW(c:iS)(n:Nat)(l:List bT)(i:Nat):∀(k:Nat)(kind:Int),0<kind->((oh c n l i k kind).1=0↔oh c n l i k kind=(0,-1,-1))/\((oh c n l i k kind).1≠0->(oh c n l i k kind).2.1=(i:Int))|0,kind,_=>⟨⟨fun _=>rfl,fun _=>rfl⟩,fun h=>absurd rfl h⟩|k+1,kind,h=>by unfold oh;cases qh c n l i kind with|none=>exact DW c n l i k (kind+1) (by omega)|some t=>exact⟨⟨fun e=>by have e:kind=0:=e;omega,fun e=>by have:=bA Prod.fst e;have e:kind=0:=this;omega⟩,fun _=>rfl⟩
theorem rp(c:iS)(n:Nat)(l:List bT):∀(k i:Nat),(gj c n l k i=(0,-1,-1)/\∀j,i<=j->j<i+k->(gp c n l j).1=0)\/∃j,i<=j/\j<i+k/\gj c n l k i=gp c n l j/\(gp c n l j).1≠0/\∀m,i<=m->m<j->(gp c n l m).1=0|0,i=>.inl ⟨rfl,fun j h1 h2=>by omega⟩|k+1,i=>by unfold gj;cases h:(gp c n l i).1==0 with|true=>have h:=eq_of_beq h;rcases rp c n l k (i+1)with⟨h1,h2⟩|⟨j,h1,h2,h3,h4,h5⟩;refine .inl ⟨h1,fun j hj1 hj2=>?_⟩;rcases Nat.eq_or_lt_of_le hj1 with rfl|hj;exact h;exact h2 j hj (by omega);refine .inr ⟨j,by omega,by omega,h3,h4,fun m hm1 OC=>?_⟩;rcases Nat.eq_or_lt_of_le hm1 with rfl|hm;exact h;exact h5 m hm OC|false=>exact .inr ⟨i,aZ _,by omega,rfl,ne_of_beq_false h,fun m h1 h2=>by omega⟩
theorem SH(c:iS)(n:Nat)(l:List bT)(j:Nat)(h:(gp c n l j).1≠0):(gp c n l j).2.1=(j:Int):=by unfold gp at h⊢;cases hs:gY c.1 c.2.1 (l.getD j dU)with|false=>rfl|true=>rw[hs]at h;exact(DW c n l j 5 3 (by decide)).2 h
theorem Pt(c:iS){l m:List bT}{j:Nat}(h:∀i,i<=j->l.getD i dU=m.getD i dU)(kind t:Int)(f:List Bool):fZ c kind l (j:Int) t f=fZ c kind m (j:Int) t f:=by unfold fZ;have e1:((j:Int)).toNat=j:=ak j;(have e2:((j:Int)-1).toNat=j-1:=by omega);rw[e1,e2,h j (aZ _),h (j-1) (Nat.sub_le _ _)]
theorem DU(c:iS)(n:Nat){l m:List bT}{j:Nat}(h:∀i,i<=j->l.getD i dU=m.getD i dU):∀(k:Nat)(kind:Int),oh c n l j k kind=oh c n m j k kind|0,_=>rfl|k+1,kind=>by(have hf:fK l j=fK m j:=by unfold fK;rw[h (j-1) (Nat.sub_le _ _)]);(have hw:qh c n l j kind=qh c n m j kind:=by unfold qh;rw[hf];congr 1;exact funext fun t=>Pt c h _ _ _);unfold oh;rw[hw,DU c n h k (kind+1)]
theorem vK(c:iS)(n:Nat){l m:List bT}{j:Nat}(h:∀i,i<=j->l.getD i dU=m.getD i dU):gp c n l j=gp c n m j:=by unfold gp;rw[h j (aZ _),DU c n h]
theorem PD(c:iS)(n:Nat)(l more:List bT)(h:(gj c n l l.length 0).1≠0):∃j,j<l.length/\(gj c n l l.length 0).2.1=(j:Int)/\gj c n (l++more) (l++more).length 0=gj c n l l.length 0/\gj c n (l.take j) (l.take j).length 0=(0,-1,-1):=by
 rcases rp c n l l.length 0 with⟨h1,_⟩|⟨j,h1,h2,h3,h4,h5⟩;rw[h1]at h;exact absurd rfl h;have hj:j<l.length:=by omega
 have ha:∀i,i<=j->(l++more).getD i dU=l.getD i dU:=fun i hi=>by rw[ai,ai,dR (by omega)]
 refine⟨j,hj,?_,?_,?_⟩;rw[h3];exact SH c n l j h4;rw[h3];rcases rp c n (l++more) (l++more).length 0 with⟨_,g2⟩|⟨i,g1,g2,g3,g4,g5⟩;have:=g2 j (aT _) (by rw[df];omega);rw[vK c n ha]at this;exact absurd this h4;rcases Nat.lt_trichotomy i j with mO|rfl|OE;rw[vK c n fun k hk=>ha k (by omega)]at g4;exact absurd (h5 i (aT _) mO) g4;rw[g3];exact vK c n ha;have:=g5 j (aT _) OE;rw[vK c n ha]at this;exact absurd this h4;rcases rp c n (l.take j) (l.take j).length 0 with⟨g1,_⟩|⟨i,g1,g2,g3,g4,g5⟩;exact g1;have mO:i<j:=by rw[cO]at g2;omega
 rw[vK c n (m:=l) fun k hk=>by rw[ai,ai,dA (by omega)]]at g4;exact absurd (h5 i (aT _) mO) g4
theorem LQ{s:aP}(h:dc s=true):(1<=s.2.1/\s.2.1<=4000)/\(1<=s.2.2.1/\s.2.2.1<=60)/\(1<=s.2.2.2.1/\s.2.2.2.1<=10)/\(1<=s.2.2.2.2/\s.2.2.2.2<=10):=by unfold dc mc at h;simp only[ae,ay]at h;exact h.2
theorem Me{s:aP}(h:dc s=true):my s=-s.2.2.2.2/\oO s=s.2.2.2.1:=by obtain⟨_,h2,h3,h4⟩:=LQ h;unfold my oO;omega
end YtjfjmpkibcmnpaaGreat
end Go.Proofs
