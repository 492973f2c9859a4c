/- Contracts of the program's tokens and of what they ask o -/
import Derived.Test.YtjfjmpkibcmnpaaGreatM3
import Derived.Shelf.Sort.Plain
import Derived.Shelf.Slices.In.SortNone
import Derived.Shelf.Slices.Delete
import Derived.Shelf.SlMaps.Clone
import Derived.IntWalk
set_option maxRecDepth 100000
set_option linter.unusedVariables false
set_option linter.unusedSimpArgs false
set_option maxHeartbeats 16000000
namespace Go.Vc
open Go
theorem aL.ptr{P:Program}{f:Nat}{t:Ty}{ts:List Ty}{out:Out}{pre:l9 (.ref t::ts)->Prop}{fn:l9 (.ref t::ts)->l9 out.J1}{pre':l9 (.ptr t::ts)->Prop}(h:aL P f ⟨.ref t::ts,out,pre,fn⟩)(hp:∀x:l9 (.ptr t::ts),pre' x->∃y,x.1=some y/\pre (y,x.2)):aL P f ⟨.ptr t::ts,out,pre',fun x=>fn (x.1.getD t.xB,x.2)⟩where fn:=h.fn;calls F w x vs hF hx nH:=by obtain⟨y,hy,hq⟩:=hp x nH;obtain⟨x1,x2⟩:=x;have hy:x1=some y:=hy;subst hy;obtain⟨v,us,rfl,h1,h2⟩:=hx;refine h.calls F w (y,x2) (v::us) hF ⟨v,us,rfl,?_,h2⟩ hq;have h1:dG F (.ptr t) (some y) [v]:=h1;rcases h1 with⟨h,_⟩|⟨y',V0,b,off,k⟩;cases h;cases V0;exact⟨b,off,k⟩
end Go.Vc
namespace Go.Proofs
namespace YtjfjmpkibcmnpaaGreat
open Go Go.Vc
abbrev ga:=Int×List (Int×List Int)×List (Int×List Int)×List (Int×List dA)×List (Int×List dA)
abbrev aaH:eX:=.cells true (.pair (.aY I) (.pair (.map I (.list I)) (.pair (.map I (.list I)) (.pair (.map I (.list n6)) (.map I (.list n6))))))
abbrev yJ:=Option aO×List (gj×Bool)
abbrev Uy:eX:=.cells true (.pair (.aY (.ptr fT)) (.map AH .bool))
def aQ(o:Option aO):aO:=o.getD (Ty.xB fT)
def jK(o:Option aO):Prop:=∃n,o=some n
def VF(o:Option aO):Prop:=∃n,o=some n/\abj n
def xD:ba where args:=[.ptr fT];out:=.data [I];pre:=fun(x:Option aO×Unit)=>jK x.1;fn:=fun(x:Option aO×Unit)=>(((aQ x.1).1.1.length:Int),())
theorem Mv:aL Tryz.prog 91 xD:=ai0.ptr fun x h=>by obtain⟨n,h1⟩:=h;grind
def Lp:ba where args:=[.list I,I];out:=.data [I];pre:=fun(x:List Int×Int×Unit)=>True;fn:=fun(x:List Int×Int×Unit)=>(iS (fun y=>x.2.1==y) x.1,())
def aak(x:List Int×Int×Unit):gb:=bP [(2,fun _=>A5 (fun y=>x.2.1==y) x.1 8 [0,1,7])]
def yT:ba where args:=[.list I,I];out:=.data [.bool];pre:=fun(x:List Int×Int×Unit)=>True;fn:=fun(x:List Int×Int×Unit)=>(dx x.1 x.2.1,())
def LS:iz where args:=[.aY I];outs:=[aaH];pre:=fun(x:Int×Unit)=>True;fn:=fun(x:Int×Unit)=>((max 0 (min x.1 40),[],[],[],[]),())
def Vx(b:ga)(e:Int):Prop:=∀x∈b.2.1,∀y∈b.2.1,dx x.2 e=true->dx y.2 e=true->x.1=y.1
def X3(o:Option (Int×List Int)):Int:=match o with|some x=>x.1|none=>-1
@[irreducible]def Hn(b:ga)(e:Int):Int:=X3 (b.2.1.find? fun x=>dx x.2 e)
def LR:iz where args:=[.aY (.ptr fT)];outs:=[Uy];pre:=fun(x:Option aO×Unit)=>True;fn:=fun(x:Option aO×Unit)=>((x.1,[]),())
def DS(m:List (gj×Bool))(t:gj):Bool:=(cE AH m t).getD false
@[irreducible]def ZG(m:List (gj×Bool))(l:Int):Int:=bif DS m (l,1)then 1 else bif DS m (l,2)then 2 else 0
def RJ(ub:List Bool)(e:Int):Bool:=decide (0<=e)&&(decide (e<(ub.length:Int))&&ub.getD e.toNat false)
def ajO(n:aO)(l:Int)(ub:List Bool)(b:ga)(JG:Int)(k:Nat):Bool:=(Nq n (k:Int)).1==l&&((RJ ub (k:Int)&&!((k:Int)==JG))||decide (0<=Hn b (k:Int)))
@[irreducible]def ab0(n:aO)(l:Int)(ub:List Bool)(b:ga)(JG:Int):Bool:=!bT (ajO n l ub b JG) n.1.1.length
def Rh(b:ga):Prop:=∀e,Vx b e
def aab(n:aO)(s:Int):Int:=bif(uq n.1 s).2 then(uq n.1 s).1.1 else-1
def XD(t:yJ)(ub:List Bool)(b:ga)(JG:Int)(w:gj):Bool:=!(ZG t.2 w.1==0)&&(!(ZG t.2 w.1==w.2)&&!ab0 (aQ t.1) w.1 ub b JG)
@[irreducible]def agp(t:yJ)(r:aK)(ub:List Bool)(b:ga):Int:=bif(Ny (aQ t.1) r).any (XD t ub b (aab (aQ t.1) r.1))then 8 else 0
def aaT(m:List (gj×Bool))(w:gj):List (gj×Bool):=gx AH (rC AH m (w.1,3-w.2)) w true
def uB(m:List (gj×Bool))(l:List gj):Nat->List (gj×Bool)|0=>m|k+1=>aaT (uB m l k) (l.getD k zT)
theorem ahU(xs:List Int)(v:Int):aj (aq aP []) Tryz.f184 Lp (aak (xs,v,())) (xs,v,())=( U (iS (fun(y:Int)=>v==y) xs) fun(y2:Int)=>(∃(ji:Nat),(ji<=xs.length/\((List.take ji xs).any fun(y:Int)=>v==y)=false)/\(ji:Int)=(0:Int)/\xs=xs/\v=v/\(xs.length:Int)=(xs.length:Int)/\True)/\∀(s3:Nat),U (decide ((s3:Int)<(xs.length:Int))) fun(y4:Bool)=>U (v==xs.getD (s3:Int).toNat (0:Int)) fun(y5:Bool)=>s3<=xs.length/\((List.take s3 xs).any fun(y:Int)=>v==y)=false->(y4=true->bF (s3:Int) xs.length/\(y5=true->(s3:Int)=y2/\True)/\(y5=false->bJ IntKind.i64 ((s3:Int)+(1:Int))/\∃(lH:Nat),(lH<=xs.length/\((List.take lH xs).any fun(y:Int)=>v==y)=false)/\xs.length-lH<xs.length-s3/\(lH:Int)=(s3:Int)+(1:Int)/\xs=xs/\v=v/\(xs.length:Int)=(xs.length:Int)/\True))/\(y4=false->(-1:Int)=y2/\True)):=by kernel_rfl
theorem alK(xs:List Int)(v:Int)(hw:xs.length<=bA):aj (aq aP []) Tryz.f184 Lp (aak (xs,v,())) (xs,v,()):=by rw[ahU];refine U.mk fun y2 e2=>?_;simp only[cb,aU,eq_self];refine⟨⟨0,⟨by omega,by simp⟩,by omega⟩,fun s=>U.mk fun y4 e4=>U.mk fun y5 e5=>?_⟩;rintro⟨h1,h2⟩;rw[aw]at e5;refine⟨fun hs=>?_,fun hs=>?_⟩;(·have hs:=cV e4 hs;refine⟨⟨by omega,by omega⟩,fun e=>?_,fun e=>⟨fK hs hw,s+1,⟨by omega,?_⟩,by omega,by omega⟩⟩;all_goals grind[xy,any_succ]);rw[e2];exact tr (s:=s) (ek e4 hs) h2
theorem ael:aL Tryz.prog 184 Lp:=aL.cu (l:=[]) (A:=aak) aM trivial Tryz.func184 (by rfl) (by rfl) fun x hw hp=>alK x.1 x.2.1 hw.1.1
theorem aie(xs:List Int)(v:Int):aj (aq aP [(184,Lp)]) Tryz.f144 yT ax (xs,v,())=( U (iS (fun(y:Int)=>v==y) xs) fun(y2:Int)=>True/\decide (y2>=(0:Int))=dx xs v/\True):=by kernel_rfl
theorem alY(xs:List Int)(v:Int):aj (aq aP [(184,Lp)]) Tryz.f144 yT ax (xs,v,()):=by rw[aie];simp[U.mk,nE,dx,oI]
theorem Rx:aL Tryz.prog 144 yT:=aL.cu (l:=[(184,Lp)]) (A:=fun _=>ax) aM ⟨ael,trivial⟩ Tryz.func144 (by rfl) (by rfl) fun x hw hp=>alY x.1 x.2.1
theorem aiJ(n:Int):fv (aq aP []) Tryz.f100 LS ax (n,())=( max (0:Int) (min n (40:Int))=max (0:Int) (min n (40:Int))/\([]:List (Int×List Int)).Perm []/\([]:List (Int×List Int)).Perm []/\([]:List (Int×List dA)).Perm []/\([]:List (Int×List dA)).Perm []/\True):=by kernel_rfl
theorem afj:lq Tryz.prog 100 LS:=lq.cu (l:=[]) (A:=fun _=>ax) aM trivial Tryz.func100 (by rfl) (by rfl) fun x hw hp=>by obtain⟨n,⟨⟩⟩:=x;show fv (aq aP []) Tryz.f100 LS ax (n,());rw[aiJ];simp
theorem aiI(n:Option (aO)):fv (aq aP []) Tryz.f101 LR ax (n,())=( n=n/\([]:List (gj×Bool)).Perm []/\True):=by kernel_rfl
theorem afi:lq Tryz.prog 101 LR:=lq.cu (l:=[]) (A:=fun _=>ax) aM trivial Tryz.func101 (by rfl) (by rfl) fun x hw hp=>by obtain⟨n,⟨⟩⟩:=x;show fv (aq aP []) Tryz.f101 LR ax (n,());rw[aiI];simp
def KS(p:ab)(y:ai):Prop:=∃x,(aD p x).2=true/\y=(aD p x).1
structure Kept (p:ab) (Q:aX->Prop):Prop where
 vb:∀s,Q s->s.1=p
 bare:∀s,Q s->Q (Cm s)
 zd:∀s (y:ai),Q s->KS p y->tO (u5 s) y.1=false->dx (fG s) y.1=false->(fG s).length<12->Q (XN s (fG s++[y.1]))
 hold:∀s z,Q s->Q (HP s z)
 met:∀s m,Q s->Q (gm s m)
 guard:∀s (y:ai),Q s->KS p y->tO (u5 s) y.1=false->ay p y.1=2->(y.2==0)=false->db (cm s) (y.1,y.2)=false->db (cm s) (y.1,3 - y.2)=false->
  Q (G5 s (cm s++[(y.1,3 - y.2)]))
def still(p:ab)(r:aK)(s:aX):Prop:=s.1=p/\s.2.1=r.1/\s.2.2.1=r.2.1/\s.2.2.2.1=r.2.2.1/\hU s=r.2.2.2.1/\eQ s=r.2.2.2.2.1
structure Qr (p:ab):Prop where
 ak9:eD p=true
 check:bB p=0
 short:dw p
 made:ZC p=some (gz p)
 len:(l6 p).1.length<=64
 acA:∀r∈(l6 p).1,∃q∈(jg p).1,r=qA p q
theorem xh{p:ab}(h:(l6 p).2=true):Qr p:=by
 have hf:eD p=true:=by grind[l6]
 obtain⟨_,hc,hl⟩:=kp hf;have hR:(l6 p).1=(dP p).1.2/\(dP p).2=0:=by unfold l6 at h⊢;grind
 have ha:(jg p).2=0:=by have hb:=hR.2;unfold dP at hb;grind
 have hB:(l6 p).1=(jg p).1.map (qA p):=by grind[dP]
 refine⟨hf,hc,hl,?_,?_,fun r hr=>?_⟩;all_goals grind[ZC,JP]
def DE(ts:List Ty):ba where args:=ts;out:=.data [.bool];pre _:=True;fn _:=(true,())
def agw(x y:dA):Bool:=x.1==y.1&&!(x.2==y.2)
def Q6(r:aK):Prop:=r.2.2.2.1.length<=1000/\r.2.2.2.2.1.length<=1000/\r.2.2.2.2.2.1.length<=1000
@[irreducible]def qR(r:aK):List dA:=r.2.2.2.2.1++r.2.2.2.2.2.1
theorem Ww(p:ab)(x:ai):x∈cK p↔∃j∈p.2.1,x=j.1\/x=j.2:=by grind[cK]
def Oz(s:eA):ai:=(s.1,s.2.2)
def abp(s:eA):ai:=(s.1,s.2.1)
def AN(l:List eA)(t:Nat):eA:=l.getD t qE
def chained(p:ab)(l:List eA):Prop:=∀t,t+1<l.length->aD p (Oz (AN l t))=(abp (AN l (t+1)),true)
def aa0(p:ab)(s:eA):Prop:=ay p s.1=4\/∃w∈ck p s.1 s.2.1,w.1=s.2.2
def abd(p:ab)(l:List eA)(n:dA):Prop:=(∃s∈l,s.1=n.1)/\(n.2=1\/n.2=2)
structure Run (p:ab) (q:aK):Prop where
 chain:chained p q.2.2.2.1
 nodup:(q.2.2.2.1.map Prod.fst).Nodup
 pass:∀s∈q.2.2.2.1,aa0 p s
 ap7:∀n∈q.2.2.2.2.1,abd p q.2.2.2.1 n
 once:(q.2.2.2.2.1.map Prod.fst).Nodup
structure ap3 (p:ab) (q:aK) (x:ai) (met:List Int):Prop where
 run:Run p q
 last:q.2.2.2.1.length≠0->aD p (Oz (AN q.2.2.2.1 (q.2.2.2.1.length - 1)))=(x,true)
 met:∀s∈q.2.2.2.1,s.1∈met
theorem Vu{p:ab}{e i:Int}{w:Int×Int}(hw:w∈ck p e i):w.2=0\/w.2=1\/w.2=2:=by(have hh:ew p (e,i)=true:=by grind[ck]);unfold ck at hw;rw[hh]at hw;cases h1:ay p e==1 with|true=>grind|false=>rw[h1]at hw;cases h3:ay p e==3 with|true=>grind|false=>rw[h3]at hw;cases h2:ay p e==2 with|false=>grind|true=>rw[h2]at hw;cases h0:(i==0)with|true=>grind|false=>rw[h0]at hw;have hw:=aN.1 hw;have hk:=eq_of_beq h2;unfold ew at hh;rw[hk,show ez 2=3 by grind[ez]]at hh;grind
structure Row (p:ab) (C:Nat->ai) (m:Nat):Prop where
 anv:∀k,k<m->ay p (C k).1=1
 ends:∀k,k<m->(C k).2=0\/(C k).2=1
 next:∀k,k+1<m->aD p ((C k).1,1 - (C k).2)=(C (k+1),true)
 apart:∀j k,j<m->k<m->(C j).1=(C k).1->j=k
def Ci(l:List Int)(j:Nat):List Int:=(l.set (j+1) (l.getD j 0)).set j (l.getD (j+1) 0)
def zZ:Nat->List Int->List Int|0,l=>l|j+1,l=>bif decide (l.getD (j+1) 0<l.getD j 0)then zZ j (Ci l j)else l
def sn(l:List Int):Nat->List Int|0=>l|k+1=>zZ k (sn l k)
def Kc(a b:Int):Bool:=decide (a<=b)
def Uk:iz where args:=[.row 3 I];outs:=[];pre:=fun(x:List Int×Unit)=>x.1.length<=1000000;fn:=fun _=>();kF:=fun(x:List Int×Unit)=>(sn x.1 x.1.length,x.2)
def P3:ba where args:=[.list n6];out:=.row 219 n6;pre:=fun(x:List dA×Unit)=>lz x.1;fn:=fun(x:List dA×Unit)=>(x.1,())
def ON{α:Type}(m:List (Int×List α))(o:Int):List α:=(cE I m o).getD []
structure Tb (b:ga):Prop where
 steps:∀x∈b.2.1,x.2.length<=1000
 zd:∀x∈b.2.2.1,x.2.length<=1000
 Yr:∀x∈b.2.2.2.1,x.2.length<=1000
 guards:∀x∈b.2.2.2.2,x.2.length<=1000
 aa1:b.2.1.length<=1000/\b.2.2.1.length<=1000/\b.2.2.2.1.length<=1000
def bIn(b:ga)(e:Int):Bool:=decide (0<=e)&&decide (e<b.1)
@[irreducible]def ZF(b:ga)(o:Int):Bool:=decide (((ON b.2.1 o).length:Int)+((ON b.2.2.1 o).length:Int)+((ON b.2.2.2.2 o).length:Int)>0)
def XE(b:ga)(r:aK)(i:Nat):Bool:=bIn b (AN r.2.2.2.1 i).1&&!bT (fun j=>(AN r.2.2.2.1 j).1==(AN r.2.2.2.1 i).1) i
def Xs(b:ga)(r:aK)(e:Int):Bool:=bIn b e&&!dx (o3 r) e
def Dt(r:aK)(i:Nat):dA:=(qR r).getD i (0,0)
def Ys(b:ga)(r:aK)(i:Nat):Bool:=bIn b (Dt r i).1&&(((Dt r i).2==1||(Dt r i).2==2)&&!bT (fun j=>agw (Dt r j) (Dt r i)) i)
@[irreducible]def TW(b:ga)(r:aK):Bool:=!decide (r.2.2.2.1.length=0)&&(fZ (XE b r) r.2.2.2.1.length&&(r.2.2.2.2.2.2.1.all (Xs b r)&&fZ (Ys b r) (r.2.2.2.2.1.length+r.2.2.2.2.2.1.length)))
def Kx(e:Int)(l:List (Int×List Int)):List Int:=(l.filter fun x=>dx x.2 e).map fun x=>x.1
@[irreducible]def abY(b:ga)(e:Int):List Int:=sn (Kx e b.2.2.1) (Kx e b.2.2.1).length
def Wp(b:ga)(e:Int):Prop:=b.2.2.1.length<=1000
def Yq(b:ga)(o:Int):List dA:=ON b.2.2.2.1 o++ON b.2.2.2.2 o
def Hk(b:ga)(o e:Int):Option dA:=(Yq b o).find? fun x=>x.1==e
def holds(b:ga)(e:Int)(x:Int×List dA):Bool:=(Hk b x.1 e).isSome
def X1(b:ga)(e:Int)(l:List (Int×List dA)):Int:=match l.find? (holds b e)with|some x=>((Hk b x.1 e).getD (0,0)).2|none=>0
@[irreducible]def ZE(b:ga)(e:Int):Int×Int:=(X1 b e b.2.2.2.1,((b.2.2.2.1.filter (holds b e)).length:Int))
def Zm(b:ga)(e:Int):Prop:=∀x∈b.2.2.2.1,∀y∈b.2.2.2.1,∀u v,Hk b x.1 e=some u->Hk b y.1 e=some v->u.2=v.2
def HI(b:ga)(s:eA):Bool:=decide (0<=Hn b s.1)||decide (0<(abY b s.1).length)
def Pg(b:ga)(x:dA):Bool:=!((ZE b x.1).1==0)&&!((ZE b x.1).1==x.2)
@[irreducible]def agq(b:ga)(o:Int)(r:aK):Int:=bif decide (o<0)||(ZF b o||!TW b r)then 1 else bif r.2.2.2.1.any (HI b)then 14 else bif r.2.2.2.2.2.2.1.any (fun e=>decide (0<=Hn b e))then 14 else bif(qR r).any (Pg b)then 15 else 0
structure amz (b:ga):Prop where
 small:Tb b
 aa1:Rh b
 held:∀e,Zm b e
 Nx:∀e,Wp b e
theorem Ch(l:List Int)(j:Nat):(Ci l j).length=l.length:=by grind[Ci]
theorem K0:∀(j:Nat)(l:List Int),(zZ j l).length=l.length|0,_=>rfl|j+1,l=>by unfold zZ;cases decide (l.getD (j+1) 0<l.getD j 0)with|true=>rw[cond_true,K0 j,Ch]|false=>rfl
theorem uY(l:List Int):∀(k:Nat),(sn l k).length=l.length|0=>rfl|k+1=>by show(zZ k (sn l k)).length=_;rw[K0,uY l k]
theorem N7:∀(j:Nat)(l:List Int),j+1<l.length->(Ci l j).Perm l|_,[],h=>by rfl|0,[x],h=>by grind|0,x::y::l,_=>by show(y::x::l).Perm _;grind|j+1,x::l,h=>by grind[Ci]
theorem IH:∀(j:Nat)(l:List Int),j<l.length->(zZ j l).Perm l|0,l,_=>.refl l|j+1,l,h=>by unfold zZ;cases decide (l.getD (j+1) 0<l.getD j 0)with|true=>rw[cond_true];exact(IH j _ (by rw[Ch];omega)).trans (N7 j l h)|false=>rfl
theorem vV(l:List Int):∀(k:Nat),k<=l.length->(sn l k).Perm l|0,_=>.refl l|k+1,h=>(IH k _ (by grind[uY])).trans (vV l k (by omega))
theorem Bl(l:List Int)(j:Nat)(h:j+1<l.length)(i:Nat):(Ci l j).getD i 0=if i=j then l.getD (j+1) 0 else if i=j+1 then l.getD j 0 else l.getD i 0:=by unfold Ci;grind
structure aaC (l:List Int) (j K:Nat):Prop where
 rest:∀a b,a<b->b<K->a≠j->b≠j->l.getD a 0<=l.getD b 0
 lt:∀b,j<b->b<K->l.getD j 0<l.getD b 0
theorem DN:∀(j K:Nat)(l:List Int),j<K->K<=l.length->aaC l j K->∀a b,a<b->b<K->(zZ j l).getD a 0<=(zZ j l).getD b 0|0,K,l,_,_,hi,a,b,DT,hb=>by show l.getD a 0<=l.getD b 0;by_cases h:a=0;subst h;exact Int.le_of_lt (hi.lt b (by omega) hb);exact hi.rest a b DT hb h (by omega)|j+1,K,l,hj,hK,hi,a,b,DT,hb=>by unfold zZ;cases h:decide (l.getD (j+1) 0<l.getD j 0)with|true=>have h:=ar h;rw[cond_true];refine DN j K _ (by omega) (by grind[Ch]) ⟨fun a b DT hb h1 h2=>?_,fun b h1 hb=>?_⟩ a b DT hb;rw[Bl l j (by omega),Bl l j (by omega),if_neg h1,if_neg h2];by_cases h3:a=j+1;rw[if_pos h3,if_neg (by omega)];exact hi.rest j b (by omega) hb (by omega) (by omega);rw[if_neg h3];by_cases h4:b=j+1;rw[if_pos h4];exact hi.rest a j (by omega) (by omega) h3 (by omega);rw[if_neg h4];exact hi.rest a b DT hb h3 h4;rw[Bl l j (by omega),Bl l j (by omega),if_pos rfl,if_neg (by omega)];by_cases h4:b=j+1;omega;rw[if_neg h4];exact hi.lt b (by omega) hb|false=>(have h:l.getD j 0<=l.getD (j+1) 0:=by grind);rw[cond_false];by_cases h3:a=j+1;subst h3;exact Int.le_of_lt (hi.lt b DT hb);by_cases h4:b=j+1;subst h4;by_cases h5:a=j;grind;exact Int.le_trans (hi.rest a j (by omega) (by omega) h3 (by omega)) h;exact hi.rest a b DT hb h3 h4
theorem BC(l:List Int):∀(k:Nat),k<=l.length->∀a b,a<b->b<k->(sn l k).getD a 0<=(sn l k).getD b 0|0,_,a,b,_,hb=>by omega|k+1,h,a,b,DT,hb=>by show(zZ k (sn l k)).getD a 0<=_;refine DN k (k+1) _ (by omega) (by grind[uY]) ⟨fun a b DT hb h1 h2=>?_,fun b h1 h2=>by omega⟩ a b DT hb;exact BC l k (by omega) a b DT (by omega)
theorem RZ(a b c:Int)(h1:Kc a b=true)(h2:Kc b c=true):Kc a c=true:=by unfold Kc at*;grind
theorem R0(a b:Int):(Kc a b||Kc b a)=true:=by unfold Kc;grind
theorem VK{l m:List Int}(hp:m.Perm l)(hs:m.Pairwise fun a b=>a<=b):m=l.mergeSort Kc:=by refine List.Perm.eq_of_pairwise (le:=fun a b:Int=>a<=b) (fun a b _ _ h1 h2=>by omega) hs ?_ (hp.trans (List.mergeSort_perm l Kc).symm);exact(List.pairwise_mergeSort RZ R0 l).imp fun h=>ar h
theorem Mh(l:List Int):sn l l.length=l.mergeSort Kc:=by refine VK (vV l _ (aZ _)) ?_;rw[List.pairwise_iff_getElem];intro a b ha hb DT;have:=BC l l.length (aZ _) a b DT (by grind[uY]);grind
end YtjfjmpkibcmnpaaGreat
end Go.Proofs
namespace Go.Vc
open Go Go.Sort Go.RowKit
theorem Vn{w:World}{b e n:Nat}{vs:Array Value}{fr:Nat×Nat}{os:Array Obj}{zs:List Int}(h:w.heap[b]?=some (.cells vs e fr)):(grow (putRow (Value.int .i64) (Sort.ahead w n) b 0 zs.toArray) os).heap[b]?=some (.cells (putCells (Value.int .i64) 0 zs.toArray vs) e fr):=by have ml:=gq h;show((w.heap.modify b _)++os)[b]?=_;rw[Array.getElem?_append_left (by grind),Array.getElem?_modify,if_pos rfl,h];rfl
theorem KN{w:World}{b n:Nat}{os:Array Obj}{zs:List Int}:sj (fun k=>k=b) w (grow (putRow (Value.int .i64) (Sort.ahead w n) b 0 zs.toArray) os)where os:=rfl;tape:=rfl;output:=rfl;size:=(by simp);block k hk mW:=by show((w.heap.modify b _)++os)[k]?=_;grind
theorem HX{E:Env}{w:World}{p:Place}{e:Nat}{xs:List Int}(h:nI E w p false e (.int .i64) xs):Holds (Value.int .i64) w p.bm 0 xs.toArray:=by obtain⟨h0,⟨h1,h2⟩,vs,h3,h4,_,h5⟩:=h;intro j hj;(have hj:j<xs.length:=by omega);obtain⟨us,k1,k2,k3⟩:=h5 j xs[j] (ah hj);have k1:us=[.int .i64 xs[j]]:=k1.1;subst k1;have k3:=k3 0 _ rfl;have k3:vs[j*1+0]?=some (.int .i64 xs[j]):=k3;rw[Nat.mul_one,Nat.add_zero]at k3;refine⟨?_,?_⟩;unfold World.cell?;grind;grind[World.frozen?]
theorem Om{F:Mem}{w:World}{p:Place}{e n:Nat}{xs zs ys:List Int}{os:Array Obj}(h:nI ⟨F,fun _=>none⟩ w p false e (.int .i64) xs)(hz:zs.length=xs.length)(hy:ys.length<=zs.length)(GH:∀i,i<ys.length->ys[i]?=zs[i]?)(hr:∀y∈ys,bJ .i64 y):nI ⟨F,fun _=>none⟩ (grow (putRow (Value.int .i64) (Sort.ahead w n) p.bm 0 zs.toArray) os) ⟨p.nil,p.bm,p.cap,ys.length⟩ false e (.int .i64) ys:=by obtain⟨h0,⟨h1,h2⟩,vs,h3,h4,_,h5⟩:=h;have h4:vs.size=p.cap*1:=h4;refine⟨h0,⟨rfl,by grind⟩,_,Vn h3,?_,(fun h=>by cases h),fun i x hx=>?_⟩;grind[putCells];have hi:=(bU.1 hx).1;rw[GH i hi]at hx;obtain⟨hi2,hx2⟩:=bU.1 hx;have hm:x∈ys:=List.mem_of_getElem? (by rw[GH i hi];exact hx);refine⟨[.int .i64 x],⟨rfl,hr x hm⟩,rfl,fun j u hu=>?_⟩;(have hj:j=0:=by grind);subst hj;(have hu:Value.int .i64 x=u:=by grind);show(putCells _ 0 zs.toArray vs)[i*1+0]?=some u;rw[<-hu,Nat.mul_one,Nat.add_zero];grind[putCells]
theorem Oo{E:Env}{w:World}{p:Place}{e:Nat}{xs:List Int}(h:nI E w p false e (.int .i64) xs):∀x∈xs,bJ .i64 x:=by obtain⟨_,_,vs,_,_,_,h5⟩:=h;intro x hx;obtain⟨i,hi,rfl⟩:=List.mem_iff_getElem.1 hx;obtain⟨us,k1,_⟩:=h5 i _ (ah hi);exact k1.2
theorem lq.XH{P:Program}{f e:Nat}{fn:Func}{code:Code}{L:Nat}{g:List Int->List Int}(hf:P.funcs[f]?=some fn)(hn:(fn.name=="runtime.NumGoroutine")=false)(hb:fn.body=some code)(hg:∀l,(g l).Perm l)(hL:L<4611686018427387904)(h0:∀w,Calls P f #[.slice none 0 0] w fun e w'=>e=.returned (.tuple #[])/\w'=w)(h1:∀(bm cap:Nat)(zs:List Int)(w:World),Holds (Value.int .i64) w bm 0 zs.toArray->bm<w.heap.size->zs.length<=L->Calls P f #[.slice (some ⟨bm,0,none⟩) zs.length cap] w fun e w'=>e=.returned (.tuple #[])/\∃n os,w'=grow (putRow (Value.int .i64) (Sort.ahead w n) bm 0 (g zs).toArray) os){pre:(cC [.row e (.int .i64)]).den->Prop}(nH:∀x,pre x->(x.1:List Int).length<=L):lq P f {args:=[.row e (.int .i64)],outs:=[],pre:=pre,fn:=fun _=>(),kF:=fun x=>(g x.1,x.2)}where fn:=⟨fn,code,hf,hn,hb⟩;okA o ho:=(by rw[aN.1 ho];rfl);X6:=rfl;calls F w x vs pl hF hx hs IN Kk hp CG:=by obtain⟨v,us,rfl,⟨qO,_⟩,rfl⟩:=hs;obtain⟨us,ws,p0,q0,h2,rfl,⟨p,v',rfl,rfl,hv,hB⟩,rfl,rfl⟩:=hx;(have YP:ij [v]=[v]:=by grind[ij]);rw[YP]at h2⊢;(have e2:v=v':=by grind);subst e2;have hlen:=nH x hp;show Calls P f #[v] w _;rcases hv with⟨xt,rfl,Br⟩|⟨yu,rfl,Wa,Kh⟩;(·(have GJ:(x.1:List Int)=[]:=by rcases hB with⟨_,h,_⟩|⟨h,_⟩;all_goals grind);(have hg0:g x.1=[]:=by rw[GJ];exact(hg []).eq_nil);refine(h0 w).mono fun e' w'⟨he,hw⟩=>?_;subst hw;refine⟨_,F,[],_,.nil,he,.refl _,hF,fun b o h=>.inl h,.refl _ _,rfl,rfl,⟨rfl,rfl⟩,⟨.row p,.nil,.row p,.nil,rfl,rfl,rfl,⟨p,_,rfl,rfl,.inl ⟨xt,rfl,Br⟩,.inl ⟨xt,hg0,Br⟩⟩,fun _=>rfl⟩,?_,fun q hq Fc=>?_,fun h=>(by cases h)⟩;all_goals grind[PT.list]);·(have hB:nI ⟨F,fun _=>none⟩ w p false e (.int .i64) x.1:=by rcases hB with⟨h,_⟩|⟨_,h⟩;all_goals grind);have IK:(x.1:List Int).length=p.len:=hB.2.1.1;obtain⟨_,_,cs,hc,_⟩:=id hB;have GU:=h1 p.bm p.cap x.1 w (HX hB) (gq hc) hlen;rw[IK]at GU;refine GU.mono fun e' w'⟨he,n,os,hw⟩=>?_;subst hw;have hgl:=(hg x.1).length_eq;have Ff:kZ (PT.pair (.row p) .nil).list p.bm:=⟨p,by simp[PT.list],yu,rfl⟩;(have hk:sj (kZ (PT.pair (.row p) .nil).list) w (grow (putRow (Value.int .i64) (Sort.ahead w n) p.bm 0 (g x.1).toArray) os):=by have:=KN (w:=w) (b:=p.bm) (n:=n) (os:=os) (zs:=g x.1);exact⟨this.os,this.tape,this.output,this.size,fun k hk hf=>this.block k hk fun e=>hf (e▸Ff)⟩);refine⟨_,F,[],_,.nil,he,.refl _,fun b o hb=>?_,fun b o h=>.inl h,hk,rfl,rfl,⟨rfl,rfl⟩,⟨.row p,.nil,.row p,.nil,rfl,rfl,rfl,⟨p,_,rfl,rfl,.inr ⟨yu,rfl,Wa,Kh⟩,.inr ⟨yu,?_⟩⟩,fun _=>rfl⟩,?_,fun q hq Fc=>?_,fun h=>(by cases h)⟩;(·rw[hk.block b (gq (hF b o hb)) fun⟨q,hq,_,V7⟩=>?_];all_goals grind);have:=Om (n:=n) (os:=os) (zs:=g x.1) (ys:=g x.1) hB hgl (aZ _) (fun _ _=>rfl) (fun y hy=>Oo hB y ((hg x.1).mem_iff.1 hy));rw[show(⟨p.nil,p.bm,p.cap,(g x.1).length⟩:Place)=p by rw[hgl,IK]]at this;omega;all_goals grind[PT.list]
end Go.Vc
namespace Go.Proofs
namespace YtjfjmpkibcmnpaaGreat
open Go Go.Vc Go.Shelf
def MO:Go.Shelf.Ren:=⟨fun|189=>166|125=>199|257=>198|128=>213|129=>214|294=>204|295=>205|296=>206|297=>207|298=>208|299=>209|216=>210|300=>211|301=>212|328=>216|329=>217|330=>218|331=>219|332=>220|215=>221|343=>222|n=>n,fun|28=>28|3=>3|46=>276|0=>0|51=>290|53=>292|4=>4|183=>284|182=>283|131=>86|5=>5|9=>9|218=>294|222=>298|228=>300|229=>301|n=>n,fun|n=>n⟩
open Go Go.Vc
theorem aih(l:List (Int×Int)):aj (aq aP []) Tryz.f140 P3 ax (l,())=(∀(b1:Bool),(b1=true->l=[])->(b1=true->[]=l/\True)/\(b1=false->roomFor ((List.replicate (0:Nat) ((0:Int),(0:Int))).length+l.length) (16:Nat)/\List.replicate (0:Nat) ((0:Int),(0:Int))++l=l/\True)):=by kernel_rfl
theorem aeR:aL Tryz.prog 140 P3:=aL.cu (l:=[]) (A:=fun _=>ax) aM trivial Tryz.func140 (by rfl) (by rfl) fun x _ hp=>by obtain⟨l,u⟩:=x;rw[aih];exact fun b hb=>⟨fun h=>⟨(hb h).symm,trivial⟩,fun h=>⟨sN hp rfl (by decide),by simp⟩⟩
abbrev adA:=Int×List Int×List Int×List dA×List dA
abbrev Ht:=Int×List adA
structure amv (b:Ht):Prop where
 len:b.2.length<=1000
 Yr:∀h∈b.2,h.2.2.2.1.length<=1000/\h.2.2.2.2.length<=1000
def Dh(l:List Int)(n:Int):Nat:=(gr (fun i=>!decide (l.getD i 0<n)) l.length).getD l.length
@[irreducible]def ZB(l:List Int)(n:Int):List Int:=bif decide (Dh l n<l.length)&&l.getD (Dh l n) 0==n then l else l.take (Dh l n)++[n]++l.drop (Dh l n)
def Tn(l:List Int):Nat->List Int|0=>[]|k+1=>ZB (Tn l k) (l.getD k 0)
def Vp(p:ab):Prop:=bB p=0/\dw p
abbrev InT:Ty:=.pair (.list .bool) (.pair (.list I) (.pair (.list .bool) (.list .bool)))
abbrev Qu:=List Bool×List Int×List Bool×List Bool
@[irreducible]def Aj(pos:List Int)(e:Int):Int:=bif decide (0<=e)&&(decide (e<(pos.length:Int))&&(pos.getD e.toNat 0==1||pos.getD e.toNat 0==2))then pos.getD e.toNat 0 else 0
def Lu:ba where args:=[.list I,I];out:=.data [I];pre:=fun(x:List Int×Int×Unit)=>True;fn:=fun(x:List Int×Int×Unit)=>(Aj x.1 x.2.1,())
def tz:mY:=(0,0,false,[])
@[irreducible]def abZ(l:List mY)(i:Int):Int:=bif decide (i<0)||decide ((l.length:Int)<=i)then 0 else(l.getD i.toNat tz).1
def ago(p:ab)(ub:List Bool)(e:Int):Bool:=!(ay p e==4)&&RJ ub e
def Vj(r:aK):Prop:=Q6 r/\lz r.2.2.2.2.2.2.1
def oj(c:du)(i:Int):aK:=c.2.getD i.toNat zR
def ZR(c:du):Prop:=Vp c.1/\∀r∈c.2,Vj r
def agr(l:List mY)(i:Int):Bool:=decide ((l.length:Int)<=i)||(l.getD i.toNat tz).1==0
def Jj(p:ab)(ub:List Bool)(e:Int):Bool:=RJ ub e&&(decide ((p.1.length:Int)<=e)||!((p.1.getD e.toNat zE).2.1==4))
def ab1(pos:List Int)(n:dA):Bool:=decide (0<=n.1)&&(decide (n.1<(pos.length:Int))&&(pos.getD n.1.toNat 0==n.2&&!(n.2==0)))
def adR(c:du)(Yx:List mY)(k:Int)(r:aK)(i:Nat):Bool:=((i:Int)==k||(c.2.getD i zR).1==r.1)&&!agr Yx (i:Int)
def XF(p:ab)(ub:List Bool)(s:eA):Bool:=Jj p ub s.1
def Q9(p:ab)(CB:Qu)(x:dA):Bool:=!ab1 CB.2.1 x&&Jj p CB.1 x.1
theorem ah0(pos:List Int)(e:Int):aj (aq aP []) Tryz.f176 Lu ax (pos,e,())=( U (bif decide (e<(0:Int))then true else decide (e>=(pos.length:Int))) fun(y2:Bool)=>U (pos.getD e.toNat (0:Int)!=(1:Int)) fun(y3:Bool)=>U (bif y2 then true else bif y3 then pos.getD e.toNat (0:Int)!=(2:Int)else false) fun(y4:Bool)=>(y2=false->bF e pos.length)/\(y2=false->y3=true->bF e pos.length)/\(y4=true->(0:Int)=Aj pos e/\True)/\(y4=false->bF e pos.length/\pos.getD e.toNat (0:Int)=Aj pos e/\True)):=by kernel_rfl
theorem alN(pos:List Int)(e:Int):aj (aq aP []) Tryz.f176 Lu ax (pos,e,()):=by rw[ah0];refine U.mk fun y2 e2=>U.mk fun y3 e3=>U.mk fun y4 e4=>?_;(have vN:y2=false->bF e pos.length:=fun h=>by rw[e2]at h;obtain⟨k1,k2⟩:=NV h;have:=au k1;have:=au k2;exact⟨by omega,by omega⟩);(have hF:Aj pos e=bif y4 then 0 else pos.getD e.toNat 0:=by unfold Aj;grind);grind
theorem aes:aL Tryz.prog 176 Lu:=aL.cu (l:=[]) (A:=fun _=>ax) aM trivial Tryz.func176 (by rfl) (by rfl) fun x hw hp=>alN x.1 x.2.1
structure ahs (p:ab) (r:aK) (s:aX):Prop where
 still:still p r s
 each:∀g∈cm s,(g.2=1\/g.2=2)/\ay p g.1=2/\tO r g.1=false
 one:∀g∈cm s,∀h∈cm s,g.1=h.1->g.2=h.2
structure aaA (p:ab) (l:List dA):Prop where
 each:∀n∈l,(n.2=1\/n.2=2)/\0<=n.1/\n.1<(p.1.length:Int)
 one:∀m∈l,∀n∈l,m.1=n.1->m.2=n.2
theorem Gc{p:ab}{e:Int}(h:ay p e≠0):0<=e/\e<(p.1.length:Int):=by unfold ay at h;grind
@[irreducible]def eP(n:aO)(x:ai):ai×Bool:=((cE bj n.2.1 x).getD (0,0),(cE bj n.2.1 x).isSome)
@[irreducible]def jR(n:aO)(x:ai):Int:=bif(cE bj n.2.2.1 x).isSome then(cE bj n.2.2.1 x).getD 0 else-1
@[irreducible]def yx(n:aO)(e:Int):n9:=bif decide (e<0)||decide ((n.1.1.length:Int)<=e)then([],0,0)else n.1.1.getD e.toNat ([],0,0)
def qp:ba where args:=[.ref fT,bj];out:=.data [bj,.bool];pre:=fun(x:aO×ai×Unit)=>True;fn:=fun(x:aO×ai×Unit)=>((eP x.1 x.2.1).1,(eP x.1 x.2.1).2,())
def xF:ba where args:=[.ref fT,bj];out:=.data [I];pre:=fun(x:aO×ai×Unit)=>True;fn:=fun(x:aO×ai×Unit)=>(jR x.1 x.2.1,())
def JD:ba where args:=[.ref fT,I];out:=.data [FG];pre:=fun(x:aO×Int×Unit)=>True;fn:=fun(x:aO×Int×Unit)=>(yx x.1 x.2.1,())
def oH:ba where args:=[.ref fT,I];out:=.data [I];pre:=fun(x:aO×Int×Unit)=>True;fn:=fun(x:aO×Int×Unit)=>(ay x.1.1 x.2.1,())
def Au:ba where args:=[.ref fT,I,I];out:=.data [.list AF];pre:=fun(x:aO×Int×Int×Unit)=>True;fn:=fun(x:aO×Int×Int×Unit)=>(ck x.1.1 x.2.1 x.2.2.1,())
def Gv:ba where args:=[.ref fT,I,I,I];out:=.data [I,.bool];pre:=fun(x:aO×Int×Int×Int×Unit)=>True;fn:=fun(x:aO×Int×Int×Int×Unit)=>((bK x.1.1 x.2.1 x.2.2.1 x.2.2.2.1).1,(bK x.1.1 x.2.1 x.2.2.1 x.2.2.2.1).2,())
def aau(x:aO×Int×Int×Int×Unit):gb:=bP [(2,fun _=>ft (ck x.1.1 x.2.1 x.2.2.1).length (p8 (lM x.2.2.2.1) (ck x.1.1 x.2.1 x.2.2.1)) 17 [3,15,16] [])]
def P1:ba where args:=[.ref fT,I,I,I];out:=.data [I,.bool];pre:=fun(x:aO×Int×Int×Int×Unit)=>True;fn:=fun(x:aO×Int×Int×Int×Unit)=>((bK x.1.1 x.2.1 x.2.2.1 x.2.2.2.1).1,(bK x.1.1 x.2.1 x.2.2.1 x.2.2.2.1).2,())
def c51:ba where args:=[.ref fT];out:=.data [I];pre:=fun(x:aO×Unit)=>True;fn:=fun(x:aO×Unit)=>((x.1.1.2.2.1.length:Int),())
def SM:ba where args:=[.ref fT];out:=.data [PlanT];pre:=fun(x:aO×Unit)=>sR x.1.1;fn:=fun(x:aO×Unit)=>(x.1.1,())
abbrev UC:Ty:=.ln 200 (.pair (.ref I) .unit)
abbrev UD:Ty:=.ln 183 (.pair (.ref I) .unit)
def Lm:ba where args:=[nF,.ref I];out:=.data [.bool];pre:=fun(x:eA×Int×Unit)=>True;fn:=fun(x:eA×Int×Unit)=>(x.1.1==x.2.1,())
def PW:ba:=Lm
def fQ(e:Int)(s:eA):Bool:=s.1==e
def xG:ba where args:=[.list nF,UC];out:=.data [I];pre:=fun(x:List eA×(Int×Unit)×Unit)=>x.1.length<=1000;fn:=fun(x:List eA×(Int×Unit)×Unit)=>(iS (fQ x.2.1.1) x.1,())
def Fz(x:List eA×(Int×Unit)×Unit):gb:=bP [(2,fun _=>A5 (fQ x.2.1.1) x.1 8 [0,1,7])]
def A9:ba where args:=[.list nF,UC];out:=.data [.bool];pre:=fun(x:List eA×(Int×Unit)×Unit)=>x.1.length<=1000;fn:=fun(x:List eA×(Int×Unit)×Unit)=>(x.1.any (fQ x.2.1.1),())
def xH:ba where args:=[.list nF,UD];out:=.data [I];pre:=fun(x:List eA×(Int×Unit)×Unit)=>x.1.length<=1000;fn:=fun(x:List eA×(Int×Unit)×Unit)=>(iS (fQ x.2.1.1) x.1,())
def FA(x:List eA×(Int×Unit)×Unit):gb:=bP [(2,fun _=>A5 (fQ x.2.1.1) x.1 8 [0,1,7])]
def Bb:ba where args:=[.list nF,UD];out:=.data [.bool];pre:=fun(x:List eA×(Int×Unit)×Unit)=>x.1.length<=1000;fn:=fun(x:List eA×(Int×Unit)×Unit)=>(x.1.any (fQ x.2.1.1),())
def P2:ba where args:=[nG,I];out:=.data [.bool];pre:=fun(x:aK×Int×Unit)=>x.1.2.2.2.1.length<=1000;fn:=fun(x:aK×Int×Unit)=>(tO x.1 x.2.1,())
def Gu:ba where args:=[.list nF];out:=.row 216 nF;pre:=fun(x:List eA×Unit)=>lz x.1;fn:=fun(x:List eA×Unit)=>(x.1,())
abbrev ag7:Ty:=.pair I (.pair (.list nF) (.pair (.list I) (.list (.list AF))))
abbrev lL:=Int×List eA×List Int×List (List (Int×Int))
abbrev S7:eX:=.cells true (.pair (.aY I) (.pair (.row 216 nF) (.pair (.row 3 I) (.row 142 (.list AF)))))
@[irreducible]def Lb(p:lL)(e:Int):Bool:=decide (p.2.1.length<12)&&(!(e==p.1)&&!p.2.1.any (fQ e))
def PX:ba where args:=[.ref ag7,I];out:=.data [.bool];pre:=fun(x:lL×Int×Unit)=>x.1.2.1.length<=1000;fn:=fun(x:lL×Int×Unit)=>(Lb x.1 x.2.1,())
def tm(p:lL)(i:Nat):List dA:=bif p.2.2.1.getD i 0!=0 then[((p.2.1.getD i qE).1,p.2.2.1.getD i 0)]else[]
def iO(p:lL):Nat->List dA|0=>[]|k+1=>iO p k++tm p k
@[irreducible]def j7(p:lL)(s to stop:Int):aK:=(s,to,stop,p.2.1,iO p p.2.1.length,[],[],[],false)
def lA(p:lL):Prop:=p.2.1.length<=1000/\p.2.2.1.length=p.2.1.length/\p.2.2.2.length=p.2.1.length
def Lr:iz where args:=[S7,.aY I,.aY I,.aY I];outs:=[.aY nG];pre:=fun(x:lL×Int×Int×Int×Unit)=>lA x.1;fn:=fun(x:lL×Int×Int×Int×Unit)=>(j7 x.1 x.2.1 x.2.2.1 x.2.2.2.1,());kF:=fun(x:lL×Int×Int×Int×Unit)=>x
def aal(x:lL×Int×Int×Int×Unit):gb:=bP [(3,fun _=>{σ:=Nat,ok:=fun k=>k<=x.1.2.1.length,mu:=fun k=>x.1.2.1.length-k,sl:=fun k=>[(26,.one (.aY I (k:Int)))],bl:=fun k=>[(9,.cells [.aY I x.2.1,.aY I x.2.2.1,.aY I x.2.2.2.1,.row nF 1001,.row n6 1000,.lK,.lK,.lK,.aY .bool false]),(1001,.row false 216 nF x.1.2.1),(1000,.row false 219 n6 (iO x.1 k))],keep:=[0,8,9,24,25],dL:=[8,1000000,1000001,1000002,1000003]})]
@[irreducible]def Ai(p:lL)(n:aO)(x:ai):lL:=(p.1,p.2.1++[(x.1,x.2,-1)],p.2.2.1++[0],p.2.2.2++[ck n.1 x.1 x.2])
def Ls:iz where args:=[S7,.aY (.ref fT),.aY bj];outs:=[];pre:=fun(x:lL×aO×ai×Unit)=>lA x.1;fn:=fun(x:lL×aO×ai×Unit)=>();kF:=fun(x:lL×aO×ai×Unit)=>(Ai x.1 x.2.1 x.2.2.1,x.2)
@[irreducible]def o0(p:lL):lL:=(p.1,p.2.1.take (p.2.1.length-1),p.2.2.1.take (p.2.1.length-1),p.2.2.2.take (p.2.1.length-1))
def Lq:iz where args:=[S7];outs:=[];pre:=fun(x:lL×Unit)=>lA x.1/\0<x.1.2.1.length;fn:=fun(x:lL×Unit)=>();kF:=fun(x:lL×Unit)=>(o0 x.1,x.2)
theorem v117(n:aO)(x:Int×Int):aj (aq aP []) Tryz.f117 qp ax (n,x,())=( U (cE bj n.2.1 x) fun(y2:Option (Int×Int))=>y2.getD ((0:Int),(0:Int))=(eP n x).1/\y2.isSome=(eP n x).2/\True):=by kernel_rfl
theorem Cs:aL Tryz.prog 117 qp:=aL.cu (l:=[]) (A:=fun _=>ax) aM trivial Tryz.func117 (by rfl) (by rfl) fun x _ hp=>by obtain⟨n,y,u⟩:=x;rw[v117];simp[U.mk,eP]
theorem v61(n:aO)(x:Int×Int):aj (aq aP []) Tryz.f61 xF ax (n,x,())=( U (cE bj n.2.2.1 x) fun(y2:Option Int)=>(y2.isSome=true->y2.getD (0:Int)=jR n x/\True)/\(y2.isSome=false->(-1:Int)=jR n x/\True)):=by kernel_rfl
theorem Ic:aL Tryz.prog 61 xF:=aL.cu (l:=[]) (A:=fun _=>ax) aM trivial Tryz.func61 (by rfl) (by rfl) fun x _ hp=>by obtain⟨n,y,u⟩:=x;rw[v61];refine U.mk fun y2 e2=>?_;unfold jR;grind
theorem SD(n:aO)(e:Int):(yx n e).2.1=ay n.1 e:=by grind[yx,ay]
theorem aiz(n:aO)(e:Int):aj (aq aP []) Tryz.f115 JD ax (n,e,())=( U (bif decide (e<(0:Int))then true else decide (e>=(n.1.1.length:Int))) fun(y2:Bool)=>(y2=true->([],(0:Int),(0:Int))=yx n e/\True)/\(y2=false->bF e n.1.1.length/\n.1.1.getD e.toNat ([],(0:Int),(0:Int))=yx n e/\True)):=by kernel_rfl
theorem amb(n:aO)(e:Int):aj (aq aP []) Tryz.f115 JD ax (n,e,()):=by rw[aiz];refine U.mk fun y2 e2=>?_;(have key:y2=(decide (e<0)||decide ((n.1.1.length:Int)<=e)):=by grind);unfold yx;rw[<-key];refine⟨fun h=>?_,fun h=>?_⟩;grind;rw[h];rw[h]at key;have:=aG.1 key.symm;have h1:=au this.1;have h2:=au this.2;exact⟨⟨by omega,by omega⟩,rfl,trivial⟩
theorem Yk:aL Tryz.prog 115 JD:=aL.cu (l:=[]) (A:=fun _=>ax) aM trivial Tryz.func115 (by rfl) (by rfl) fun x _ hp=>amb x.1 x.2.1
theorem v92(n:aO)(e:Int):aj (aq aP [(115,JD)]) Tryz.f92 oH ax (n,e,())=( True/\(yx n e).2.1=ay n.1 e/\True):=by kernel_rfl
theorem wa:aL Tryz.prog 92 oH:=aL.cu (l:=[(115,JD)]) (A:=fun _=>ax) aM ⟨Yk,trivial⟩ Tryz.func92 (by rfl) (by rfl) fun x _ hp=>by obtain⟨n,e,u⟩:=x;rw[v92];simp[SD]
theorem ah3(n:aO)(e:Int)(i:Int):aj (aq aP [(92,oH),(171,wC)]) Tryz.f170 Au ax (n,e,i,())=( U (bif decide (i<(0:Int))then true else decide (i>=ez (ay n.1 e))) fun(y3:Bool)=>U (ay n.1 e==(1:Int)) fun(y4:Bool)=>U (ay n.1 e==(3:Int)) fun(y5:Bool)=>U [(1:Int),(0:Int),(3:Int),(2:Int)] fun(y6:List Int)=>U (ay n.1 e==(2:Int)) fun(y7:Bool)=>U [(0:Int),(1:Int),(2:Int)] fun(y8:List Int)=>(decide (i<(0:Int))=false->True)/\(decide (i<(0:Int))=false->True)/\(y3=true->[]=ck n.1 e i/\True)/\(y3=false->True/\(y4=true->bJ IntKind.i64 ((1:Int)-i)/\(List.replicate (1:Nat) ((0:Int),(0:Int))).set (0:Nat) ((1:Int)-i,(0:Int))=ck n.1 e i/\True)/\(y4=false->(y5=true->[(0:Int),(0:Int),(0:Int),(0:Int)].length=(4:Nat)/\(bF i (4:Nat)/\y6.length=(4:Nat))/\(List.replicate (1:Nat) ((0:Int),(0:Int))).set (0:Nat) (y6.getD i.toNat (0:Int),(0:Int))=ck n.1 e i/\True)/\(y5=false->(y7=true->((i==(0:Int))=true->((List.replicate (2:Nat) ((0:Int),(0:Int))).set (0:Nat) ((1:Int),(1:Int))).set (1:Nat) ((2:Int),(2:Int))=ck n.1 e i/\True)/\((i==(0:Int))=false->bF i y8.length/\(List.replicate (1:Nat) ((0:Int),(0:Int))).set (0:Nat) ((0:Int),y8.getD i.toNat (0:Int))=ck n.1 e i/\True))/\(y7=false->[]=ck n.1 e i/\True))))):=by kernel_rfl
theorem Vv{p:ab}{e i:Int}(h:(bif decide (i<0)then true else decide (i>=ez (ay p e)))=true):ck p e i=[]:=by(have hh:ew p (e,i)=false:=by cases hc:ew p (e,i)with|false=>rfl|true=>obtain⟨⟨h1,h2⟩,h3,h4⟩:=ot hc;grind);grind[ck]
theorem Vs{p:ab}{e i:Int}(h:(bif decide (i<0)then true else decide (i>=ez (ay p e)))=false):ew p (e,i)=true/\0<=i/\i<ez (ay p e):=by grind[ez,Gc,ew]
theorem alS(n:aO)(e i:Int):aj (aq aP [(92,oH),(171,wC)]) Tryz.f170 Au ax (n,e,i,()):=by
 rw[ah3];refine U.mk fun y3 e3=>U.mk fun y4 e4=>U.mk fun y5 e5=>U.mk fun y6 e6=>U.mk fun y7 e7=>U.mk fun y8 e8=>⟨fun _=>trivial,fun _=>trivial,fun h=>⟨?_,trivial⟩,fun h=>?_⟩;grind[Vv];obtain⟨hh,h0,hE⟩:=Vs (by rw[<-e3];exact h);have e1:ez 1=2:=by grind[ez]
 have e2:ez 2=3:=by grind[ez]
 have Ft:ez 3=4:=by grind[ez]
 refine⟨trivial,fun h1=>?_,fun h1=>⟨fun h3=>?_,fun h3=>⟨fun h2=>⟨fun hi=>?_,fun hi=>?_⟩,fun h2=>?_⟩⟩⟩;rw[e4]at h1;have hk:=eq_of_beq h1;rw[hk,e1]at hE;refine⟨bI (by omega) (by omega),?_,trivial⟩;grind[ck];rw[e4]at h1;rw[e5]at h3;have hk:=eq_of_beq h3;rw[hk,Ft]at hE;refine⟨rfl,⟨⟨by omega,by omega⟩,by grind⟩,?_,trivial⟩;unfold ck;rw[hh,h1,h3,e6];have hi:i=0\/i=1\/i=2\/i=3:=by omega
 rcases hi with rfl|rfl|rfl|rfl<;>rfl;rw[e4]at h1;rw[e5]at h3;rw[e7]at h2;grind[ck];rw[e4]at h1;rw[e5]at h3;rw[e7]at h2;have hk:=eq_of_beq h2;rw[hk,e2]at hE;refine⟨⟨by omega,by grind⟩,?_,trivial⟩;grind[ck];rw[e4]at h1;rw[e5]at h3;rw[e7]at h2;grind[ck]
theorem Rq:aL Tryz.prog 170 Au:=aL.cu (l:=[(92,oH),(171,wC)]) (A:=fun _=>ax) aM ⟨wa,Mw,trivial⟩ Tryz.func170 (by rfl) (by rfl) fun x hw hp=>alS x.1 x.2.1 x.2.2.1
theorem aix(n:aO)(e:Int)(i:Int)(pos:Int):aj (aq aP [(170,Au)]) Tryz.f118 Gv (aau (n,e,i,pos,())) (n,e,i,pos,())=( U (ck n.1 e i).length fun(y4:Nat)=>U (bK n.1 e i pos) fun(y5:Int×Bool)=>True/\(∃(HR:Nat),(HR<=y4/\p8 (lM pos) (ck n.1 e i) HR)/\(HR:Int)=(0:Int)/\pos=pos/\ck n.1 e i=ck n.1 e i/\(y4:Int)=(y4:Int)/\True)/\∀(s6:Nat),U (decide ((s6:Int)<(y4:Int))) fun(y7:Bool)=>U ((ck n.1 e i).getD (s6:Int).toNat ((0:Int),(0:Int))) fun(y8:Int×Int)=>U (bif y8.2==(0:Int)then true else y8.2==pos) fun(y9:Bool)=>s6<=y4/\p8 (lM pos) (ck n.1 e i) s6->(y7=true->bF (s6:Int) y4/\(y9=true->y8.1=y5.1/\true=y5.2/\True)/\(y9=false->bJ IntKind.i64 ((s6:Int)+(1:Int))/\∃(eM:Nat),(eM<=y4/\p8 (lM pos) (ck n.1 e i) eM)/\y4-eM<y4-s6/\(eM:Int)=(s6:Int)+(1:Int)/\pos=pos/\ck n.1 e i=ck n.1 e i/\(y4:Int)=(y4:Int)/\True))/\(y7=false->(0:Int)=y5.1/\false=y5.2/\True)):=by kernel_rfl
theorem ama(n:aO)(e i pos:Int):aj (aq aP [(170,Au)]) Tryz.f118 Gv (aau (n,e,i,pos,())) (n,e,i,pos,()):=by
 have hl:=AR n.1 e i;rw[aix];refine U.mk fun y4 e4=>U.mk fun y5 e5=>?_;simp only[cb,aU,eq_self,aw];refine⟨⟨0,⟨by omega,rfl⟩,rfl⟩,fun s=>U.mk fun y7 e7=>U.mk fun y8 e8=>U.mk fun y9 e9=>?_⟩;rintro⟨h1,h2⟩;have h2:((ck n.1 e i).take s).any (lM pos)=false:=h2;have e9:lM pos y8=y9:=by grind[lM]
 subst e4;refine⟨fun hs=>?_,fun hs=>?_⟩;have hs:=cV e7 hs;refine⟨⟨by omega,by omega⟩,fun h=>?_,fun h=>⟨bI (by omega) (by omega),s+1,⟨by omega,?_⟩,by omega,by omega⟩⟩;have hf:(ck n.1 e i).find? (lM pos)=some y8:=by grind[Jf]
 have:bK n.1 e i pos=(y8.1,true):=by unfold bK;exact br HC hf
 grind;exact any_succ (0,0) hs h2 (by grind);have hf:=CK (ek e7 hs) h2;have:bK n.1 e i pos=(0,false):=by unfold bK;exact br HC hf
 grind
theorem Yi:aL Tryz.prog 118 Gv:=aL.cu (l:=[(170,Au)]) (A:=aau) aM ⟨Rq,trivial⟩ Tryz.func118 (by rfl) (by rfl) fun x _ _=>ama x.1 x.2.1 x.2.2.1 x.2.2.2.1
theorem aid(n:aO)(e:Int)(i:Int)(pos:Int):aj (aq aP [(118,Gv)]) Tryz.f147 P1 ax (n,e,i,pos,())=( U (bK n.1 e i pos) fun(y4:Int×Bool)=>True/\y4.1=y4.1/\y4.2=y4.2/\True):=by kernel_rfl
theorem aeL:aL Tryz.prog 147 P1:=aL.cu (l:=[(118,Gv)]) (A:=fun _=>ax) aM ⟨Yi,trivial⟩ Tryz.func147 (by rfl) (by rfl) fun x _ hp=>by obtain⟨n,e,i,pos,u⟩:=x;rw[aid];simp[U]
theorem v51(n:aO):aj (aq aP []) Tryz.f51 c51 ax (n,())=((n.1.2.2.1.length:Int)=(n.1.2.2.1.length:Int)/\True):=by kernel_rfl
theorem ajq:aL Tryz.prog 51 c51:=aL.cu (l:=[]) (A:=fun _=>ax) aM trivial Tryz.func51 (by rfl) (by rfl) fun x _ hp=>by obtain⟨n,u⟩:=x;rw[v51];simp
theorem v88(n:aO):aj (aq aP [(79,PO)]) Tryz.f88 SM ax (n,())=( sR n.1/\n.1=n.1/\True):=by kernel_rfl
theorem X8:aL Tryz.prog 88 SM:=aL.cu (l:=[(79,PO)]) (A:=fun _=>ax) aM ⟨acE,trivial⟩ Tryz.func88 (by rfl) (by rfl) fun x _ hp=>by obtain⟨n,u⟩:=x;rw[v88];exact⟨hp,rfl,trivial⟩
theorem ahJ(s:Int×Int×Int)(e:Int):aj (aq aP []) Tryz.f200 Lm ax (s,e,())=((s.1==e)=(s.1==e)/\True):=by kernel_rfl
theorem aea:aL Tryz.prog 200 Lm:=aL.cu (l:=[]) (A:=fun _=>ax) aM trivial Tryz.func200 (by rfl) (by rfl) fun x _ hp=>by obtain⟨s,e,u⟩:=x;rw[ahJ];simp
theorem v183(s:Int×Int×Int)(e:Int):aj (aq aP []) Tryz.f183 PW ax (s,e,())=((s.1==e)=(s.1==e)/\True):=by kernel_rfl
theorem aem:aL Tryz.prog 183 PW:=aL.cu (l:=[]) (A:=fun _=>ax) aM trivial Tryz.func183 (by rfl) (by rfl) fun x _ hp=>by obtain⟨s,e,u⟩:=x;rw[v183];simp
theorem UO(l:List (Int×Int×Int))(v:Int×Unit):aj (aq aP [(200,Lm)]) Tryz.f201 xG (Fz (l,v,())) (l,v,())=((∃(fW:Nat),(fW<=l.length/\(List.take fW l).any (fQ v.1)=false)/\(fW:Int)=(0:Int)/\l=l/\v=v/\(l.length:Int)=(l.length:Int)/\True)/\∀(s2:Nat),U (decide ((s2:Int)<(l.length:Int))) fun(y3:Bool)=>U ((l.getD (s2:Int).toNat ((0:Int),(0:Int),(0:Int))).1==v.1) fun(y4:Bool)=>s2<=l.length/\(List.take s2 l).any (fQ v.1)=false->(y3=true->bF (s2:Int) l.length/\True/\(y4=true->(s2:Int)=iS (fQ v.1) l/\True)/\(y4=false->bJ IntKind.i64 ((s2:Int)+(1:Int))/\∃(lI:Nat),(lI<=l.length/\(List.take lI l).any (fQ v.1)=false)/\l.length-lI<l.length-s2/\(lI:Int)=(s2:Int)+(1:Int)/\l=l/\v=v/\(l.length:Int)=(l.length:Int)/\True))/\(y3=false->(-1:Int)=iS (fQ v.1) l/\True)):=by kernel_rfl
theorem Xb(l:List eA)(v:Int×Unit)(hw:l.length<=1000):aj (aq aP [(200,Lm)]) Tryz.f201 xG (Fz (l,v,())) (l,v,()):=by rw[UO];simp only[cb,aU,eq_self];refine⟨⟨0,⟨by omega,by simp⟩,by omega⟩,fun s=>U.mk fun y4 e4=>U.mk fun y5 e5=>?_⟩;rintro⟨h1,h2⟩;refine⟨fun hs=>?_,fun hs=>?_⟩;have hs:=cV e4 hs;refine⟨⟨by omega,by omega⟩,fun e=>?_,fun e=>⟨bI (by omega) (by omega),s+1,⟨by omega,?_⟩,by omega,by omega⟩⟩;exact xy qE hs h2 (by show((l.getD s qE).1==v.1)=true;grind);exact any_succ qE hs h2 (by show((l.getD s qE).1==v.1)=false;grind);exact tr (s:=s) (ek e4 hs) h2
theorem Rl:aL Tryz.prog 201 xG:=aL.cu (l:=[(200,Lm)]) (A:=Fz) aM ⟨aea,trivial⟩ Tryz.func201 (by rfl) (by rfl) fun x hw hp=>Xb x.1 x.2.1 hp
theorem UP(l:List (Int×Int×Int))(v:Int×Unit):aj (aq aP [(2010201,xG)]) Tryz.f182 A9 ax (l,v,())=( l.length<=(1000:Nat)/\decide (iS (fQ v.1) l>=(0:Int))=l.any (fQ v.1)/\True):=by kernel_rfl
theorem Rm:aL Tryz.prog 182 A9:=aL.cu (l:=[(2010201,xG)]) (A:=fun _=>ax) aM ⟨Rl,trivial⟩ Tryz.func182 (by rfl) (by rfl) fun x hw hp=>by obtain⟨l,v,u⟩:=x;rw[UP];exact⟨hp,nE,trivial⟩
theorem UR(l:List (Int×Int×Int))(v:Int×Unit):aj (aq aP [(183,PW)]) Tryz.f201 xH (FA (l,v,())) (l,v,())=((∃(fW:Nat),(fW<=l.length/\(List.take fW l).any (fQ v.1)=false)/\(fW:Int)=(0:Int)/\l=l/\v=v/\(l.length:Int)=(l.length:Int)/\True)/\∀(s2:Nat),U (decide ((s2:Int)<(l.length:Int))) fun(y3:Bool)=>U ((l.getD (s2:Int).toNat ((0:Int),(0:Int),(0:Int))).1==v.1) fun(y4:Bool)=>s2<=l.length/\(List.take s2 l).any (fQ v.1)=false->(y3=true->bF (s2:Int) l.length/\True/\(y4=true->(s2:Int)=iS (fQ v.1) l/\True)/\(y4=false->bJ IntKind.i64 ((s2:Int)+(1:Int))/\∃(lI:Nat),(lI<=l.length/\(List.take lI l).any (fQ v.1)=false)/\l.length-lI<l.length-s2/\(lI:Int)=(s2:Int)+(1:Int)/\l=l/\v=v/\(l.length:Int)=(l.length:Int)/\True))/\(y3=false->(-1:Int)=iS (fQ v.1) l/\True)):=by kernel_rfl
theorem Xc(l:List eA)(v:Int×Unit)(hw:l.length<=1000):aj (aq aP [(183,PW)]) Tryz.f201 xH (FA (l,v,())) (l,v,()):=by rw[UR];simp only[cb,aU,eq_self];refine⟨⟨0,⟨by omega,by simp⟩,by omega⟩,fun s=>U.mk fun y4 e4=>U.mk fun y5 e5=>?_⟩;rintro⟨h1,h2⟩;refine⟨fun hs=>?_,fun hs=>?_⟩;have hs:=cV e4 hs;refine⟨⟨by omega,by omega⟩,fun e=>?_,fun e=>⟨bI (by omega) (by omega),s+1,⟨by omega,?_⟩,by omega,by omega⟩⟩;exact xy qE hs h2 (by show((l.getD s qE).1==v.1)=true;grind);exact any_succ qE hs h2 (by show((l.getD s qE).1==v.1)=false;grind);exact tr (s:=s) (ek e4 hs) h2
theorem Ro:aL Tryz.prog 201 xH:=aL.cu (l:=[(183,PW)]) (A:=FA) aM ⟨aem,trivial⟩ Tryz.func201 (by rfl) (by rfl) fun x hw hp=>Xc x.1 x.2.1 hp
theorem US(l:List (Int×Int×Int))(v:Int×Unit):aj (aq aP [(1840201,xH)]) Tryz.f182 Bb ax (l,v,())=( l.length<=(1000:Nat)/\decide (iS (fQ v.1) l>=(0:Int))=l.any (fQ v.1)/\True):=by kernel_rfl
theorem Rp:aL Tryz.prog 182 Bb:=aL.cu (l:=[(1840201,xH)]) (A:=fun _=>ax) aM ⟨Ro,trivial⟩ Tryz.func182 (by rfl) (by rfl) fun x hw hp=>by obtain⟨l,v,u⟩:=x;rw[US];exact⟨hp,nE,trivial⟩
theorem Rc(r:aK)(e:Int):r.2.2.2.1.any (fQ e)=tO r e:=by unfold tO dx o3;rw[List.any_map];rfl
theorem v143(r:aK)(e:Int):aj (aq aP [(1840182,Bb)] [] [(183,.pair (.ref I) .unit)]) Tryz.f143 P2 ax (r,e,())=( r.2.2.2.1.length<=(1000:Nat)/\r.2.2.2.1.any (fQ e)=tO r e/\True):=by kernel_rfl
theorem aeO:aL Tryz.prog 143 P2:=aL.cu (l:=[(1840182,Bb)]) (wraps:=[]) (clos:=[(183,.pair (.ref I) .unit)]) (A:=fun _=>ax) aM ⟨Rp,trivial⟩ Tryz.func143 (by rfl) (by rfl) fun x hw hp=>by obtain⟨r,e,u⟩:=x;rw[v143];exact⟨hp,Rc r e,trivial⟩
theorem v139(l:List (Int×Int×Int)):aj (aq aP []) Tryz.f139 Gu ax (l,())=( U (List.replicate (0:Nat) ((0:Int),(0:Int),(0:Int))) fun(y1:List (Int×Int×Int))=>∀(b2:Bool),(b2=true->l=[])->(b2=true->[]=l/\True)/\(b2=false->roomFor (y1.length+l.length) (24:Nat)/\y1++l=l/\True)):=by kernel_rfl
theorem Yh:aL Tryz.prog 139 Gu:=aL.cu (l:=[]) (A:=fun _=>ax) aM trivial Tryz.func139 (by rfl) (by rfl) fun x _ hp=>by obtain⟨l,u⟩:=x;rw[v139];refine U.mk fun y1 e1=>fun b hb=>⟨fun h=>⟨(hb h).symm,trivial⟩,fun h=>⟨sN hp (by grind) (by decide),by grind,trivial⟩⟩
theorem ahY(p:Int×List (Int×Int×Int)×List Int×List (List (Int×Int)))(e:Int):aj (aq aP [(2010182,A9)] [] [(200,.pair (.ref I) .unit)]) Tryz.f178 PX ax (p,e,())=( U (bif decide ((p.2.1.length:Int)<(12:Int))then e !=p.1 else false) fun(y2:Bool)=>(y2=true->p.2.1.length<=(1000:Nat))/\(bif y2 then !p.2.1.any (fQ e)else false)=Lb p e/\True):=by kernel_rfl
theorem aeq:aL Tryz.prog 178 PX:=aL.cu (l:=[(2010182,A9)]) (wraps:=[]) (clos:=[(200,.pair (.ref I) .unit)]) (A:=fun _=>ax) aM ⟨Rm,trivial⟩ Tryz.func178 (by rfl) (by rfl) fun x hw hp=>by obtain⟨p,e,u⟩:=x;rw[ahY];refine U.mk fun y2 e2=>⟨fun _=>hp,?_,trivial⟩;unfold Lb;grind
theorem ahX(p:Int×List (Int×Int×Int)×List Int×List (List (Int×Int)))(n:aO)(x:Int×Int):fv (aq aP [(170,Au)]) Tryz.f179 Ls ax (p,n,x,())=( U ((List.replicate (1:Nat) ((0:Int),(0:Int),(0:Int))).set (0:Nat) (x.1,x.2,(-1:Int))) fun(y3:List (Int×Int×Int))=>U ((List.replicate (1:Nat) (0:Int)).set (0:Nat) (0:Int)) fun(y4:List Int)=>U ((List.replicate (1:Nat) []).set (0:Nat) (ck n.1 x.1 x.2)) fun(y5:List (List (Int×Int)))=>U (Ai p n x).2.2 fun(y6:List Int×List (List (Int×Int)))=>roomFor (p.2.1.length+y3.length) (24:Nat)/\roomFor (p.2.2.1.length+y4.length) (8:Nat)/\True/\roomFor (p.2.2.2.length+y5.length) (24:Nat)/\p.1=(Ai p n x).1/\p.2.1++y3=(Ai p n x).2.1/\p.2.2.1++y4=y6.1/\p.2.2.2++y5=y6.2/\True):=by kernel_rfl
theorem aep:lq Tryz.prog 179 Ls:=lq.cu (l:=[(170,Au)]) (A:=fun _=>ax) aM ⟨Rq,trivial⟩ Tryz.func179 (by rfl) (by rfl) fun x hw hp=>by
 obtain⟨p,n,y,u⟩:=x;show fv (aq aP [(170,Au)]) Tryz.f179 Ls ax (p,n,y,());obtain⟨h1,h2,h3⟩:=hp;have h1:p.2.1.length<=1000:=h1;have h2:p.2.2.1.length=p.2.1.length:=h2;have h3:p.2.2.2.length=p.2.1.length:=h3;rw[ahX];refine U.mk fun y3 e3=>U.mk fun y4 e4=>U.mk fun y5 e5=>U.mk fun y6 e6=>?_;have l3:y3.length=1:=by grind
 have l4:y4.length=1:=by grind
 have l5:y5.length=1:=by grind
 refine⟨gS (by omega) (by decide),gS (by omega) (by decide),trivial,gS (by omega) (by decide),?_⟩;rw[e6,e3,e4,e5];simp[Ai]
theorem Im(p:lL):∀k,(iO p k).length<=k|0=>aZ _|k+1=>by have:=Im p k;show(iO p k++tm p k).length<=_;rw[cT];(have:(tm p k).length<=1:=by unfold tm;cases(p.2.2.1.getD k 0!=0)<;>simp);omega
theorem ahW(p:Int×List (Int×Int×Int)×List Int×List (List (Int×Int)))(s:Int)(to:Int)(stop:Int):fv (aq aP [(139,Gu)]) Tryz.f180 Lr (aal (p,s,to,stop,())) (p,s,to,stop,())=( lz p.2.1/\(∃(tW:Nat),tW<=p.2.1.length/\(tW:Int)=(0:Int)/\(p.2.1.length:Int)=(p.2.1.length:Int)/\s=s/\to=to/\stop=stop/\false=false/\p.2.1=p.2.1/\iO p tW=[]/\(0:Int)=(0:Int)/\(0:Int)=(0:Int)/\(0:Int)=(0:Int)/\false=false/\p.1=p.1/\p.2.1=p.2.1/\p.2.2.1=p.2.2.1/\p.2.2.2=p.2.2.2/\True)/\∀(s4:Nat),U (decide ((s4:Int)<(p.2.1.length:Int))) fun(y5:Bool)=>U (p.2.2.1.getD (s4:Int).toNat (0:Int)) fun(y6:Int)=>U ((List.replicate (1:Nat) ((0:Int),(0:Int))).set (0:Nat) ((p.2.1.getD (s4:Int).toNat ((0:Int),(0:Int),(0:Int))).1,y6)) fun(y7:List (Int×Int))=>s4<=p.2.1.length->(y5=true->bF (s4:Int) p.2.1.length/\bF (s4:Int) p.2.2.1.length/\((y6 !=(0:Int))=true->bF (s4:Int) p.2.2.1.length/\roomFor ((iO p s4).length+y7.length) (16:Nat)/\bJ IntKind.i64 ((s4:Int)+(1:Int))/\∃(jU:Nat),jU<=p.2.1.length/\p.2.1.length-jU<p.2.1.length-s4/\(jU:Int)=(s4:Int)+(1:Int)/\(p.2.1.length:Int)=(p.2.1.length:Int)/\s=s/\to=to/\stop=stop/\false=false/\p.2.1=p.2.1/\iO p jU=iO p s4++y7/\(0:Int)=(0:Int)/\(0:Int)=(0:Int)/\(0:Int)=(0:Int)/\false=false/\p.1=p.1/\p.2.1=p.2.1/\p.2.2.1=p.2.2.1/\p.2.2.2=p.2.2.2/\True)/\((y6 !=(0:Int))=false->bJ IntKind.i64 ((s4:Int)+(1:Int))/\∃(jU:Nat),jU<=p.2.1.length/\p.2.1.length-jU<p.2.1.length-s4/\(jU:Int)=(s4:Int)+(1:Int)/\(p.2.1.length:Int)=(p.2.1.length:Int)/\s=s/\to=to/\stop=stop/\false=false/\p.2.1=p.2.1/\iO p jU=iO p s4/\(0:Int)=(0:Int)/\(0:Int)=(0:Int)/\(0:Int)=(0:Int)/\false=false/\p.1=p.1/\p.2.1=p.2.1/\p.2.2.1=p.2.2.1/\p.2.2.2=p.2.2.2/\True))/\(y5=false->(s,to,stop,p.2.1,iO p s4,[],[],[],false)=j7 p s to stop/\p.1=p.1/\p.2.1=p.2.1/\p.2.2.1=p.2.2.1/\p.2.2.2=p.2.2.2/\True)):=by kernel_rfl
theorem alL(p:lL)(s to stop:Int)(hp:lA p):fv (aq aP [(139,Gu)]) Tryz.f180 Lr (aal (p,s,to,stop,())) (p,s,to,stop,()):=by obtain⟨h1,h2,h3⟩:=hp;rw[ahW];simp only[cb,aU,eq_self];refine⟨h1,⟨0,by omega,rfl,rfl⟩,fun k=>U.mk fun y5 e5=>U.mk fun y6 e6=>U.mk fun y7 e7=>fun hk=>⟨fun h=>?_,fun h=>?_⟩⟩;(·have Sl:=cV e5 h;have hn:=Im p k;(have l7:y7.length=1:=by grind);refine⟨⟨by omega,by omega⟩,⟨by omega,by omega⟩,fun h6=>⟨⟨by omega,by omega⟩,gS (by omega) (by decide),bI (by omega) (by omega),k+1,by omega,by omega,by omega,?_⟩,fun h6=>⟨bI (by omega) (by omega),k+1,by omega,by omega,by omega,?_⟩⟩;all_goals grind[iO,tm]);grind[j7]
theorem aeo:lq Tryz.prog 180 Lr:=lq.cu (l:=[(139,Gu)]) (A:=aal) aM ⟨Yh,trivial⟩ Tryz.func180 (by rfl) (by rfl) fun x hw hp=>alL x.1 x.2.1 x.2.2.1 x.2.2.2.1 hp
theorem ahV(p:Int×List (Int×Int×Int)×List Int×List (List (Int×Int))):fv (aq aP []) Tryz.f181 Lq ax (p,())=( U ((p.2.1.length:Int)-(1:Int)) fun(y1:Int)=>bJ IntKind.i64 y1/\((0:Int)<=y1/\y1<=(p.2.1.length:Int))/\((0:Int)<=y1/\y1<=(p.2.2.1.length:Int))/\((0:Int)<=y1/\y1<=(p.2.2.2.length:Int))/\p.1=(o0 p).1/\List.take y1.toNat p.2.1=(o0 p).2.1/\List.take y1.toNat p.2.2.1=(o0 p).2.2.1/\List.take y1.toNat p.2.2.2=(o0 p).2.2.2/\True):=by kernel_rfl
theorem aen:lq Tryz.prog 181 Lq:=lq.cu (l:=[]) (A:=fun _=>ax) aM trivial Tryz.func181 (by rfl) (by rfl) fun x hw hp=>by obtain⟨p,u⟩:=x;show fv (aq aP []) Tryz.f181 Lq ax (p,());obtain⟨⟨h1,h2,h3⟩,h4⟩:=hp;have h1:p.2.1.length<=1000:=h1;have h2:p.2.2.1.length=p.2.1.length:=h2;have h3:p.2.2.2.length=p.2.1.length:=h3;have h4:0<p.2.1.length:=h4;rw[ahV];refine U.mk fun y1 e1=>?_;(have e:y1.toNat=p.2.1.length-1:=by omega);refine⟨bI (by omega) (by omega),⟨by omega,by omega⟩,⟨by omega,by omega⟩,⟨by omega,by omega⟩,?_⟩;rw[e];simp[o0]
abbrev dW:=eA×Int×List (Int×Int)
def Nu(f:dW):List dA:=bif f.2.1==0 then[]else[(f.1.1,f.2.1)]
def bO(gs:List dW):List eA:=gs.reverse.map fun f=>f.1
def xm(gs:List dW):List dA:=gs.reverse.flatMap Nu
def p9(b:Int)(gs:List dW):List Int:=b::gs.reverse.map fun f=>f.1.1
def sS(s:Int)(gs:List dW)(stop to:Int):aK:=(s,to,stop,bO gs,xm gs,[],[],[],false)
def vY(s:Int)(gs:List dW):aK:=(s,bif gs.isEmpty then 0 else-1,0,bO gs,xm gs,[],[],[],false)
theorem o8(f:dW)(gs:List dW):bO (f::gs)=bO gs++[f.1]:=by grind[bO]
theorem BP(f:dW)(gs:List dW):xm (f::gs)=xm gs++Nu f:=by grind[xm]
theorem VJ(b:Int)(f:dW)(gs:List dW):p9 b (f::gs)=p9 b gs++[f.1.1]:=by grind[p9]
theorem jG(gs:List dW):(bO gs).length=gs.length:=by grind[bO]
theorem xQ(s:Int)(gs:List dW)(st:eA)(pos:Int)(l:List (Int×Int))(stop to:Int):rT (vY s gs) st pos stop to=sS s ((st,pos,l)::gs) stop to:=by unfold rT sS;rw[o8,BP];rfl
theorem QI(s:Int)(gs:List dW)(st:eA)(pos:Int)(l:List (Int×Int)):rT (vY s gs) st pos 0 (-1)=vY s ((st,pos,l)::gs):=by rw[xQ s gs st pos l];rfl
def uS(p:ab)(s b:Int)(gs:List dW)(f:dW):List aK:=f.2.2.flatMap (wR p (D3 p (12-gs.length)) (vY s gs) (f.1.1,f.1.2.1) (p9 b gs++[f.1.1]))
def oP(p:ab)(s b:Int):List dW->List aK|[]=>[]|f::gs=>uS p s b gs f++oP p s b gs
def ta(p:ab)(s b:Int)(x:ai)(gs:List dW):List aK:=D3 p (13-gs.length) (vY s gs) x (p9 b gs)++oP p s b gs
def BQ(b:Int)(gs:List dW)(x:ai):Bool:=decide (gs.length<12)&&!dx (p9 b gs) x.1
theorem Re{p:ab}{e i:Int}(h:ay p e=4):ck p e i=[]:=by grind[ck]
theorem Wu{p:ab}{s b:Int}{x:ai}{gs:List dW}(hl:gs.length<=12)(h:BQ b gs x=false):ta p s b x gs=oP p s b gs:=by unfold ta;(have:D3 p (13-gs.length) (vY s gs) x (p9 b gs)=[]:=by obtain⟨n,hn⟩:∃n,13-gs.length=n+1:=⟨12-gs.length,by omega⟩;rw[hn];show ua p (D3 p n) (vY s gs) x (p9 b gs)=[];unfold ua;(have hc:(dx (p9 b gs) x.1||decide ((vY s gs).2.2.2.1.length=12))=true:=by have e:(vY s gs).2.2.2.1.length=gs.length:=jG gs;rw[e];unfold BQ at h;grind);grind);grind
theorem PE{p:ab}{s b:Int}{x:ai}{gs:List dW}(h:BQ b gs x=true):ta p s b x gs=(bif ay p x.1==4 then[sS s (((x.1,x.2,-1),0,[])::gs) 2 (-1)]else[])++oP p s b (((x.1,x.2,-1),0,ck p x.1 x.2)::gs):=by unfold BQ at h;rw[ae]at h;have hl:=ar h.1;(have hm:dx (p9 b gs) x.1=false:=by grind);unfold ta;obtain⟨n,hn⟩:∃n,13-gs.length=n+1:=⟨12-gs.length,by omega⟩;(have Sf:n=12-gs.length:=by omega);rw[hn];have e1:D3 p (n+1) (vY s gs) x (p9 b gs)=ua p (D3 p n) (vY s gs) x (p9 b gs):=rfl;have e:(vY s gs).2.2.2.1.length=gs.length:=jG gs;rw[e1];unfold ua;rw[e,hm,aE (show¬gs.length=12 by omega)];cases hk:(ay p x.1==4)with|true=>rw[Re (eq_of_beq hk)];grind[oP,uS,xQ]|false=>show sX p (D3 p n) (vY s gs) x (p9 b gs++[x.1]) (ck p x.1 x.2).length++oP p s b gs=[]++(uS p s b gs ((x.1,x.2,-1),0,ck p x.1 x.2)++oP p s b gs);grind[sX,uS]
theorem EK{p:ab}{s b:Int}{e i o pos:Int}{w:Int×Int}{ws:List (Int×Int)}{gs:List dW}:oP p s b (((e,i,o),pos,w::ws)::gs)=wR p (D3 p (12-gs.length)) (vY s gs) (e,i) (p9 b gs++[e]) w++oP p s b (((e,i,w.1),w.2,ws)::gs):=by show uS p s b gs ((e,i,o),pos,w::ws)++oP p s b gs=_++(uS p s b gs ((e,i,w.1),w.2,ws)++oP p s b gs);grind[uS]
theorem Ml{p:ab}{s b:Int}{e i o pos:Int}{w:Int×Int}{ws:List (Int×Int)}{gs:List dW}(h:decide (0<=cg p (e,w.1))=true):oP p s b (((e,i,o),pos,w::ws)::gs)=[sS s (((e,i,w.1),w.2,ws)::gs) 1 (cg p (e,w.1))]++oP p s b (((e,i,w.1),w.2,ws)::gs):=by grind[EK,wR,xQ]
theorem Mm{p:ab}{s b:Int}{e i o pos:Int}{w:Int×Int}{ws:List (Int×Int)}{gs:List dW}(h:decide (0<=cg p (e,w.1))=false)(hn:(aD p (e,w.1)).2=false):oP p s b (((e,i,o),pos,w::ws)::gs)=[sS s (((e,i,w.1),w.2,ws)::gs) 3 (-1)]++oP p s b (((e,i,w.1),w.2,ws)::gs):=by grind[EK,wR,xQ]
theorem XV{p:ab}{s b:Int}{e i o pos:Int}{w:Int×Int}{ws:List (Int×Int)}{gs:List dW}(h:decide (0<=cg p (e,w.1))=false)(hn:(aD p (e,w.1)).2=true):oP p s b (((e,i,o),pos,w::ws)::gs)=ta p s b (aD p (e,w.1)).1 (((e,i,w.1),w.2,ws)::gs):=by rw[EK];grind[wR,ta,QI,VJ]
def wB:Nat->Nat|0=>1|n+1=>2+2*(1+wB n)
def wF:List dW->Nat|[]=>0|f::gs=>1+f.2.2.length*(1+wB (12-gs.length))+wF gs
def wE(gs:List dW):Nat:=wB (13-gs.length)+wF gs
theorem aaQ(n:Nat):1<=wB n:=by cases n<;>simp only[wB]<;>omega
theorem Vt(p:ab)(e i:Int):(ck p e i).length<=2:=by unfold ck;grind
theorem aaP{p:ab}{e i:Int}{st:eA}{pos:Int}{gs:List dW}(hl:gs.length<12):wF ((st,pos,ck p e i)::gs)<wE gs:=by have h2:=Vt p e i;unfold wE;obtain⟨n,hn⟩:∃n,13-gs.length=n+1:=⟨12-gs.length,by omega⟩;(have Sf:12-gs.length=n:=by omega);rw[hn];grind[ck,wB,wF]
theorem ahz(gs:List dW):wF gs<wE gs:=by grind[aaQ,wE]
theorem adG(st:eA)(pos:Int)(l:List (Int×Int))(gs:List dW):wF gs<wF ((st,pos,l)::gs):=by grind[wF]
theorem adF(st st':eA)(pos pos':Int)(w:Int×Int)(ws:List (Int×Int))(gs:List dW):wF ((st',pos',ws)::gs)<wF ((st,pos,w::ws)::gs):=by grind[wF,gY]
theorem ahy(st st':eA)(pos pos':Int)(w:Int×Int)(ws:List (Int×Int))(gs:List dW):wE ((st',pos',ws)::gs)<wF ((st,pos,w::ws)::gs):=by show wB (13-(gs.length+1))+(1+ws.length*(1+wB (12-gs.length))+wF gs)<1+(ws.length+1)*(1+wB (12-gs.length))+wF gs;grind
def C9(n m:Nat):Prop:=∀y s,tb n y s->tb m y s->lG n y s=lG m y s
theorem Dm{n m:Nat}(ih:C9 n m)(e stop:Int){s:aX}(h:lB n s)(k:lB m s):yV (lG n) e stop s=yV (lG m) e stop s:=by unfold yV;cases hn:(aD s.1 (e,stop)).2 with|true=>exact ih _ _ ⟨h,q9 hn⟩ ⟨k,q9 hn⟩|false=>rfl
theorem Ms{n m:Nat}(ih:C9 n m){y:ai}{s:aX}(h:pK n y s)(k:pK m y s):tg (lG n) y s=tg (lG m) y s:=by obtain⟨⟨h1,h2⟩,h3⟩:=h;obtain⟨⟨k1,k2⟩,k3⟩:=k;obtain⟨hz,_⟩:=qV h1.1 y.1;unfold tg;cases y.2==0 with|true=>(cases(ep s y.1).1 with|true=>have e1:=Dm ih y.1 1 (hz.lB h1) (hz.lB k1);have q1:=sD (wz n) y.1 1 (hz.lB h1);have e2:=Dm ih y.1 2 (q1.lB (hz.lB h1)) (q1.lB (hz.lB k1));grind|false=>rfl)|false=>cases !db (eQ s) (y.1,y.2)&&!db (cm s) (y.1,y.2)with|true=>rfl|false=>cases(ep s y.1).1 with|true=>exact Dm ih y.1 0 (hz.lB h1) (hz.lB k1)|false=>rfl
theorem VE{n m:Nat}(ih:C9 n m){y:ai}{s:aX}(h:pK n y s)(k:pK m y s):Da (lG n) y s=Da (lG m) y s:=by have h1:=h.1.1;have k1:=k.1.1;obtain⟨hz,_⟩:=qV h1.1 y.1;unfold Da;cases decide (0<=cg s.1 y)&&!s.1.2.2.2.2.2.2.2.2 with|true=>rfl|false=>cases ay s.1 y.1==4 with|true=>rfl|false=>cases ay s.1 y.1==2 with|true=>grind[Ms]|false=>cases(ep s y.1).1 with|true=>exact Dm ih _ _ (hz.lB h1) (hz.lB k1)|false=>rfl
theorem Jw:∀n m,C9 n m|0,_=>fun y s h _=>absurd h CM|_+1,0=>fun y s _ k=>absurd k CM|n+1,m+1=>fun y s h k=>by show zk (lG n) y s=zk (lG m) y s;unfold zk;cases hc:tO (u5 s) y.1||mn (dr s) y with|true=>rfl|false=>rw[aG]at hc;exact VE (Jw n m) (AW h hc.2).1 (AW k hc.2).1
def oQ(p:ab)(e stop:Int):List ai:=bif(aD p (e,stop)).2 then[(aD p (e,stop)).1]else[]
def fin(ts:List ai)(s:aX):aX:=ts.foldl (fun s y=>lG 161 y s) s
theorem Ad(a b:List ai)(s:aX):fin (a++b) s=fin b (fin a s):=List.foldl_append
def lh(y:ai)(s:aX):List ai×aX:=bif y.2==0 then(bif(ep s y.1).1 then(oQ s.1 y.1 1++oQ s.1 y.1 2,(ep s y.1).2)else([],(ep s y.1).2))else bif !db (eQ s) (y.1,y.2)&&!db (cm s) (y.1,y.2)then([],bif db (cm s) (y.1,3-y.2)then s else G5 s (cm s++[(y.1,3-y.2)]))else(bif(ep s y.1).1 then(oQ s.1 y.1 0,(ep s y.1).2)else([],(ep s y.1).2))
def zG(y:ai)(s:aX):List ai×aX:=bif decide (0<=cg s.1 y)&&!s.1.2.2.2.2.2.2.2.2 then([],bif dx (eb s) (cg s.1 y)then s else HP s (eb s++[cg s.1 y]))else bif ay s.1 y.1==4 then([],Cm s)else bif ay s.1 y.1==2 then lh y s else(bif(ep s y.1).1 then(oQ s.1 y.1 (vA s.1 y.1 y.2 0).1,(ep s y.1).2)else([],(ep s y.1).2))
def lg(y:ai)(s:aX):List ai×aX:=bif tO (u5 s) y.1||mn (dr s) y then([],s)else zG y (gm s (dr s++[y]))
theorem G7{s:aX}(e stop:Int)(h:lB 160 s):yV (lG 160) e stop s=fin (oQ s.1 e stop) s:=by unfold yV oQ;cases hn:(aD s.1 (e,stop)).2 with|true=>exact Jw 160 161 _ _ ⟨h,q9 hn⟩ ⟨⟨h.1,by have:=h.2;omega⟩,q9 hn⟩|false=>rfl
theorem H5{p:ab}{e stop:Int}{x:ai}(h:x∈oQ p e stop):x∈cK p:=by unfold oQ at h;cases hn:(aD p (e,stop)).2 with|true=>grind[q9]|false=>grind
theorem Dl(p:ab)(e stop:Int):(oQ p e stop).length<=1:=by grind[oQ]
structure Stepped (s s':aX) (ys:List ai) (out:aX):Prop where
 keeps:mJ s s'
 Mr:∀y∈ys,y∈cK s.1
 two:ys.length<=2
 same:out=fin ys s'
theorem GF{y:ai}{s:aX}(h:pK 160 y s):Stepped s (lh y s).2 (lh y s).1 (tg (lG 160) y s):=by obtain⟨⟨h1,h2⟩,h3⟩:=h;obtain⟨hz,_⟩:=qV h1.1 y.1;have none:∀{s':aX},mJ s s'->Stepped s s' [] s':=fun k=>⟨k,fun y hy=>absurd hy gL,bw _,rfl⟩;unfold tg lh;cases y.2==0 with|true=>(cases(ep s y.1).1 with|true=>refine⟨hz,fun x hx=>?_,?_,?_⟩;grind[H5];grind[Dl];have q1:=sD (wz 160) y.1 1 (hz.lB h1);show yV (lG 160) y.1 2 (yV (lG 160) y.1 1 (ep s y.1).2)=fin (oQ s.1 y.1 1++oQ s.1 y.1 2) (ep s y.1).2;rw[G7 _ _ (q1.lB (hz.lB h1)),q1.vb,G7 _ _ (hz.lB h1),Ad,hz.vb]|false=>grind)|false=>cases !db (eQ s) (y.1,y.2)&&!db (cm s) (y.1,y.2)with|true=>(cases db (cm s) (y.1,3-y.2)with|true=>exact none (.refl h1.1)|false=>refine none ⟨⟨h1.1.yo,h1.1.zV,h1.1.nodup,h1.1.sub,?_,h1.1.holds,h1.1.zd,h1.1.steps⟩,rfl,aZ _⟩;show(cm s++[(y.1,3-y.2)]).length<=(dr s).length;grind)|false=>cases(ep s y.1).1 with|true=>refine⟨hz,fun x hx=>H5 hx,?_,?_⟩;grind[Dl];show yV (lG 160) y.1 0 (ep s y.1).2=fin (oQ s.1 y.1 0) (ep s y.1).2;rw[G7 _ _ (hz.lB h1),hz.vb]|false=>grind
theorem MC{y:ai}{s:aX}(h:pK 160 y s)(hh:(eb s).length<(dr s).length):Stepped s (zG y s).2 (zG y s).1 (Da (lG 160) y s):=by have h1:=h.1.1;obtain⟨hz,_⟩:=qV h1.1 y.1;have none:∀{s':aX},mJ s s'->Stepped s s' [] s':=fun k=>⟨k,fun y hy=>absurd hy gL,bw _,rfl⟩;unfold Da zG;cases decide (0<=cg s.1 y)&&!s.1.2.2.2.2.2.2.2.2 with|true=>(cases dx (eb s) (cg s.1 y)with|true=>exact none (.refl h1.1)|false=>refine none ⟨⟨h1.1.yo,h1.1.zV,h1.1.nodup,h1.1.sub,h1.1.guards,?_,h1.1.zd,h1.1.steps⟩,rfl,aZ _⟩;show(eb s++[cg s.1 y]).length<=(dr s).length;grind)|false=>cases ay s.1 y.1==4 with|true=>exact none (Ay h1.1)|false=>cases ay s.1 y.1==2 with|true=>exact GF h|false=>cases(ep s y.1).1 with|true=>refine⟨hz,fun x hx=>H5 hx,?_,?_⟩;grind[Dl];show yV (lG 160) y.1 _ (ep s y.1).2=fin (oQ s.1 y.1 _) (ep s y.1).2;rw[G7 _ _ (hz.lB h1),hz.vb]|false=>grind
def gv(ts:List ai)(s:aX):Nat:=3*((cK s.1).length-(dr s).length)+ts.length
theorem Wm{y:ai}{ts:List ai}{s:aX}(h:tb 161 y s):fin (y::ts) s=fin ((lg y s).1++ts) (lg y s).2/\mJ s (lg y s).2/\(∀x∈(lg y s).1,x∈cK s.1)/\gv ((lg y s).1++ts) (lg y s).2<gv (y::ts) s:=by have e0:fin (y::ts) s=fin ts (zk (lG 160) y s):=rfl;rw[e0];unfold zk lg;cases hc:tO (u5 s) y.1||mn (dr s) y with|true=>refine⟨rfl,.refl h.1.1,fun x hx=>absurd hx gL,?_⟩;grind[gv]|false=>rw[aG]at hc;obtain⟨m1,m2,m3⟩:=AW h hc.2;have k:=MC m1 m2;refine⟨?_,m3.trans k.keeps,fun x hx=>k.Mr x hx,?_⟩;show fin ts (Da (lG 160) y (gm s (dr s++[y])))=fin ((zG y (gm s (dr s++[y]))).1++ts) (zG y (gm s (dr s++[y]))).2;rw[k.same,Ad];show gv ((zG y (gm s (dr s++[y]))).1++ts) (zG y (gm s (dr s++[y]))).2<gv (y::ts) s;have h1:=k.keeps.met;have h2:=k.keeps.vb;have h3:=vf k.keeps.inv.nodup k.keeps.inv.sub;have h4:=k.two;(have hl:(dr (gm s (dr s++[y]))).length=(dr s).length+1:=by show(dr s++[y]).length=_;simp);(have h6:cK (zG y (gm s (dr s++[y]))).2.1=cK s.1:=by rw[h2];rfl);grind[gv]
theorem BK{p:ab}{r:aK}{x:ai}(h:x∈dQ p r):(aD p x).2=true:=by grind[dQ,gF,fM]
theorem Jd{p:ab}{r:aK}(h:uK p r):∀k,k<=(dQ p r).length->tp p r k=fin (((dQ p r).take k).map fun x=>(aD p x).1) (s0 p r)|0,_=>rfl|k+1,hk=>by have ih:=Jd h k (by omega);have hp:=(Fj h k).2;have hj:=BK (uI zP (show k<(dQ p r).length by omega));rw[ct (by omega),List.map_append,Ad,<-ih];show yV (lG 161) ((dQ p r).getD k zP).1 ((dQ p r).getD k zP).2 (tp p r k)=_;(have e:(dQ p r)[k]'(by omega)=(dQ p r).getD k zP:=by grind);unfold yV;rw[hp,show(((dQ p r).getD k zP).1,((dQ p r).getD k zP).2)=(dQ p r).getD k zP from rfl,hj,e];rfl
def eO(gs:List dW):List Int:=gs.reverse.map fun f=>f.2.1
def cI(gs:List dW):List (List (Int×Int)):=gs.reverse.map fun f=>f.2.2
def wL:List Nat->Nat|[]=>0|n::ns=>1+n*(1+wB (12-ns.length))+wL ns
def aaa(S:St):List Nat:=match find S.bl 35 with|some (.cells [_,_,_,.row _ id])=>(match find S.bl id with|some (.row _ _ (.list _) xs)=>(xs.map fun l=>(Ty.L l).length).reverse|_=>[])|_=>[]
def cX(n:aO):Prop:=n=gz n.1/\bB n.1=0
def Z5:ba where args:=[.ref fT,I];out:=.data [.list nG];pre:=fun(x:aO×Int×Unit)=>cX x.1;fn:=fun(x:aO×Int×Unit)=>(vP x.1.1 x.2.1,())
def cP(n:aO)(s:Int):Int:=(uq n.1 s).1.1
def Am(n:aO)(s:Int)(g:(List dW×ai)×List aK):Prop:=g.2++ta n.1 s (cP n s) g.1.2 g.1.1=vP n.1 s/\g.1.1.length<=12
def kV(n:aO)(s:Int)(w:Nat)(g:List dW×List aK):Prop:=g.2++oP n.1 s (cP n s) g.1=vP n.1 s/\g.1.length<=12/\wF g.1<=w
def a138(x:aO×Int×Unit):gb:=bP [(9,fun _=>{σ:=(List dW×ai)×List aK,ok:=fun g=>Am x.1 x.2.1 g,mu:=fun g=>wE g.1.1,sl:=fun g=>[(8,.one (.row nG 1000)),(9,.one (.ptr 35 0))],bl:=fun g=>[(7,.cells [.aY I g.1.2.1,.aY I g.1.2.2]),(35,.cells [.aY I (cP x.1 x.2.1),.row nF 1001,.row I 1002,.row (.list AF) 1003]),(1001,.row false 216 nF (bO g.1.1)),(1002,.row false 3 I (eO g.1.1)),(1003,.row false 142 (.list AF) (cI g.1.1)),(1000,.row false 164 nG g.2)],keep:=[0,1,5,7],dL:=[5]}),(13,fun S=>{σ:=List dW×List aK,ok:=fun g=>kV x.1 x.2.1 (wL (aaa S)) g,mu:=fun g=>wF g.1,sl:=fun g=>[(8,.one (.row nG 1000)),(9,.one (.ptr 35 0))],bl:=fun g=>[(35,.cells [.aY I (cP x.1 x.2.1),.row nF 1001,.row I 1002,.row (.list AF) 1003]),(1001,.row false 216 nF (bO g.1)),(1002,.row false 3 I (eO g.1)),(1003,.row false 142 (.list AF) (cI g.1)),(1000,.row false 164 nG g.2)],keep:=[0,1,5,7],dL:=[5,7]})]
theorem Yo{p:ab}{x:ai}(h:(aD p x).2=false):(aD p x).1=(0,0):=by unfold aD at*;generalize(p.2.1.find? fun j=>j.1==x||j.2==x)=o at*;cases o with|none=>rfl|some j=>grind[Dr]
theorem pO{n:aO}(h:cX n)(x:ai):eP n x=aD n.1 x:=by have e:n.2.1=fU n.1:=(br (fun m:aO=>m.2.1) h.1).trans (by grind[gz]);grind[eP,ra,Yo]
theorem Dw(a:Ty){β:Type}(k:a.den):∀(l m:List (a.den×β)),cE a (l++m) k=(cE a l k).or (cE a m k)|[],m=>by rfl|(x,v)::l,m=>by have ih:=Dw a k l m;grind[cE]
theorem H2(p:ab)(x:ai):∀k,cE bj (iZ p k) x=Option.map (fun(i:Nat)=>(i:Int)) (gr (gD p x) k)|0=>rfl|k+1=>by show cE bj (iZ p k++[((p.2.2.1.getD k zS).2.1,(k:Int))]) x=_;rw[Dw,H2 p x k];unfold gr;rw[List.range_succ,List.find?_append];cases(List.range k).find? (gD p x)with|some i=>rfl|none=>show(bif Ty.mV bj x (p.2.2.1.getD k zS).2.1 then some (k:Int)else none)=Option.map _ ([k].find? (gD p x));grind[Gf,gD]
theorem qJ{n:aO}(h:cX n)(x:ai):jR n x=cg n.1 x:=by have e:n.2.2.1=iZ n.1 n.1.2.2.1.length:=(br (fun m:aO=>m.2.2.1) h.1).trans (by grind[gz,Jk]);(have e2:cg n.1 x=vt (gr (gD n.1 x) n.1.2.2.1.length):=by unfold cg;rfl);unfold jR;rw[e,H2,e2];cases gr (gD n.1 x) n.1.2.2.1.length<;>rfl
theorem xj(f:dW)(gs:List dW):eO (f::gs)=eO gs++[f.2.1]:=by grind[eO]
theorem vp(f:dW)(gs:List dW):cI (f::gs)=cI gs++[f.2.2]:=by grind[cI]
theorem zx(gs:List dW):(eO gs).length=gs.length:=by grind[eO]
theorem xp(gs:List dW):(cI gs).length=gs.length:=by grind[cI]
theorem CH{α:Type}(d x:α)(l:List α){n:Nat}(h:n=l.length):(l++[x]).getD n d=x:=by grind
theorem Ve{α:Type}(x y:α)(l:List α){n:Nat}(h:n=l.length):(l++[x]).set n y=l++[y]:=by subst h;simp
def nm(b:Int)(gs:List dW):lL:=(b,bO gs,eO gs,cI gs)
theorem Nt(b:Int){gs:List dW}(h:gs.length<=1000):lA (nm b gs):=⟨by show(bO gs).length<=1000;grind[jG],by show(eO gs).length=(bO gs).length;rw[zx,jG],by show(cI gs).length=(bO gs).length;rw[xp,jG]⟩
theorem abW(b:Int)(f:dW)(gs:List dW):o0 (nm b (f::gs))=nm b gs:=by unfold o0;show(b,(bO (f::gs)).take ((bO (f::gs)).length-1),(eO (f::gs)).take ((bO (f::gs)).length-1),(cI (f::gs)).take ((bO (f::gs)).length-1))=(b,bO gs,eO gs,cI gs);rw[jG,o8,xj,vp];grind[jG,zx,xp]
theorem Zw(b:Int)(n:aO)(x:ai)(gs:List dW):Ai (nm b gs) n x=nm b (((x.1,x.2,-1),0,ck n.1 x.1 x.2)::gs):=by unfold Ai;show _=(b,bO (_::gs),eO (_::gs),cI (_::gs));rw[o8,xj,vp];rfl
theorem KT(b:Int):∀(gs:List dW),iO (nm b gs) gs.length=xm gs|[]=>rfl|f::gs=>by have ih:=KT b gs;rw[BP,<-ih];show iO (nm b (f::gs)) gs.length++tm (nm b (f::gs)) gs.length=_;congr 1;(have:∀k,k<=gs.length->iO (nm b (f::gs)) k=iO (nm b gs) k:=fun k=>by induction k with|zero=>intro _;rfl|succ k ih=>intro hk;show iO _ k++tm _ k=iO _ k++tm _ k;rw[ih (by omega)];congr 1;show(bif(eO (f::gs)).getD k 0!=0 then[(((bO (f::gs)).getD k qE).1,(eO (f::gs)).getD k 0)]else[])=(bif(eO gs).getD k 0!=0 then[(((bO gs).getD k qE).1,(eO gs).getD k 0)]else[]);grind[xj,o8,zx,jG]);grind;show(bif(eO (f::gs)).getD gs.length 0!=0 then[(((bO (f::gs)).getD gs.length qE).1,(eO (f::gs)).getD gs.length 0)]else[])=_;rw[xj,o8,CH 0 _ _ (zx gs).symm,CH qE _ _ (jG gs).symm];simp[Nu,tR]
theorem Jc(b s to stop:Int)(gs:List dW):j7 (nm b gs) s to stop=sS s gs stop to:=by unfold j7 sS;grind[nm,jG,KT]
theorem abX(b:Int)(gs:List dW)(x:ai):Lb (nm b gs) x.1=BQ b gs x:=by unfold Lb BQ;show(decide ((bO gs).length<12)&&(!(x.1==b)&&!(bO gs).any (fQ x.1)))=_;rw[jG];(have:dx (p9 b gs) x.1=((x.1==b)||(bO gs).any (fQ x.1)):=by unfold dx p9 bO;rw[List.any_cons,List.any_map,List.any_map,oI b];rfl);grind
theorem xR:∀(gs:List dW),wF gs=wL ((cI gs).map fun l=>l.length).reverse|[]=>rfl|f::gs=>by have ih:=xR gs;rw[vp,List.map_append,List.reverse_append];show 1+f.2.2.length*(1+wB (12-gs.length))+wF gs=1+f.2.2.length*(1+wB (12-(((cI gs).map fun l=>l.length).reverse).length))+wL (((cI gs).map fun l=>l.length).reverse);grind[xp]
theorem Vk{n:aO}{s:Int}{w:Nat}{g:List dW×List aK}(h:kV n s w g):g.2.length<=8192:=by have h1:=br List.length h.1;grind[G8]
theorem Wv{n:aO}{s:Int}{g:(List dW×ai)×List aK}(h:Am n s g):g.2.length<=8192:=by have h1:=br List.length h.1;grind[G8]
theorem E5(n:aO)(s:Int)(W:Nat)(y4 y5:Int)(y6:List aK)(s7:(List dW×ai)×List aK)(hn:cX n)(hW:W<wE s7.1.1)(e6:y6=List.replicate 1 (0,0,0,[],[],[],[],[],false)):(∀(dj:List dW×List aK),U (decide ((↑(bO dj.1).length:Int)>(0:Int))) fun(ef:Bool)=>U ((↑(bO dj.1).length:Int)-(1:Int)) fun(cW:Int)=>U ((cI dj.1).getD cW.toNat []) fun(df:List (Int×Int))=>U (cP n s,bO dj.1,eO dj.1,cI dj.1) fun(eL:Int×List (Int×Int×Int)×List Int×List (List (Int×Int)))=>U ((bO dj.1).getD cW.toNat ((0:Int),(0:Int),(0:Int))) fun(eT:Int×Int×Int)=>U (df.getD (Int.toNat (0:Int)) ((0:Int),(0:Int))) fun(ia:Int×Int)=>U ((bO dj.1).set cW.toNat (eT.1,eT.2.1,ia.1)) fun(gf:List (Int×Int×Int))=>U ((gf.getD cW.toNat ((0:Int),(0:Int),(0:Int))).1,ia.1) fun(iH:Int×Int)=>U (decide (jR n iH>=(0:Int))) fun(fE:Bool)=>U ((eO dj.1).set cW.toNat ia.2) fun(lS:List Int)=>U ((cI dj.1).set cW.toNat (List.drop (Int.toNat (1:Int)) df)) fun(na:List (List (Int×Int)))=>U (cP n s,gf,lS,na) fun(mO:Int×List (Int×Int×Int)×List Int×List (List (Int×Int)))=>U (y6.set (0:Nat) (j7 mO s (jR n iH) (1:Int))) fun(pZ:List (Int×Int×Int×List (Int×Int×Int)×List (Int×Int)×List (Int×Int)×List Int×List Int×Bool))=>U (y6.set (0:Nat) (j7 mO s (-1:Int) (3:Int))) fun(rk:List (Int×Int×Int×List (Int×Int×Int)×List (Int×Int)×List (Int×Int)×List Int×List Int×Bool))=>kV n s W dj->(ef=true->bJ IntKind.i64 cW/\bF cW (cI dj.1).length/\(((df.length:Int)==(0:Int))=true->(lA eL/\(0:Nat)<(bO dj.1).length)/\∃(aB:List dW×List aK),kV n s W aB/\wF aB.1<wF dj.1/\[n]=[n]/\(0:Nat)=(0:Nat)/\s=s/\cP n s=(o0 eL).1/\bO aB.1=(o0 eL).2.1/\eO aB.1=(o0 eL).2.2.1/\cI aB.1=(o0 eL).2.2.2/\aB.2=dj.2/\y4=y4/\y5=y5/\s7.1.2.1=s7.1.2.1/\s7.1.2.2=s7.1.2.2/\True)/\(((df.length:Int)==(0:Int))=false->bF cW (cI dj.1).length/\bF (0:Int) df.length/\bF cW (cI dj.1).length/\((0:Int)<=(1:Int)/\(1:Int)<=(df.length:Int))/\bF cW (cI dj.1).length/\bF cW (bO dj.1).length/\bF cW (eO dj.1).length/\bF cW gf.length/\True/\(fE=true->lA mO/\roomFor (dj.2.length+pZ.length) (152:Nat)/\∃(aB:List dW×List aK),kV n s W aB/\wF aB.1<wF dj.1/\[n]=[n]/\(0:Nat)=(0:Nat)/\s=s/\cP n s=cP n s/\bO aB.1=gf/\eO aB.1=lS/\cI aB.1=na/\aB.2=dj.2++pZ/\y4=y4/\y5=y5/\s7.1.2.1=s7.1.2.1/\s7.1.2.2=s7.1.2.2/\True)/\(fE=false->True/\((!(eP n iH).2)=true->lA mO/\roomFor (dj.2.length+rk.length) (152:Nat)/\∃(aB:List dW×List aK),kV n s W aB/\wF aB.1<wF dj.1/\[n]=[n]/\(0:Nat)=(0:Nat)/\s=s/\cP n s=cP n s/\bO aB.1=gf/\eO aB.1=lS/\cI aB.1=na/\aB.2=dj.2++rk/\y4=y4/\y5=y5/\s7.1.2.1=s7.1.2.1/\s7.1.2.2=s7.1.2.2/\True)/\((!(eP n iH).2)=false->∃(aB:(List dW×ai)×List aK),Am n s aB/\wE aB.1.1<wE s7.1.1/\[n]=[n]/\(0:Nat)=(0:Nat)/\s=s/\aB.1.2.1=(eP n iH).1.1/\aB.1.2.2=(eP n iH).1.2/\cP n s=cP n s/\bO aB.1.1=gf/\eO aB.1.1=lS/\cI aB.1.1=na/\aB.2=dj.2/\y4=y4/\y5=y5/\True))))/\(ef=false->dj.2=vP n.1 s/\True)):=by intro dj;refine U.mk fun ef ki=>U.mk fun cW mS=>U.mk fun df mR=>U.mk fun eL o7=>U.mk fun eT uv=>U.mk fun ia xA=>U.mk fun gf uu=>U.mk fun iH Bv=>U.mk fun fE tF=>U.mk fun lS Jq=>U.mk fun na Fu=>U.mk fun mO CL=>U.mk fun pZ Kp=>U.mk fun rk Wz=>fun nB=>?_;have hlen:=Vk nB;obtain⟨gs,out⟩:=dj;obtain⟨h1,h2,h3⟩:=nB;have h1:out++oP n.1 s (cP n s) gs=vP n.1 s:=h1;have h2:gs.length<=12:=h2;have h3:wF gs<=W:=h3;have hlen:out.length<=8192:=hlen;cases gs with|nil=>(have:ef=false:=by rw[ki];rfl);refine⟨fun h=>(by grind),fun _=>⟨?_,trivial⟩⟩;rw[<-h1];exact(List.append_nil out).symm|cons f gs=>obtain⟨⟨e,i,o⟩,pos,l⟩:=f;have h2:gs.length+1<=12:=h2;(have aqi:ef=true:=by grind[jG]);(have aqh:cW=(gs.length:Int):=by grind[jG]);(have hk:cW.toNat=gs.length:=by omega);(have YI:df=l:=by grind[vp,xp]);have aj5:eL=nm (cP n s) (((e,i,o),pos,l)::gs):=o7;have Fb:(bO (((e,i,o),pos,l)::gs)).length=gs.length+1:=jG _;have o6:(eO (((e,i,o),pos,l)::gs)).length=gs.length+1:=zx _;have hll:(cI (((e,i,o),pos,l)::gs)).length=gs.length+1:=xp _;have R6:∀m,m=gs.length+1->bF cW m:=fun m hm=>⟨by omega,by omega⟩;refine⟨fun _=>⟨bI (by omega) (by omega),R6 _ hll,fun hz=>?_,fun hz=>?_⟩,fun h=>(by grind)⟩;(have Br:l=[]:=by grind);subst Br;refine⟨⟨by grind[Nt],by omega⟩,(gs,out),⟨h1,by grind,?_⟩,adG _ _ _ gs,rfl,rfl,rfl,?_⟩;grind[wF];rw[aj5,abW];exact⟨rfl,rfl,rfl,rfl,rfl,rfl,rfl,rfl,rfl,trivial⟩;cases l with|nil=>grind|cons w ws=>(have ac2:ia=w:=by grind);(have aqg:eT=(e,i,o):=by grind[o8]);(have TA:gf=bO (((e,i,w.1),w.2,ws)::gs):=by grind[o8]);(have aqf:iH=(e,w.1):=by grind);(have Tz:lS=eO (((e,i,w.1),w.2,ws)::gs):=by grind[xj,Ve]);(have Tx:na=cI (((e,i,w.1),w.2,ws)::gs):=by grind[vp]);(have aqe:mO=nm (cP n s) (((e,i,w.1),w.2,ws)::gs):=by rw[CL,TA,Tz,Tx];rfl);(have hR:jR n iH=cg n.1 (e,w.1):=by grind[qJ]);(have hN:eP n iH=aD n.1 (e,w.1):=by grind[pO]);(have aqd:pZ=[sS s (((e,i,w.1),w.2,ws)::gs) 1 (cg n.1 (e,w.1))]:=by grind[Jc]);(have aqc:rk=[sS s (((e,i,w.1),w.2,ws)::gs) 3 (-1)]:=by grind[Jc]);(have YZ:lA mO:=by grind[Nt]);have hwl:=adF (e,i,o) (e,i,w.1) pos w.2 w ws gs;(have akv:gf.length=gs.length+1:=by grind);refine⟨R6 _ hll,⟨by omega,by grind⟩,R6 _ hll,⟨by omega,by grind⟩,R6 _ hll,R6 _ Fb,R6 _ o6,R6 _ akv,trivial,fun GX=>?_,fun GX=>⟨trivial,fun hx=>?_,fun hx=>?_⟩⟩;(have GX:decide (0<=cg n.1 (e,w.1))=true:=by grind);refine⟨YZ,gS (by grind) (by decide),(((e,i,w.1),w.2,ws)::gs,out++pZ),⟨?_,h2,dk (Nat.le_of_lt hwl) h3⟩,hwl,rfl,rfl,rfl,rfl,TA.symm,Tz.symm,Tx.symm,rfl,rfl,rfl,rfl,rfl,trivial⟩;grind[Ml];(have GX:decide (0<=cg n.1 (e,w.1))=false:=by grind);(have hx:(aD n.1 (e,w.1)).2=false:=by grind);refine⟨YZ,gS (by grind) (by decide),(((e,i,w.1),w.2,ws)::gs,out++rk),⟨?_,h2,dk (Nat.le_of_lt hwl) h3⟩,hwl,rfl,rfl,rfl,rfl,TA.symm,Tz.symm,Tx.symm,rfl,rfl,rfl,rfl,rfl,trivial⟩;grind[Mm];(have GX:decide (0<=cg n.1 (e,w.1))=false:=by grind);(have hx:(aD n.1 (e,w.1)).2=true:=by grind);have hwo:=ahy (e,i,o) (e,i,w.1) pos w.2 w ws gs;refine⟨((((e,i,w.1),w.2,ws)::gs,(eP n iH).1),out),⟨?_,h2⟩,by grind,rfl,rfl,rfl,rfl,rfl,rfl,TA.symm,Tz.symm,Tx.symm,rfl,rfl,rfl,trivial⟩;show out++ta n.1 s (cP n s) (eP n iH).1 (((e,i,w.1),w.2,ws)::gs)=_;grind[XV]
theorem v138(n:aO)(s:Int):aj (aq aP [(177,Lt),(117,qp),(61,xF),(92,oH),(178,PX),(179,Ls),(180,Lr),(181,Lq)]) Tryz.f138 Z5 (a138 (n,s,())) (n,s,())=( U (!(uq n.1 s).2) fun(y2:Bool)=>U (eP n (uq n.1 s).1) fun(y3:ai×Bool)=>U (uq n.1 s).1.1 fun(y4:Int)=>U (uq n.1 s).1.2 fun(y5:Int)=>U (List.replicate (1:Nat) ((0:Int),(0:Int),(0:Int),[],[],[],[],[],false)) fun(y6:List (aK))=>True/\(y2=true->[]=vP n.1 s/\True)/\(y2=false->True/\((!y3.2)=true->[]=vP n.1 s/\True)/\((!y3.2)=false->(∃(lW:(List dW×ai)×List aK),Am n s lW/\[n]=[n]/\(0:Nat)=(0:Nat)/\s=s/\lW.1.2.1=y3.1.1/\lW.1.2.2=y3.1.2/\cP n s=y4/\bO lW.1.1=[]/\eO lW.1.1=[]/\cI lW.1.1=[]/\lW.2=[]/\y4=y4/\y5=y5/\True)/\∀(s7:(List dW×ai)×List aK),U (cP n s,bO s7.1.1,eO s7.1.1,cI s7.1.1) fun(y8:Int×List (Int×Int×Int)×List Int×List (List (Int×Int)))=>U (Lb y8 s7.1.2.1) fun(y9:Bool)=>U (ay n.1 s7.1.2.1==(4:Int)) fun(cy:Bool)=>U (Ai y8 n s7.1.2) fun(bD:lL)=>U (y6.set (0:Nat) (j7 bD s (-1:Int) (2:Int))) fun(bN:List (aK))=>Am n s s7->(bO s7.1.1).length<=(1000:Nat)/\(y9=true->lA y8/\True/\(cy=true->lA bD/\roomFor (s7.2.length+bN.length) (152:Nat)/\(∃(mT:List dW×List aK),kV n s (wL (List.map (fun(l:List (Int×Int))=>l.length) bD.2.2.2).reverse) mT/\[n]=[n]/\(0:Nat)=(0:Nat)/\s=s/\cP n s=bD.1/\bO mT.1=bD.2.1/\eO mT.1=bD.2.2.1/\cI mT.1=bD.2.2.2/\mT.2=s7.2++bN/\y4=y4/\y5=y5/\s7.1.2.1=s7.1.2.1/\s7.1.2.2=s7.1.2.2/\True)/\∀(dj:List dW×List aK),U (decide ((↑(bO dj.1).length:Int)>(0:Int))) fun(ef:Bool)=>U ((↑(bO dj.1).length:Int)-(1:Int)) fun(cW:Int)=>U ((cI dj.1).getD cW.toNat []) fun(df:List (Int×Int))=>U (cP n s,bO dj.1,eO dj.1,cI dj.1) fun(eL:Int×List (Int×Int×Int)×List Int×List (List (Int×Int)))=>U ((bO dj.1).getD cW.toNat ((0:Int),(0:Int),(0:Int))) fun(eT:Int×Int×Int)=>U (df.getD (Int.toNat (0:Int)) ((0:Int),(0:Int))) fun(ia:Int×Int)=>U ((bO dj.1).set cW.toNat (eT.1,eT.2.1,ia.1)) fun(gf:List (Int×Int×Int))=>U ((gf.getD cW.toNat ((0:Int),(0:Int),(0:Int))).1,ia.1) fun(iH:Int×Int)=>U (decide (jR n iH>=(0:Int))) fun(fE:Bool)=>U ((eO dj.1).set cW.toNat ia.2) fun(lS:List Int)=>U ((cI dj.1).set cW.toNat (List.drop (Int.toNat (1:Int)) df)) fun(na:List (List (Int×Int)))=>U (cP n s,gf,lS,na) fun(mO:Int×List (Int×Int×Int)×List Int×List (List (Int×Int)))=>U (y6.set (0:Nat) (j7 mO s (jR n iH) (1:Int))) fun(pZ:List (aK))=>U (y6.set (0:Nat) (j7 mO s (-1:Int) (3:Int))) fun(rk:List (aK))=>kV n s (wL (List.map (fun(l:List (Int×Int))=>l.length) bD.2.2.2).reverse) dj->(ef=true->bJ IntKind.i64 cW/\bF cW (cI dj.1).length/\(((df.length:Int)==(0:Int))=true->(lA eL/\(0:Nat)<(bO dj.1).length)/\∃(aB:List dW×List aK),kV n s (wL (List.map (fun(l:List (Int×Int))=>l.length) bD.2.2.2).reverse) aB/\wF aB.1<wF dj.1/\[n]=[n]/\(0:Nat)=(0:Nat)/\s=s/\cP n s=(o0 eL).1/\bO aB.1=(o0 eL).2.1/\eO aB.1=(o0 eL).2.2.1/\cI aB.1=(o0 eL).2.2.2/\aB.2=dj.2/\y4=y4/\y5=y5/\s7.1.2.1=s7.1.2.1/\s7.1.2.2=s7.1.2.2/\True)/\(((df.length:Int)==(0:Int))=false->bF cW (cI dj.1).length/\bF (0:Int) df.length/\bF cW (cI dj.1).length/\((0:Int)<=(1:Int)/\(1:Int)<=(df.length:Int))/\bF cW (cI dj.1).length/\bF cW (bO dj.1).length/\bF cW (eO dj.1).length/\bF cW gf.length/\True/\(fE=true->lA mO/\roomFor (dj.2.length+pZ.length) (152:Nat)/\∃(aB:List dW×List aK),kV n s (wL (List.map (fun(l:List (Int×Int))=>l.length) bD.2.2.2).reverse) aB/\wF aB.1<wF dj.1/\[n]=[n]/\(0:Nat)=(0:Nat)/\s=s/\cP n s=cP n s/\bO aB.1=gf/\eO aB.1=lS/\cI aB.1=na/\aB.2=dj.2++pZ/\y4=y4/\y5=y5/\s7.1.2.1=s7.1.2.1/\s7.1.2.2=s7.1.2.2/\True)/\(fE=false->True/\((!(eP n iH).2)=true->lA mO/\roomFor (dj.2.length+rk.length) (152:Nat)/\∃(aB:List dW×List aK),kV n s (wL (List.map (fun(l:List (Int×Int))=>l.length) bD.2.2.2).reverse) aB/\wF aB.1<wF dj.1/\[n]=[n]/\(0:Nat)=(0:Nat)/\s=s/\cP n s=cP n s/\bO aB.1=gf/\eO aB.1=lS/\cI aB.1=na/\aB.2=dj.2++rk/\y4=y4/\y5=y5/\s7.1.2.1=s7.1.2.1/\s7.1.2.2=s7.1.2.2/\True)/\((!(eP n iH).2)=false->∃(aB:(List dW×ai)×List aK),Am n s aB/\wE aB.1.1<wE s7.1.1/\[n]=[n]/\(0:Nat)=(0:Nat)/\s=s/\aB.1.2.1=(eP n iH).1.1/\aB.1.2.2=(eP n iH).1.2/\cP n s=cP n s/\bO aB.1.1=gf/\eO aB.1.1=lS/\cI aB.1.1=na/\aB.2=dj.2/\y4=y4/\y5=y5/\True))))/\(ef=false->dj.2=vP n.1 s/\True))/\(cy=false->(∃(mT:List dW×List aK),kV n s (wL (List.map (fun(l:List (Int×Int))=>l.length) bD.2.2.2).reverse) mT/\[n]=[n]/\(0:Nat)=(0:Nat)/\s=s/\cP n s=bD.1/\bO mT.1=bD.2.1/\eO mT.1=bD.2.2.1/\cI mT.1=bD.2.2.2/\mT.2=s7.2/\y4=y4/\y5=y5/\s7.1.2.1=s7.1.2.1/\s7.1.2.2=s7.1.2.2/\True)/\∀(dj:List dW×List aK),U (decide ((↑(bO dj.1).length:Int)>(0:Int))) fun(ef:Bool)=>U ((↑(bO dj.1).length:Int)-(1:Int)) fun(cW:Int)=>U ((cI dj.1).getD cW.toNat []) fun(df:List (Int×Int))=>U (cP n s,bO dj.1,eO dj.1,cI dj.1) fun(eL:Int×List (Int×Int×Int)×List Int×List (List (Int×Int)))=>U ((bO dj.1).getD cW.toNat ((0:Int),(0:Int),(0:Int))) fun(eT:Int×Int×Int)=>U (df.getD (Int.toNat (0:Int)) ((0:Int),(0:Int))) fun(ia:Int×Int)=>U ((bO dj.1).set cW.toNat (eT.1,eT.2.1,ia.1)) fun(gf:List (Int×Int×Int))=>U ((gf.getD cW.toNat ((0:Int),(0:Int),(0:Int))).1,ia.1) fun(iH:Int×Int)=>U (decide (jR n iH>=(0:Int))) fun(fE:Bool)=>U ((eO dj.1).set cW.toNat ia.2) fun(lS:List Int)=>U ((cI dj.1).set cW.toNat (List.drop (Int.toNat (1:Int)) df)) fun(na:List (List (Int×Int)))=>U (cP n s,gf,lS,na) fun(mO:Int×List (Int×Int×Int)×List Int×List (List (Int×Int)))=>U (y6.set (0:Nat) (j7 mO s (jR n iH) (1:Int))) fun(pZ:List (aK))=>U (y6.set (0:Nat) (j7 mO s (-1:Int) (3:Int))) fun(rk:List (aK))=>kV n s (wL (List.map (fun(l:List (Int×Int))=>l.length) bD.2.2.2).reverse) dj->(ef=true->bJ IntKind.i64 cW/\bF cW (cI dj.1).length/\(((df.length:Int)==(0:Int))=true->(lA eL/\(0:Nat)<(bO dj.1).length)/\∃(aB:List dW×List aK),kV n s (wL (List.map (fun(l:List (Int×Int))=>l.length) bD.2.2.2).reverse) aB/\wF aB.1<wF dj.1/\[n]=[n]/\(0:Nat)=(0:Nat)/\s=s/\cP n s=(o0 eL).1/\bO aB.1=(o0 eL).2.1/\eO aB.1=(o0 eL).2.2.1/\cI aB.1=(o0 eL).2.2.2/\aB.2=dj.2/\y4=y4/\y5=y5/\s7.1.2.1=s7.1.2.1/\s7.1.2.2=s7.1.2.2/\True)/\(((df.length:Int)==(0:Int))=false->bF cW (cI dj.1).length/\bF (0:Int) df.length/\bF cW (cI dj.1).length/\((0:Int)<=(1:Int)/\(1:Int)<=(df.length:Int))/\bF cW (cI dj.1).length/\bF cW (bO dj.1).length/\bF cW (eO dj.1).length/\bF cW gf.length/\True/\(fE=true->lA mO/\roomFor (dj.2.length+pZ.length) (152:Nat)/\∃(aB:List dW×List aK),kV n s (wL (List.map (fun(l:List (Int×Int))=>l.length) bD.2.2.2).reverse) aB/\wF aB.1<wF dj.1/\[n]=[n]/\(0:Nat)=(0:Nat)/\s=s/\cP n s=cP n s/\bO aB.1=gf/\eO aB.1=lS/\cI aB.1=na/\aB.2=dj.2++pZ/\y4=y4/\y5=y5/\s7.1.2.1=s7.1.2.1/\s7.1.2.2=s7.1.2.2/\True)/\(fE=false->True/\((!(eP n iH).2)=true->lA mO/\roomFor (dj.2.length+rk.length) (152:Nat)/\∃(aB:List dW×List aK),kV n s (wL (List.map (fun(l:List (Int×Int))=>l.length) bD.2.2.2).reverse) aB/\wF aB.1<wF dj.1/\[n]=[n]/\(0:Nat)=(0:Nat)/\s=s/\cP n s=cP n s/\bO aB.1=gf/\eO aB.1=lS/\cI aB.1=na/\aB.2=dj.2++rk/\y4=y4/\y5=y5/\s7.1.2.1=s7.1.2.1/\s7.1.2.2=s7.1.2.2/\True)/\((!(eP n iH).2)=false->∃(aB:(List dW×ai)×List aK),Am n s aB/\wE aB.1.1<wE s7.1.1/\[n]=[n]/\(0:Nat)=(0:Nat)/\s=s/\aB.1.2.1=(eP n iH).1.1/\aB.1.2.2=(eP n iH).1.2/\cP n s=cP n s/\bO aB.1.1=gf/\eO aB.1.1=lS/\cI aB.1.1=na/\aB.2=dj.2/\y4=y4/\y5=y5/\True))))/\(ef=false->dj.2=vP n.1 s/\True)))/\(y9=false->(∃(mT:List dW×List aK),kV n s (wL (List.map (fun(l:List (Int×Int))=>l.length) (cI s7.1.1)).reverse) mT/\[n]=[n]/\(0:Nat)=(0:Nat)/\s=s/\cP n s=cP n s/\bO mT.1=bO s7.1.1/\eO mT.1=eO s7.1.1/\cI mT.1=cI s7.1.1/\mT.2=s7.2/\y4=y4/\y5=y5/\s7.1.2.1=s7.1.2.1/\s7.1.2.2=s7.1.2.2/\True)/\∀(dj:List dW×List aK),U (decide ((↑(bO dj.1).length:Int)>(0:Int))) fun(ef:Bool)=>U ((↑(bO dj.1).length:Int)-(1:Int)) fun(cW:Int)=>U ((cI dj.1).getD cW.toNat []) fun(df:List (Int×Int))=>U (cP n s,bO dj.1,eO dj.1,cI dj.1) fun(eL:Int×List (Int×Int×Int)×List Int×List (List (Int×Int)))=>U ((bO dj.1).getD cW.toNat ((0:Int),(0:Int),(0:Int))) fun(eT:Int×Int×Int)=>U (df.getD (Int.toNat (0:Int)) ((0:Int),(0:Int))) fun(ia:Int×Int)=>U ((bO dj.1).set cW.toNat (eT.1,eT.2.1,ia.1)) fun(gf:List (Int×Int×Int))=>U ((gf.getD cW.toNat ((0:Int),(0:Int),(0:Int))).1,ia.1) fun(iH:Int×Int)=>U (decide (jR n iH>=(0:Int))) fun(fE:Bool)=>U ((eO dj.1).set cW.toNat ia.2) fun(lS:List Int)=>U ((cI dj.1).set cW.toNat (List.drop (Int.toNat (1:Int)) df)) fun(na:List (List (Int×Int)))=>U (cP n s,gf,lS,na) fun(mO:Int×List (Int×Int×Int)×List Int×List (List (Int×Int)))=>U (y6.set (0:Nat) (j7 mO s (jR n iH) (1:Int))) fun(pZ:List (aK))=>U (y6.set (0:Nat) (j7 mO s (-1:Int) (3:Int))) fun(rk:List (aK))=>kV n s (wL (List.map (fun(l:List (Int×Int))=>l.length) (cI s7.1.1)).reverse) dj->(ef=true->bJ IntKind.i64 cW/\bF cW (cI dj.1).length/\(((df.length:Int)==(0:Int))=true->(lA eL/\(0:Nat)<(bO dj.1).length)/\∃(aB:List dW×List aK),kV n s (wL (List.map (fun(l:List (Int×Int))=>l.length) (cI s7.1.1)).reverse) aB/\wF aB.1<wF dj.1/\[n]=[n]/\(0:Nat)=(0:Nat)/\s=s/\cP n s=(o0 eL).1/\bO aB.1=(o0 eL).2.1/\eO aB.1=(o0 eL).2.2.1/\cI aB.1=(o0 eL).2.2.2/\aB.2=dj.2/\y4=y4/\y5=y5/\s7.1.2.1=s7.1.2.1/\s7.1.2.2=s7.1.2.2/\True)/\(((df.length:Int)==(0:Int))=false->bF cW (cI dj.1).length/\bF (0:Int) df.length/\bF cW (cI dj.1).length/\((0:Int)<=(1:Int)/\(1:Int)<=(df.length:Int))/\bF cW (cI dj.1).length/\bF cW (bO dj.1).length/\bF cW (eO dj.1).length/\bF cW gf.length/\True/\(fE=true->lA mO/\roomFor (dj.2.length+pZ.length) (152:Nat)/\∃(aB:List dW×List aK),kV n s (wL (List.map (fun(l:List (Int×Int))=>l.length) (cI s7.1.1)).reverse) aB/\wF aB.1<wF dj.1/\[n]=[n]/\(0:Nat)=(0:Nat)/\s=s/\cP n s=cP n s/\bO aB.1=gf/\eO aB.1=lS/\cI aB.1=na/\aB.2=dj.2++pZ/\y4=y4/\y5=y5/\s7.1.2.1=s7.1.2.1/\s7.1.2.2=s7.1.2.2/\True)/\(fE=false->True/\((!(eP n iH).2)=true->lA mO/\roomFor (dj.2.length+rk.length) (152:Nat)/\∃(aB:List dW×List aK),kV n s (wL (List.map (fun(l:List (Int×Int))=>l.length) (cI s7.1.1)).reverse) aB/\wF aB.1<wF dj.1/\[n]=[n]/\(0:Nat)=(0:Nat)/\s=s/\cP n s=cP n s/\bO aB.1=gf/\eO aB.1=lS/\cI aB.1=na/\aB.2=dj.2++rk/\y4=y4/\y5=y5/\s7.1.2.1=s7.1.2.1/\s7.1.2.2=s7.1.2.2/\True)/\((!(eP n iH).2)=false->∃(aB:(List dW×ai)×List aK),Am n s aB/\wE aB.1.1<wE s7.1.1/\[n]=[n]/\(0:Nat)=(0:Nat)/\s=s/\aB.1.2.1=(eP n iH).1.1/\aB.1.2.2=(eP n iH).1.2/\cP n s=cP n s/\bO aB.1.1=gf/\eO aB.1.1=lS/\cI aB.1.1=na/\aB.2=dj.2/\y4=y4/\y5=y5/\True))))/\(ef=false->dj.2=vP n.1 s/\True))))):=by kernel_rfl
theorem al1(n:aO)(s:Int)(hn:cX n):aj (aq aP [(177,Lt),(117,qp),(61,xF),(92,oH),(178,PX),(179,Ls),(180,Lr),(181,Lq)]) Tryz.f138 Z5 (a138 (n,s,())) (n,s,()):=by
 rw[v138];refine U.mk fun y2 e2=>U.mk fun y3 e3=>U.mk fun y4 e4=>U.mk fun y5 e5=>U.mk fun y6 e6=>⟨trivial,fun h=>⟨?_,trivial⟩,fun h=>⟨trivial,fun h3=>⟨?_,trivial⟩,fun h3=>⟨?_,?_⟩⟩⟩;grind[vP];grind[vP,pO];refine⟨(([],y3.1),[]),⟨?_,bw _⟩,rfl,rfl,rfl,rfl,rfl,e4.symm,rfl,rfl,rfl,rfl,rfl,rfl,trivial⟩;show[]++ta n.1 s (cP n s) y3.1 []=vP n.1 s;unfold vP;rw[<-e2,h,<-pO hn,<-e3,h3];exact List.append_nil _;intro s7;refine U.mk fun y8 e8=>U.mk fun y9 e9=>U.mk fun cy eG=>U.mk fun bD fY=>U.mk fun bN fz=>fun nB=>?_;have hlen:=Wv nB;obtain⟨⟨gs,x⟩,out⟩:=s7;obtain⟨h1,h2⟩:=nB;have h1:out++ta n.1 s (cP n s) x gs=vP n.1 s:=h1;have h2:gs.length<=12:=h2;have hlen:out.length<=8192:=hlen;have hy8:y8=nm (cP n s) gs:=e8;have R7:y9=BQ (cP n s) gs x:=by grind[abX]
 have TB:bD=nm (cP n s) (((x.1,x.2,-1),0,ck n.1 x.1 x.2)::gs):=by grind[Zw]
 have hL:(List.map (fun(l:List (Int×Int))=>l.length) bD.2.2.2).reverse=(List.map (fun(l:List (Int×Int))=>l.length) (cI (((x.1,x.2,-1),0,ck n.1 x.1 x.2)::gs))).reverse:=by rw[TB];rfl
 refine⟨by grind[jG],fun h9=>?_,fun h9=>?_⟩;have hm:BQ (cP n s) gs x=true:=by grind
 have ml:gs.length<12:=by unfold BQ at hm;grind
 have jq:=PE (p:=n.1) (s:=s) hm;have hwp:wF (((x.1,x.2,-1),0,ck n.1 x.1 x.2)::gs)<wE gs:=aaP ml;refine⟨by grind[Nt],trivial,fun lv=>?_,fun lv=>?_⟩;have lv:(ay n.1 x.1==4)=true:=by grind
 have YJ:bN=[sS s (((x.1,x.2,-1),0,[])::gs) 2 (-1)]:=by grind[Jc,ck]
 refine⟨by grind[Nt],gS (by grind) (by decide),⟨(((x.1,x.2,-1),0,ck n.1 x.1 x.2)::gs,out++bN),⟨?_,by grind,?_⟩,?_⟩,?_⟩;grind;rw[hL,<-xR];simp;rw[TB];exact⟨rfl,rfl,rfl,rfl,rfl,rfl,rfl,rfl,rfl,rfl,rfl,rfl,trivial⟩;refine E5 n s _ y4 y5 y6 ((gs,x),out) hn ?_ e6;grind[xR];have lv:(ay n.1 x.1==4)=false:=by grind
 refine⟨⟨(((x.1,x.2,-1),0,ck n.1 x.1 x.2)::gs,out),⟨?_,by grind,?_⟩,?_⟩,?_⟩;grind;rw[hL,<-xR];simp;rw[TB];exact⟨rfl,rfl,rfl,rfl,rfl,rfl,rfl,rfl,rfl,rfl,rfl,rfl,trivial⟩;refine E5 n s _ y4 y5 y6 ((gs,x),out) hn ?_ e6;grind[xR];have hm:BQ (cP n s) gs x=false:=by grind
 have rL:=Wu (p:=n.1) (s:=s) h2 hm;refine⟨⟨(gs,out),⟨?_,h2,?_⟩,rfl,rfl,rfl,rfl,rfl,rfl,rfl,rfl,rfl,rfl,rfl,rfl,trivial⟩,?_⟩;grind;simp[xR];refine E5 n s _ y4 y5 y6 ((gs,x),out) hn ?_ e6;grind[xR,ahz]
theorem aeS:aL Tryz.prog 138 Z5:=aL.cu (l:=[(177,Lt),(117,qp),(61,xF),(92,oH),(178,PX),(179,Ls),(180,Lr),(181,Lq)]) (A:=a138) aM ⟨aer,Cs,Ic,wa,aeq,aep,aeo,aen,trivial⟩ Tryz.func138 (by rfl) (by rfl) fun x _ hp=>al1 x.1 x.2.1 hp
theorem Xh(p:ab){j k:Nat}(h:j<=k):(mG p j).length<=(mG p k).length:=by induction k with|zero=>grind|succ k ih=>by_cases hj:j=k+1;grind;grind[yH]
theorem all_eq(p:ab):jg p=bif decide (64<(mG p p.2.2.1.length).length)then([],3)else(mG p p.2.2.1.length,0):=by(have hA:jg p=bif bT (xN p) p.2.2.1.length then([],3)else(mG p p.2.2.1.length,0):=by grind[jg]);rw[hA];congr 1;by_cases h:64<(mG p p.2.2.1.length).length;grind[GA];rw[aE h];refine dS.2 fun i hi=>?_;unfold xN;have:=Xh p (show i+1<=p.2.2.1.length by omega);grind
theorem En(p:ab):∀k,(mG p k).length<=k*8192|0=>by grind[mG]|k+1=>by rw[yH,cT];have:=En p k;have:=G8 p k;omega
def pU(p:ab)(s:eA):List Int:=bif ay p s.1==2 then[3-max s.2.1 s.2.2]else bif ay p s.1==3 then(bif decide (s.2.1>1)then[0,1]else[2,3])else[]
def LG:ba where args:=[.ref fT,nG];out:=.row 71 bj;pre:=fun(x:aO×aK×Unit)=>cX x.1/\xe x.2.1;fn:=fun(x:aO×aK×Unit)=>(dQ x.1.1 x.2.1,())
def stepOf(x:aK)(i:Int):eA:=x.2.2.2.1.getD i.toNat qE
def a141(x:aO×aK×Unit):gb:=bP [(3,fun _=>u9 x.2.1.2.2.2.1.length 18 5 1000 71 bj (fun k=>gF x.1.1 x.2.1 k) [0,3,16,17] [3]),(15,fun S=>{σ:=Nat,ok:=fun j=>j<=(pU x.1.1 (stepOf x.2.1 (eV S 18))).length,mu:=fun j=>(pU x.1.1 (stepOf x.2.1 (eV S 18))).length-j,sl:=fun j=>[(45,.one (.aY I (j:Int))),(5,.one (.row bj 1001)),(43,.one (.row I 1002)),(44,.one (.aY I ((pU x.1.1 (stepOf x.2.1 (eV S 18))).length:Int)))],bl:=fun j=>[(1001,.row false 71 bj (gF x.1.1 x.2.1 (eV S 18).toNat++fM x.1.1 ((pg x.1.1 (stepOf x.2.1 (eV S 18))).take j))),(1002,.row false 3 I (pU x.1.1 (stepOf x.2.1 (eV S 18))))],keep:=[0,3,7,16,17,18],dL:=[3,7]})] [26,36,41,59]
abbrev ag6:eX:=.cells true (.pair (.aY I) (.pair (.aY I) (.pair (.aY I) (.pair (.row 216 nF) (.pair (.row 219 n6) (.pair (.row 219 n6) (.pair (.row 3 I) (.pair (.row 3 I) (.aY .bool)))))))))
def XY(r:aK):aK:=(r.1,r.2.1,r.2.2.1,r.2.2.2.1,r.2.2.2.2.1,r.2.2.2.2.2.1,r.2.2.2.2.2.2.1,r.2.2.2.2.2.2.2.1,true)
def XX(r:aK)(z:List Int):aK:=(r.1,r.2.1,r.2.2.1,r.2.2.2.1,r.2.2.2.2.1,r.2.2.2.2.2.1,z,r.2.2.2.2.2.2.2)
@[irreducible]def eF(r:aK)(e:Int):Bool×aK:=bif dx r.2.2.2.2.2.2.1 e then(true,r)else bif decide (12<=r.2.2.2.2.2.2.1.length)then(false,XY r)else(true,XX r (r.2.2.2.2.2.2.1++[e]))
def LD:iz where args:=[ag6,.aY I];outs:=[.aY .bool];pre:=fun(x:aK×Int×Unit)=>x.1.2.2.2.2.2.2.1.length<=1000;fn:=fun(x:aK×Int×Unit)=>((eF x.1 x.2.1).1,());kF:=fun(x:aK×Int×Unit)=>((eF x.1 x.2.1).2,x.2)
@[irreducible]def qc(n:aO)(e stop:Int)(todo:List ai):List ai:=todo++bif(eP n (e,stop)).2 then[(eP n (e,stop)).1]else[]
def LF:iz where args:=[.aY I,.aY I,.cells true (.aY (.ref fT)),.cells true (.row 71 bj)];outs:=[];pre:=fun(x:Int×Int×aO×List ai×Unit)=>x.2.2.2.1.length<=1000000;fn:=fun _=>();kF:=fun(x:Int×Int×aO×List ai×Unit)=>(x.1,x.2.1,x.2.2.1,qc x.2.2.1 x.1 x.2.1 x.2.2.2.1,())
def Lo:ba where args:=[.list n6,n6];out:=.data [I];pre:=fun(x:List dA×dA×Unit)=>True;fn:=fun(x:List dA×dA×Unit)=>(iS (fun y=>x.2.1==y) x.1,())
def aaj(x:List dA×dA×Unit):gb:=bP [(2,fun _=>{A5 (fun y=>x.2.1==y) x.1 8 [0,3,7]with dL:=[3]})]
def LC:ba where args:=[.list n6,n6];out:=.data [.bool];pre:=fun(x:List dA×dA×Unit)=>True;fn:=fun(x:List dA×dA×Unit)=>(db x.1 x.2.1,())
def mi(p:ab)(r:aK)(j:Nat):List ai:=((dQ p r).reverse.take j).map fun x=>(aD p x).1
def eJ(s:aX):List (ai×Bool):=(dr s).map fun y=>(y,true)
structure kg (n:aO) (r:aK) (g:List ai×aX):Prop where
 same:fin g.1 g.2=tp n.1 r (dQ n.1 r).length
 inv:lB 161 g.2
 vb:g.2.1=n.1
 Mr:∀y∈g.1,y∈cK n.1
 small:gv g.1 g.2<=100000
def c87:ba where args:=[.ref fT,nG];out:=.data [nG];pre:=fun(x:aO×aK×Unit)=>cX x.1/\uK x.1.1 x.2.1;fn:=fun(x:aO×aK×Unit)=>(qA x.1.1 x.2.1,())
def a87(x:aO×aK×Unit):gb:=bP [(8,fun _=>{σ:=Nat,ok:=fun j=>j<=(dQ x.1.1 x.2.1).length,mu:=fun j=>(dQ x.1.1 x.2.1).length-j,sl:=fun j=>[(9,.one (.aY I (((dQ x.1.1 x.2.1).length:Int)-1-j)))],bl:=fun j=>[(7,.cells [.row bj 1000]),(1000,.row false 71 bj (mi x.1.1 x.2.1 j))],keep:=[2,3,4,5,6,7,8],dL:=[2,3,4,21,24,34,37]}),(13,fun _=>{σ:=List ai×aX,ok:=fun g=>kg x.1 x.2.1 g,mu:=fun g=>gv g.1 g.2,sl:=fun g=>[(6,.one (.map bj .bool 1007))],bl:=fun g=>[(2,.cells [.aY (.ref fT) x.1]),(3,.cells [.aY I g.2.2.1,.aY I g.2.2.2.1,.aY I g.2.2.2.2.1,.row nF 1001,.row n6 1002,.row n6 1003,.row I 1004,.row I 1005,.aY .bool g.2.2.2.2.2.2.2.2.2.2.1]),(1001,.row false 216 nF (hU g.2)),(1002,.row false 219 n6 (eQ g.2)),(1003,.row false 219 n6 (cm g.2)),(1004,.row false 3 I (fG g.2)),(1005,.row false 3 I (eb g.2)),(7,.cells [.row bj 1006]),(1006,.row false 71 bj g.1.reverse),(1007,.map false bj .bool (eJ g.2) none)],keep:=[2,3,4,5,7,12],dL:=[4]})]
def tQ:ba where args:=[.ptr fT];out:=.data [I];pre:=fun(x:Option aO×Unit)=>jK x.1;fn:=fun(x:Option aO×Unit)=>(((aQ x.1).1.2.2.1.length:Int),())
def fa(o:Option aO):Prop:=∃n,o=some n/\cX n
def NO:ba where args:=[.ptr fT,I];out:=.data [.list nG];pre:=fun(x:Option aO×Int×Unit)=>fa x.1;fn:=fun(x:Option aO×Int×Unit)=>(vP (aQ x.1).1 x.2.1,())
def Lj:iz where args:=[.aY (.ptr fT)];outs:=[.row 164 nG,.aY I];pre:=fun(x:Option aO×Unit)=>fa x.1;fn:=fun(x:Option aO×Unit)=>((jg (aQ x.1).1).1,(jg (aQ x.1).1).2,())
def aah(x:Option aO×Unit):gb:=bP [(3,fun _=>u9 (aQ x.1).1.2.2.1.length 8 4 1000 164 nG (fun k=>mG (aQ x.1).1 k) [0,7] [])]
def T4:ba where args:=[.ptr fT,nG];out:=.data [nG];pre:=fun(x:Option aO×aK×Unit)=>fa x.1/\uK (aQ x.1).1 x.2.1;fn:=fun(x:Option aO×aK×Unit)=>(qA (aQ x.1).1 x.2.1,())
def T3:ba where args:=[.ptr fT];out:=.data [PlanT];pre:=fun(x:Option aO×Unit)=>jK x.1/\sR (aQ x.1).1;fn:=fun(x:Option aO×Unit)=>((aQ x.1).1,())
def NL:ba where args:=[PlanT];out:=.data [r8,I];pre:=fun(x:ab×Unit)=>dw x.1;fn:=fun(x:ab×Unit)=>((dP x.1).1,(dP x.1).2,())
def iE(p:ab)(k:Nat):List aK:=((jg p).1.take k).map (qA p)++(jg p).1.drop k
def a42(x:ab×Unit):gb:=bP [(8,fun _=>u9 (jg x.1).1.length 28 6 1000 164 nG (fun k=>iE x.1 k) [2,4,27] [2])]
theorem FZ(p:ab)(s:eA):pg p s=(pU p s).map fun e=>(s.1,e):=by unfold pg pU Ju;grind
theorem VV(n:aO)(r:aK)(s4:Nat)(y6:eA)(y9:List Int)(bD bN:List ai)(hn:cX n)(hr:xe r)(h4:s4<r.2.2.2.1.length)(h6:y6=r.2.2.2.1.getD s4 qE)(h9:y9=pU n.1 y6)(yw:bD=gF n.1 r s4)(nD:bN=pg n.1 y6):(∀(fq:Nat),U (decide ((fq:Int)<(y9.length:Int))) fun(df:Bool)=>U (y6.1,y9.getD (fq:Int).toNat (0:Int)) fun(eL:Int×Int)=>U (bD++fM n.1 (List.take fq bN)) fun(eT:List ai)=>U ((List.replicate (1:Nat) ((0:Int),(0:Int))).set (0:Nat) eL) fun(ia:List (Int×Int))=>fq<=y9.length->(df=true->bF (fq:Int) y9.length/\True/\((eP n eL).2=true->roomFor (eT.length+ia.length) (16:Nat)/\bJ IntKind.i64 ((fq:Int)+(1:Int))/\∃(ej:Nat),ej<=y9.length/\y9.length-ej<y9.length-fq/\(ej:Int)=(fq:Int)+(1:Int)/\(y9.length:Int)=(y9.length:Int)/\[n]=[n]/\(0:Nat)=(0:Nat)/\r.2.2.2.1=r.2.2.2.1/\(r.2.2.2.1.length:Int)=(r.2.2.2.1.length:Int)/\(s4:Int)=(s4:Int)/\bD++fM n.1 (List.take ej bN)=eT++ia/\y9=y9/\r.1=r.1/\r.2.1=r.2.1/\r.2.2.1=r.2.2.1/\r.2.2.2.1=r.2.2.2.1/\r.2.2.2.2.1=r.2.2.2.2.1/\r.2.2.2.2.2.1=r.2.2.2.2.2.1/\r.2.2.2.2.2.2.1=r.2.2.2.2.2.2.1/\r.2.2.2.2.2.2.2.1=r.2.2.2.2.2.2.2.1/\r.2.2.2.2.2.2.2.2=r.2.2.2.2.2.2.2.2/\y6.1=y6.1/\y6.2.1=y6.2.1/\y6.2.2=y6.2.2/\True)/\((eP n eL).2=false->bJ IntKind.i64 ((fq:Int)+(1:Int))/\∃(ej:Nat),ej<=y9.length/\y9.length-ej<y9.length-fq/\(ej:Int)=(fq:Int)+(1:Int)/\(y9.length:Int)=(y9.length:Int)/\[n]=[n]/\(0:Nat)=(0:Nat)/\r.2.2.2.1=r.2.2.2.1/\(r.2.2.2.1.length:Int)=(r.2.2.2.1.length:Int)/\(s4:Int)=(s4:Int)/\bD++fM n.1 (List.take ej bN)=eT/\y9=y9/\r.1=r.1/\r.2.1=r.2.1/\r.2.2.1=r.2.2.1/\r.2.2.2.1=r.2.2.2.1/\r.2.2.2.2.1=r.2.2.2.2.1/\r.2.2.2.2.2.1=r.2.2.2.2.2.1/\r.2.2.2.2.2.2.1=r.2.2.2.2.2.2.1/\r.2.2.2.2.2.2.2.1=r.2.2.2.2.2.2.2.1/\r.2.2.2.2.2.2.2.2=r.2.2.2.2.2.2.2.2/\y6.1=y6.1/\y6.2.1=y6.2.1/\y6.2.2=y6.2.2/\True))/\(df=false->bJ IntKind.i64 ((s4:Int)+(1:Int))/\∃(ej:Nat),ej<=r.2.2.2.1.length/\r.2.2.2.1.length-ej<r.2.2.2.1.length-s4/\(ej:Int)=(s4:Int)+(1:Int)/\[n]=[n]/\(0:Nat)=(0:Nat)/\r.2.2.2.1=r.2.2.2.1/\(r.2.2.2.1.length:Int)=(r.2.2.2.1.length:Int)/\gF n.1 r ej=eT/\r.1=r.1/\r.2.1=r.2.1/\r.2.2.1=r.2.2.1/\r.2.2.2.1=r.2.2.2.1/\r.2.2.2.2.1=r.2.2.2.2.1/\r.2.2.2.2.2.1=r.2.2.2.2.2.1/\r.2.2.2.2.2.2.1=r.2.2.2.2.2.2.1/\r.2.2.2.2.2.2.2.1=r.2.2.2.2.2.2.2.1/\r.2.2.2.2.2.2.2.2=r.2.2.2.2.2.2.2.2/\True)):=by
 intro k;have aqp:bN.length=y9.length:=by grind[FZ]
 have Kh:bN.length<=2:=by grind[BL]
 have hup:=wO n.1 r s4 (by omega);have V6:=hr.1;simp only[cb,aU,eq_self];refine U.mk fun df mR=>U.mk fun eL o7=>U.mk fun eT uv=>U.mk fun ia xA=>fun hk=>⟨fun h=>?_,fun h=>?_⟩;·have hk:=cV mR h;(have hp:eL=bN.getD k (0,0):=by rw[o7,nD,FZ,<-h9,aw];grind);have hs:=H6 (p:=n.1) (l:=bN) (s:=k) (by omega);have o6:=BJ n.1 (bN.take k);(have hN:(eP n eL).2=(aD n.1 (bN.getD k (0,0))).2:=by grind[pO]);(have V4:(bN.take k).length<=2:=by grind);(have Pn:eT.length<=4000:=by grind);refine⟨⟨by omega,by omega⟩,fun hx=>⟨gS (by grind) (by decide),bI (by omega) (by omega),k+1,by omega,by omega,by omega,?_⟩,fun hx=>⟨bI (by omega) (by omega),k+1,by omega,by omega,by omega,?_⟩⟩;all_goals grind
 have Sl:=ek mR h;have hke:k=bN.length:=by omega
 refine⟨bI (by omega) (by omega),s4+1,by omega,by omega,by omega,?_⟩;grind[zy]
theorem v141(n:aO)(r:aK):aj (aq aP [(92,oH),(117,qp)]) Tryz.f141 LG (a141 (n,r,())) (n,r,())=( U (((List.replicate (2:Nat) (0:Int)).set (0:Nat) (0:Int)).set (1:Nat) (1:Int)) fun(y2:List Int)=>U (((List.replicate (2:Nat) (0:Int)).set (0:Nat) (2:Int)).set (1:Nat) (3:Int)) fun(y3:List Int)=>(∃(tW:Nat),tW<=r.2.2.2.1.length/\(tW:Int)=(0:Int)/\[n]=[n]/\(0:Nat)=(0:Nat)/\r.2.2.2.1=r.2.2.2.1/\(r.2.2.2.1.length:Int)=(r.2.2.2.1.length:Int)/\gF n.1 r tW=[]/\bz r (True))/\∀(s4:Nat),U (decide ((s4:Int)<(r.2.2.2.1.length:Int))) fun(y5:Bool)=>U (r.2.2.2.1.getD (s4:Int).toNat ((0:Int),(0:Int),(0:Int))) fun(y6:Int×Int×Int)=>U (ay n.1 y6.1==(2:Int)) fun(y7:Bool)=>U ((3:Int)-max y6.2.1 y6.2.2) fun(y8:Int)=>U (pU n.1 (stepOf r (s4:Int))) fun(y9:List Int)=>U ((List.replicate (1:Nat) (0:Int)).set (0:Nat) y8) fun(cy:List Int)=>U (gF n.1 r (s4:Int).toNat) fun(bD:List ai)=>U (pg n.1 (stepOf r (s4:Int))) fun(bN:List ai)=>U (ay n.1 y6.1==(3:Int)) fun(cZ:Bool)=>U (decide (y6.2.1>(1:Int))) fun(ef:Bool)=>s4<=r.2.2.2.1.length->(y5=true->bF (s4:Int) r.2.2.2.1.length/\True/\(y7=true->bJ IntKind.i64 y8/\(∃(pb:Nat),pb<=y9.length/\(pb:Int)=(0:Int)/\(y9.length:Int)=(cy.length:Int)/\[n]=[n]/\(0:Nat)=(0:Nat)/\r.2.2.2.1=r.2.2.2.1/\(r.2.2.2.1.length:Int)=(r.2.2.2.1.length:Int)/\(s4:Int)=(s4:Int)/\bD++fM n.1 (List.take pb bN)=gF n.1 r s4/\y9=cy/\bz r (y6.1=y6.1/\y6.2.1=y6.2.1/\y6.2.2=y6.2.2/\True))/\∀(fq:Nat),U (decide ((fq:Int)<(y9.length:Int))) fun(df:Bool)=>U (y6.1,y9.getD (fq:Int).toNat (0:Int)) fun(eL:Int×Int)=>U (bD++fM n.1 (List.take fq bN)) fun(eT:List ai)=>U ((List.replicate (1:Nat) ((0:Int),(0:Int))).set (0:Nat) eL) fun(ia:List (Int×Int))=>fq<=y9.length->(df=true->bF (fq:Int) y9.length/\True/\((eP n eL).2=true->roomFor (eT.length+ia.length) (16:Nat)/\bJ IntKind.i64 ((fq:Int)+(1:Int))/\∃(ej:Nat),ej<=y9.length/\y9.length-ej<y9.length-fq/\(ej:Int)=(fq:Int)+(1:Int)/\(y9.length:Int)=(y9.length:Int)/\[n]=[n]/\(0:Nat)=(0:Nat)/\r.2.2.2.1=r.2.2.2.1/\(r.2.2.2.1.length:Int)=(r.2.2.2.1.length:Int)/\(s4:Int)=(s4:Int)/\bD++fM n.1 (List.take ej bN)=eT++ia/\y9=y9/\bz r (y6.1=y6.1/\y6.2.1=y6.2.1/\y6.2.2=y6.2.2/\True))/\((eP n eL).2=false->bJ IntKind.i64 ((fq:Int)+(1:Int))/\∃(ej:Nat),ej<=y9.length/\y9.length-ej<y9.length-fq/\(ej:Int)=(fq:Int)+(1:Int)/\(y9.length:Int)=(y9.length:Int)/\[n]=[n]/\(0:Nat)=(0:Nat)/\r.2.2.2.1=r.2.2.2.1/\(r.2.2.2.1.length:Int)=(r.2.2.2.1.length:Int)/\(s4:Int)=(s4:Int)/\bD++fM n.1 (List.take ej bN)=eT/\y9=y9/\bz r (y6.1=y6.1/\y6.2.1=y6.2.1/\y6.2.2=y6.2.2/\True)))/\(df=false->bJ IntKind.i64 ((s4:Int)+(1:Int))/\∃(ej:Nat),ej<=r.2.2.2.1.length/\r.2.2.2.1.length-ej<r.2.2.2.1.length-s4/\(ej:Int)=(s4:Int)+(1:Int)/\[n]=[n]/\(0:Nat)=(0:Nat)/\r.2.2.2.1=r.2.2.2.1/\(r.2.2.2.1.length:Int)=(r.2.2.2.1.length:Int)/\gF n.1 r ej=eT/\bz r (True)))/\(y7=false->(cZ=true->(ef=true->(∃(pb:Nat),pb<=y9.length/\(pb:Int)=(0:Int)/\(y9.length:Int)=(y2.length:Int)/\[n]=[n]/\(0:Nat)=(0:Nat)/\r.2.2.2.1=r.2.2.2.1/\(r.2.2.2.1.length:Int)=(r.2.2.2.1.length:Int)/\(s4:Int)=(s4:Int)/\bD++fM n.1 (List.take pb bN)=gF n.1 r s4/\y9=y2/\bz r (y6.1=y6.1/\y6.2.1=y6.2.1/\y6.2.2=y6.2.2/\True))/\∀(fq:Nat),U (decide ((fq:Int)<(y9.length:Int))) fun(df:Bool)=>U (y6.1,y9.getD (fq:Int).toNat (0:Int)) fun(eL:Int×Int)=>U (bD++fM n.1 (List.take fq bN)) fun(eT:List ai)=>U ((List.replicate (1:Nat) ((0:Int),(0:Int))).set (0:Nat) eL) fun(ia:List (Int×Int))=>fq<=y9.length->(df=true->bF (fq:Int) y9.length/\True/\((eP n eL).2=true->roomFor (eT.length+ia.length) (16:Nat)/\bJ IntKind.i64 ((fq:Int)+(1:Int))/\∃(ej:Nat),ej<=y9.length/\y9.length-ej<y9.length-fq/\(ej:Int)=(fq:Int)+(1:Int)/\(y9.length:Int)=(y9.length:Int)/\[n]=[n]/\(0:Nat)=(0:Nat)/\r.2.2.2.1=r.2.2.2.1/\(r.2.2.2.1.length:Int)=(r.2.2.2.1.length:Int)/\(s4:Int)=(s4:Int)/\bD++fM n.1 (List.take ej bN)=eT++ia/\y9=y9/\bz r (y6.1=y6.1/\y6.2.1=y6.2.1/\y6.2.2=y6.2.2/\True))/\((eP n eL).2=false->bJ IntKind.i64 ((fq:Int)+(1:Int))/\∃(ej:Nat),ej<=y9.length/\y9.length-ej<y9.length-fq/\(ej:Int)=(fq:Int)+(1:Int)/\(y9.length:Int)=(y9.length:Int)/\[n]=[n]/\(0:Nat)=(0:Nat)/\r.2.2.2.1=r.2.2.2.1/\(r.2.2.2.1.length:Int)=(r.2.2.2.1.length:Int)/\(s4:Int)=(s4:Int)/\bD++fM n.1 (List.take ej bN)=eT/\y9=y9/\bz r (y6.1=y6.1/\y6.2.1=y6.2.1/\y6.2.2=y6.2.2/\True)))/\(df=false->bJ IntKind.i64 ((s4:Int)+(1:Int))/\∃(ej:Nat),ej<=r.2.2.2.1.length/\r.2.2.2.1.length-ej<r.2.2.2.1.length-s4/\(ej:Int)=(s4:Int)+(1:Int)/\[n]=[n]/\(0:Nat)=(0:Nat)/\r.2.2.2.1=r.2.2.2.1/\(r.2.2.2.1.length:Int)=(r.2.2.2.1.length:Int)/\gF n.1 r ej=eT/\bz r (True)))/\(ef=false->(∃(pb:Nat),pb<=y9.length/\(pb:Int)=(0:Int)/\(y9.length:Int)=(y3.length:Int)/\[n]=[n]/\(0:Nat)=(0:Nat)/\r.2.2.2.1=r.2.2.2.1/\(r.2.2.2.1.length:Int)=(r.2.2.2.1.length:Int)/\(s4:Int)=(s4:Int)/\bD++fM n.1 (List.take pb bN)=gF n.1 r s4/\y9=y3/\bz r (y6.1=y6.1/\y6.2.1=y6.2.1/\y6.2.2=y6.2.2/\True))/\∀(fq:Nat),U (decide ((fq:Int)<(y9.length:Int))) fun(df:Bool)=>U (y6.1,y9.getD (fq:Int).toNat (0:Int)) fun(eL:Int×Int)=>U (bD++fM n.1 (List.take fq bN)) fun(eT:List ai)=>U ((List.replicate (1:Nat) ((0:Int),(0:Int))).set (0:Nat) eL) fun(ia:List (Int×Int))=>fq<=y9.length->(df=true->bF (fq:Int) y9.length/\True/\((eP n eL).2=true->roomFor (eT.length+ia.length) (16:Nat)/\bJ IntKind.i64 ((fq:Int)+(1:Int))/\∃(ej:Nat),ej<=y9.length/\y9.length-ej<y9.length-fq/\(ej:Int)=(fq:Int)+(1:Int)/\(y9.length:Int)=(y9.length:Int)/\[n]=[n]/\(0:Nat)=(0:Nat)/\r.2.2.2.1=r.2.2.2.1/\(r.2.2.2.1.length:Int)=(r.2.2.2.1.length:Int)/\(s4:Int)=(s4:Int)/\bD++fM n.1 (List.take ej bN)=eT++ia/\y9=y9/\bz r (y6.1=y6.1/\y6.2.1=y6.2.1/\y6.2.2=y6.2.2/\True))/\((eP n eL).2=false->bJ IntKind.i64 ((fq:Int)+(1:Int))/\∃(ej:Nat),ej<=y9.length/\y9.length-ej<y9.length-fq/\(ej:Int)=(fq:Int)+(1:Int)/\(y9.length:Int)=(y9.length:Int)/\[n]=[n]/\(0:Nat)=(0:Nat)/\r.2.2.2.1=r.2.2.2.1/\(r.2.2.2.1.length:Int)=(r.2.2.2.1.length:Int)/\(s4:Int)=(s4:Int)/\bD++fM n.1 (List.take ej bN)=eT/\y9=y9/\bz r (y6.1=y6.1/\y6.2.1=y6.2.1/\y6.2.2=y6.2.2/\True)))/\(df=false->bJ IntKind.i64 ((s4:Int)+(1:Int))/\∃(ej:Nat),ej<=r.2.2.2.1.length/\r.2.2.2.1.length-ej<r.2.2.2.1.length-s4/\(ej:Int)=(s4:Int)+(1:Int)/\[n]=[n]/\(0:Nat)=(0:Nat)/\r.2.2.2.1=r.2.2.2.1/\(r.2.2.2.1.length:Int)=(r.2.2.2.1.length:Int)/\gF n.1 r ej=eT/\bz r (True))))/\(cZ=false->(∃(pb:Nat),pb<=y9.length/\(pb:Int)=(0:Int)/\(y9.length:Int)=(0:Int)/\[n]=[n]/\(0:Nat)=(0:Nat)/\r.2.2.2.1=r.2.2.2.1/\(r.2.2.2.1.length:Int)=(r.2.2.2.1.length:Int)/\(s4:Int)=(s4:Int)/\bD++fM n.1 (List.take pb bN)=gF n.1 r s4/\y9=[]/\bz r (y6.1=y6.1/\y6.2.1=y6.2.1/\y6.2.2=y6.2.2/\True))/\∀(fq:Nat),U (decide ((fq:Int)<(y9.length:Int))) fun(df:Bool)=>U (y6.1,y9.getD (fq:Int).toNat (0:Int)) fun(eL:Int×Int)=>U (bD++fM n.1 (List.take fq bN)) fun(eT:List ai)=>U ((List.replicate (1:Nat) ((0:Int),(0:Int))).set (0:Nat) eL) fun(ia:List (Int×Int))=>fq<=y9.length->(df=true->bF (fq:Int) y9.length/\True/\((eP n eL).2=true->roomFor (eT.length+ia.length) (16:Nat)/\bJ IntKind.i64 ((fq:Int)+(1:Int))/\∃(ej:Nat),ej<=y9.length/\y9.length-ej<y9.length-fq/\(ej:Int)=(fq:Int)+(1:Int)/\(y9.length:Int)=(y9.length:Int)/\[n]=[n]/\(0:Nat)=(0:Nat)/\r.2.2.2.1=r.2.2.2.1/\(r.2.2.2.1.length:Int)=(r.2.2.2.1.length:Int)/\(s4:Int)=(s4:Int)/\bD++fM n.1 (List.take ej bN)=eT++ia/\y9=y9/\bz r (y6.1=y6.1/\y6.2.1=y6.2.1/\y6.2.2=y6.2.2/\True))/\((eP n eL).2=false->bJ IntKind.i64 ((fq:Int)+(1:Int))/\∃(ej:Nat),ej<=y9.length/\y9.length-ej<y9.length-fq/\(ej:Int)=(fq:Int)+(1:Int)/\(y9.length:Int)=(y9.length:Int)/\[n]=[n]/\(0:Nat)=(0:Nat)/\r.2.2.2.1=r.2.2.2.1/\(r.2.2.2.1.length:Int)=(r.2.2.2.1.length:Int)/\(s4:Int)=(s4:Int)/\bD++fM n.1 (List.take ej bN)=eT/\y9=y9/\bz r (y6.1=y6.1/\y6.2.1=y6.2.1/\y6.2.2=y6.2.2/\True)))/\(df=false->bJ IntKind.i64 ((s4:Int)+(1:Int))/\∃(ej:Nat),ej<=r.2.2.2.1.length/\r.2.2.2.1.length-ej<r.2.2.2.1.length-s4/\(ej:Int)=(s4:Int)+(1:Int)/\[n]=[n]/\(0:Nat)=(0:Nat)/\r.2.2.2.1=r.2.2.2.1/\(r.2.2.2.1.length:Int)=(r.2.2.2.1.length:Int)/\gF n.1 r ej=eT/\bz r (True)))))/\(y5=false->gF n.1 r s4=dQ n.1 r/\True)):=by kernel_rfl
theorem al0(n:aO)(r:aK)(hn:cX n)(hr:xe r):aj (aq aP [(92,oH),(117,qp)]) Tryz.f141 LG (a141 (n,r,())) (n,r,()):=by
 have V6:=hr.1;rw[v141];refine U.mk fun y2 e2=>U.mk fun y3 e3=>⟨?_,?_⟩;refine⟨0,by omega,rfl,rfl,rfl,rfl,rfl,?_,rfl,rfl,rfl,rfl,rfl,rfl,rfl,rfl,rfl,trivial⟩;grind[gF];intro k;refine U.mk fun y5 e5=>U.mk fun y6 e6=>U.mk fun y7 e7=>U.mk fun y8 e8=>U.mk fun y9 e9=>U.mk fun cy eG=>U.mk fun bD fY=>U.mk fun bN fz=>U.mk fun cZ iu=>U.mk fun ef ki=>fun hk=>⟨fun h=>?_,fun h=>?_⟩;have hk:=cV e5 h;have h6:y6=r.2.2.2.1.getD k qE:=e6;have jq:stepOf r (k:Int)=y6:=h6.symm;have h9:y9=pU n.1 y6:=by grind
 have yw:bD=gF n.1 r k:=fY;have nD:bN=pg n.1 y6:=by grind
 have hm:xY y6:=hr.2 y6 (by grind);obtain⟨⟨m1,m2⟩,m3,m4⟩:=hm;have h0:bD++fM n.1 (bN.take 0)=gF n.1 r k:=by grind[fM]
 have fin:∀(z:List Int),y9=z->(∃(pb:Nat),pb<=y9.length/\(pb:Int)=(0:Int)/\(y9.length:Int)=(z.length:Int)/\bD++fM n.1 (List.take pb bN)=gF n.1 r k/\y9=z):=fun z hz=>⟨0,by omega,rfl,by rw[hz],h0,hz⟩;have CB:=VV n r k y6 y9 bD bN hn hr hk h6 h9 yw nD;refine⟨⟨by omega,by omega⟩,trivial,fun h7=>?_,fun h7=>⟨fun lu=>⟨fun vO=>?_,fun vO=>?_⟩,fun lu=>?_⟩⟩;have hz:y9=cy:=by rw[h9,eG,e8];unfold pU;simp_all
 obtain⟨j,q1,q2,q3,q4,q5⟩:=fin _ hz;exact⟨bI (by omega) (by omega),⟨j,q1,q2,q3,rfl,rfl,rfl,rfl,rfl,q4,q5,rfl,rfl,rfl,rfl,rfl,rfl,rfl,rfl,rfl,rfl,rfl,rfl,trivial⟩,CB⟩;have hz:y9=y2:=by rw[h9,e2];unfold pU;simp_all
 obtain⟨j,q1,q2,q3,q4,q5⟩:=fin _ hz;exact⟨⟨j,q1,q2,q3,rfl,rfl,rfl,rfl,rfl,q4,q5,rfl,rfl,rfl,rfl,rfl,rfl,rfl,rfl,rfl,rfl,rfl,rfl,trivial⟩,CB⟩;have hz:y9=y3:=by rw[h9,e3];unfold pU;rw[<-e7,h7,<-iu,lu,<-ki,vO];rfl
 obtain⟨j,q1,q2,q3,q4,q5⟩:=fin _ hz;exact⟨⟨j,q1,q2,q3,rfl,rfl,rfl,rfl,rfl,q4,q5,rfl,rfl,rfl,rfl,rfl,rfl,rfl,rfl,rfl,rfl,rfl,rfl,trivial⟩,CB⟩;have hz:y9=[]:=by rw[h9];unfold pU;grind
 obtain⟨j,q1,q2,q3,q4,q5⟩:=fin _ hz;exact⟨⟨j,q1,q2,q3,rfl,rfl,rfl,rfl,rfl,q4,q5,rfl,rfl,rfl,rfl,rfl,rfl,rfl,rfl,rfl,rfl,rfl,rfl,trivial⟩,CB⟩;have Sl:=ek e5 h;have:k=r.2.2.2.1.length:=by omega
 subst this;simp[dQ]
theorem aeQ:aL Tryz.prog 141 LG:=aL.cu (l:=[(92,oH),(117,qp)]) (A:=a141) aM ⟨wa,Cs,trivial⟩ Tryz.func141 (by rfl) (by rfl) fun x _ hp=>al0 x.1 x.2.1 hp.1 hp.2
theorem v145(r:aK)(e:Int):fv (aq aP [(144,yT)]) Tryz.f145 LD ax (r,e,())=( U (dx r.2.2.2.2.2.2.1 e) fun(y2:Bool)=>U (eF r e).2.2.2 fun(y3:Int×List (Int×Int×Int)×List (Int×Int)×List (Int×Int)×List Int×List Int×Bool)=>U (decide ((r.2.2.2.2.2.2.1.length:Int)>=(12:Int))) fun(y4:Bool)=>U ((List.replicate (1:Nat) (0:Int)).set (0:Nat) e) fun(y5:List Int)=>True/\(y2=true->true=(eF r e).1/\r.1=(eF r e).2.1/\r.2.1=(eF r e).2.2.1/\r.2.2.1=y3.1/\r.2.2.2.1=y3.2.1/\r.2.2.2.2.1=y3.2.2.1/\r.2.2.2.2.2.1=y3.2.2.2.1/\r.2.2.2.2.2.2.1=y3.2.2.2.2.1/\r.2.2.2.2.2.2.2.1=y3.2.2.2.2.2.1/\r.2.2.2.2.2.2.2.2=y3.2.2.2.2.2.2/\True)/\(y2=false->(y4=true->false=(eF r e).1/\r.1=(eF r e).2.1/\r.2.1=(eF r e).2.2.1/\r.2.2.1=y3.1/\r.2.2.2.1=y3.2.1/\r.2.2.2.2.1=y3.2.2.1/\r.2.2.2.2.2.1=y3.2.2.2.1/\r.2.2.2.2.2.2.1=y3.2.2.2.2.1/\r.2.2.2.2.2.2.2.1=y3.2.2.2.2.2.1/\true=y3.2.2.2.2.2.2/\True)/\(y4=false->roomFor (r.2.2.2.2.2.2.1.length+y5.length) (8:Nat)/\true=(eF r e).1/\r.1=(eF r e).2.1/\r.2.1=(eF r e).2.2.1/\r.2.2.1=y3.1/\r.2.2.2.1=y3.2.1/\r.2.2.2.2.1=y3.2.2.1/\r.2.2.2.2.2.1=y3.2.2.2.1/\r.2.2.2.2.2.2.1++y5=y3.2.2.2.2.1/\r.2.2.2.2.2.2.2.1=y3.2.2.2.2.2.1/\r.2.2.2.2.2.2.2.2=y3.2.2.2.2.2.2/\True))):=by kernel_rfl
theorem alX(r:aK)(e:Int)(hl:r.2.2.2.2.2.2.1.length<=1000):fv (aq aP [(144,yT)]) Tryz.f145 LD ax (r,e,()):=by
 rw[v145];refine U.mk fun y2 e2=>U.mk fun y3 e3=>U.mk fun y4 e4=>U.mk fun y5 e5=>⟨trivial,fun h=>?_,fun h=>⟨fun h4=>?_,fun h4=>?_⟩⟩;have hz:eF r e=(true,r):=by grind[eF]
 grind;have hz:eF r e=(false,XY r):=by grind[eF]
 rw[e3,hz];exact⟨rfl,rfl,rfl,rfl,rfl,rfl,rfl,rfl,rfl,rfl,trivial⟩;have hz:eF r e=(true,XX r (r.2.2.2.2.2.2.1++[e])):=by grind[eF]
 rw[e3,hz,e5];exact⟨gS (by grind) (by decide),rfl,rfl,rfl,rfl,rfl,rfl,rfl,rfl,rfl,rfl,trivial⟩
theorem aeN:lq Tryz.prog 145 LD:=lq.cu (l:=[(144,yT)]) (A:=fun _=>ax) aM ⟨Rx,trivial⟩ Tryz.func145 (by rfl) (by rfl) fun x hw hp=>alX x.1 x.2.1 hp
theorem aif(e:Int)(stop:Int)(n:aO)(todo:List (Int×Int)):fv (aq aP [(117,qp)]) Tryz.f142 LF ax (e,stop,n,todo,())=( U (eP n (e,stop)).2 fun(y4:Bool)=>U ((List.replicate (1:Nat) ((0:Int),(0:Int))).set (0:Nat) (eP n (e,stop)).1) fun(y5:List (Int×Int))=>True/\(y4=true->roomFor (todo.length+y5.length) (16:Nat)/\n=n/\todo++y5=qc n e stop todo/\True)/\(y4=false->n=n/\todo=qc n e stop todo/\True)):=by kernel_rfl
theorem alZ(e stop:Int)(n:aO)(todo:List ai)(hl:todo.length<=1000000):fv (aq aP [(117,qp)]) Tryz.f142 LF ax (e,stop,n,todo,()):=by rw[aif];refine U.mk fun y4 e4=>U.mk fun y5 e5=>⟨trivial,fun h=>?_,fun h=>?_⟩;refine⟨gS (by grind) (by decide),rfl,?_,trivial⟩;grind[qc];grind[qc]
theorem aeP:lq Tryz.prog 142 LF:=lq.cu (l:=[(117,qp)]) (A:=fun _=>ax) aM ⟨Cs,trivial⟩ Tryz.func142 (by rfl) (by rfl) fun x hw hp=>alZ x.1 x.2.1 x.2.2.1 x.2.2.2.1 hp
theorem ahT(l:List (Int×Int))(x:Int×Int):aj (aq aP []) Tryz.f185 Lo (aaj (l,x,())) (l,x,())=( U (iS (fun(y:dA)=>x==y) l) fun(y2:Int)=>(∃(ji:Nat),(ji<=l.length/\((List.take ji l).any fun(y:dA)=>x==y)=false)/\(ji:Int)=(0:Int)/\l=l/\(l.length:Int)=(l.length:Int)/\x.1=x.1/\x.2=x.2/\True)/\∀(s3:Nat),U (decide ((s3:Int)<(l.length:Int))) fun(y4:Bool)=>U (l.getD (s3:Int).toNat ((0:Int),(0:Int))) fun(y5:Int×Int)=>U (x.1==y5.1&&(x.2==y5.2&&true)) fun(y6:Bool)=>s3<=l.length/\((List.take s3 l).any fun(y:dA)=>x==y)=false->(y4=true->bF (s3:Int) l.length/\(y6=true->(s3:Int)=y2/\True)/\(y6=false->bJ IntKind.i64 ((s3:Int)+(1:Int))/\∃(lX:Nat),(lX<=l.length/\((List.take lX l).any fun(y:dA)=>x==y)=false)/\l.length-lX<l.length-s3/\(lX:Int)=(s3:Int)+(1:Int)/\l=l/\(l.length:Int)=(l.length:Int)/\x.1=x.1/\x.2=x.2/\True))/\(y4=false->(-1:Int)=y2/\True)):=by kernel_rfl
theorem alJ(l:List dA)(x:dA)(hw:l.length<=bA):aj (aq aP []) Tryz.f185 Lo (aaj (l,x,())) (l,x,()):=by rw[ahT];refine U.mk fun y2 e2=>?_;simp only[cb,aU,eq_self];refine⟨⟨0,⟨by omega,by simp⟩,by omega⟩,fun s=>U.mk fun y4 e4=>U.mk fun y5 e5=>U.mk fun y6 e6=>?_⟩;rintro⟨h1,h2⟩;refine⟨fun hs=>?_,fun hs=>?_⟩;(·have hs:=cV e4 hs;refine⟨⟨by omega,by omega⟩,fun e=>?_,fun e=>⟨fK hs hw,s+1,⟨by omega,?_⟩,by omega,by omega⟩⟩;all_goals grind[xy,any_succ]);rw[e2];exact tr (s:=s) (ek e4 hs) h2
theorem aek:aL Tryz.prog 185 Lo:=aL.cu (l:=[]) (A:=aaj) aM trivial Tryz.func185 (by rfl) (by rfl) fun x hw hp=>alJ x.1 x.2.1 hw.1.1
theorem v146(l:List (Int×Int))(x:Int×Int):aj (aq aP [(185,Lo)]) Tryz.f146 LC ax (l,x,())=( U (iS (fun(y:dA)=>x==y) l) fun(y2:Int)=>True/\decide (y2>=(0:Int))=db l x/\True):=by kernel_rfl
theorem alW(l:List dA)(x:dA):aj (aq aP [(185,Lo)]) Tryz.f146 LC ax (l,x,()):=by rw[v146];simp[U.mk,nE,db,oI]
theorem aeM:aL Tryz.prog 146 LC:=aL.cu (l:=[(185,Lo)]) (A:=fun _=>ax) aM ⟨aek,trivial⟩ Tryz.func146 (by rfl) (by rfl) fun x hw hp=>alW x.1 x.2.1
theorem Ie:aL Tryz.prog 51 tQ:=ajq.ptr fun x h=>by obtain⟨n,h1⟩:=h;grind
theorem aa6:aL Tryz.prog 138 NO:=aeS.ptr fun x h=>by obtain⟨n,h1,h2⟩:=h;grind
theorem RO{o:Option aO}(h:fa o):cX (aQ o)/\o=some (aQ o):=by obtain⟨n,rfl,h⟩:=h;exact⟨h,rfl⟩
theorem ahD(o:Option (aO)):fv (aq aP [(51,tQ),(138,NO)]) Tryz.f86 Lj (aah (o,())) (o,())=( U (aQ o).1.2.2.1.length fun(y1:Nat)=>jK o/\(∃(fW:Nat),fW<=y1/\(fW:Int)=(0:Int)/\o=o/\(y1:Int)=(y1:Int)/\mG (aQ o).1 fW=[]/\True)/\∀(s2:Nat),U (decide ((s2:Int)<(y1:Int))) fun(y3:Bool)=>U (mG (aQ o).1 s2).length fun(y4:Nat)=>U (vP (aQ o).1 (s2:Int)) fun(y5:List aK)=>s2<=y1->(y3=true->fa o/\roomFor (y4+y5.length) (152:Nat)/\bJ IntKind.i64 ((s2:Int)+(1:Int))/\∃(lH:Nat),lH<=y1/\y1-lH<y1-s2/\(lH:Int)=(s2:Int)+(1:Int)/\o=o/\(y1:Int)=(y1:Int)/\mG (aQ o).1 lH=mG (aQ o).1 s2++y5/\True)/\(y3=false->(decide ((y4:Int)>(64:Int))=true->[]=(jg (aQ o).1).1/\(3:Int)=(jg (aQ o).1).2/\True)/\(decide ((y4:Int)>(64:Int))=false->mG (aQ o).1 s2=(jg (aQ o).1).1/\(0:Int)=(jg (aQ o).1).2/\True))):=by kernel_rfl
theorem alB(o:Option aO)(ho:fa o):fv (aq aP [(51,tQ),(138,NO)]) Tryz.f86 Lj (aah (o,())) (o,()):=by obtain⟨hn,V5⟩:=RO ho;have hs:=(oJ (jh hn.2).1).2.1;rw[ahD];refine U.mk fun y1 e1=>⟨⟨_,V5⟩,⟨0,by omega,rfl,rfl,rfl,by grind[mG],trivial⟩,fun k=>U.mk fun y3 e3=>U.mk fun y4 e4=>U.mk fun y5 e5=>fun hk=>⟨fun h=>?_,fun h=>?_⟩⟩;have hk:=cV e3 h;have h1:=En (aQ o).1 k;have h2:=G8 (aQ o).1 k;exact⟨ho,gS (by grind) (by decide),bI (by omega) (by omega),k+1,by omega,by omega,by omega,rfl,rfl,by grind[yH],trivial⟩;·have hk:=ek e3 h;(have:k=y1:=by omega);subst this;rw[all_eq,e4,e1];all_goals grind
theorem ad1:lq Tryz.prog 86 Lj:=lq.cu (l:=[(51,tQ),(138,NO)]) (A:=aah) aM ⟨Ie,aa6,trivial⟩ Tryz.func86 (by rfl) (by rfl) fun x _ hp=>alB x.1 hp
theorem adZ:aL Tryz.prog 88 T3:=X8.ptr fun x h=>by obtain⟨⟨n,h1⟩,h2⟩:=h;refine⟨n,h1,?_⟩;rw[h1]at h2;exact h2
theorem Ih{l:List Int}:∀{k:Nat},k<=l.length->(∀j,j<k->(l.getD j 0)∉l.take j)->(l.take k).Nodup|0,_,_=>by simp|k+1,hk,h=>by rw[kj 0 (by omega),List.nodup_append];refine⟨Ih (by omega) fun j hj=>h j (by omega),by simp,fun a ha b hb=>?_⟩;rw[aN]at hb;intro e;subst e;exact h k (by omega) (hb▸ha)
theorem MD{l:List Int}{e:Int}(h:e∈l):dx l e=true:=by unfold dx;grind
theorem MK{p:ab}(h:bB p=0):dw p:=fun l hl=>by obtain⟨hS,_,_,_,hL⟩:=jh h;have hs:=(oJ hS).1;obtain⟨i,hi,rfl⟩:=List.getElem_of_mem hl;have hg:p.2.2.2.1[i]=p.2.2.2.1.getD i zL:=(xv zL hi).symm;rw[hg];have he:=ML hL hi;unfold hX at hL;have nB:=ig.1 hL i hi;unfold kC at nB;rw[ae]at nB;generalize Kh:(p.2.2.2.1.getD i zL).2=l at*;(have hn:l.Nodup:=by(have:=Ih (l:=l) (aZ _) fun j hj hm=>by have:=ig.1 nB.1 j hj;unfold nS at this;rw[Kh]at this;grind[MD]);grind);(have hr:∀e∈l,e∈(List.range p.1.length).map fun(k:Nat)=>(k:Int):=fun e he'=>by obtain⟨k,hk,rfl⟩:=List.getElem_of_mem he';have Wb:=(NC he hk).2;rw[xv 0 hk]at Wb;have hr:=Gc (p:=p) (e:=l[k]) (by omega);exact List.mem_map.2 ⟨l[k].toNat,List.mem_range.2 (by omega),by omega⟩);have:=vf hn hr;grind
theorem Cu{n:aO}(h:cX n):sR n.1:=by have hs:=oJ (jh h.2).1;exact⟨by show _<=1000;omega,by show _<=1000;omega,by show _<=1000;omega,by show _<=1000;omega,MK h.2⟩
theorem BA{p:ab}{y:ai}(hh:ew p y=true)(h4:(ay p y.1==4)=false)(h2:(ay p y.1==2)=false):bK p y.1 y.2 0=((vA p y.1 y.2 0).1,true):=by
 obtain⟨e,i⟩:=y;obtain⟨_,h0,hE⟩:=ot hh;have h0:0<=i:=h0;have hE:i<ez (ay p e):=hE;have h4:(ay p e==4)=false:=h4;have h2:(ay p e==2)=false:=h2;have e1:ez 1=2:=by grind[ez]
 have e3:ez 3=4:=by grind[ez]
 have hk:ay p e=1\/ay p e=3:=by grind[ez]
 have has:∀j,0<=j->j<ez (ay p e)->ew p (e,j)=true:=fun j j0 j1=>by unfold ew at hh⊢;grind
 rcases hk with hk|hk;have kk:(ay p e==1)=true:=by grind
 have Md:∀j,0<=j->j<2->bK p e j 0=(1-j,true):=fun j j0 j1=>by unfold bK ck;rw[has j j0 (by grind),kk];rfl
 rw[hk,e1]at hE;show bK p e i 0=((vA p e i 0).1,true);rw[Md i h0 hE];unfold vA;rw[hk,e1];have hi:i=0\/i=1:=by omega
 have t0:=Md 0 (by decide) (by decide);have t1:=Md 1 (by decide) (by decide);rcases hi with rfl|rfl;show _=((OZ ((List.range 2).find? fun i=>(bK p e (i:Int) 0).2&&(bK p e (i:Int) 0).1==0)).1,true);simp only[List.range_succ,List.range_zero,List.nil_append,List.cons_append,List.find?_cons];rw[show bK p e ((0:Nat):Int) 0=(1-0,true)from t0,show bK p e ((1:Nat):Int) 0=(1-1,true)from t1];rfl;show _=((OZ ((List.range 2).find? fun i=>(bK p e (i:Int) 0).2&&(bK p e (i:Int) 0).1==1)).1,true);simp only[List.range_succ,List.range_zero,List.nil_append,List.cons_append,List.find?_cons];rw[show bK p e ((0:Nat):Int) 0=(1-0,true)from t0];rfl;have k1:(ay p e==1)=false:=by grind
 have k3:(ay p e==3)=true:=by grind
 have Md:∀j,0<=j->j<4->bK p e j 0=(Ho j,true):=fun j j0 j1=>by unfold bK ck;rw[has j j0 (by grind),k1,k3];rfl
 rw[hk,e3]at hE;show bK p e i 0=((vA p e i 0).1,true);rw[Md i h0 hE];unfold vA;rw[hk,e3];have hi:i=0\/i=1\/i=2\/i=3:=by omega
 have t0:bK p e ((0:Nat):Int) 0=(1,true):=Md 0 (by decide) (by decide);have t1:bK p e ((1:Nat):Int) 0=(0,true):=Md 1 (by decide) (by decide);have t2:bK p e ((2:Nat):Int) 0=(3,true):=Md 2 (by decide) (by decide);have t3:bK p e ((3:Nat):Int) 0=(2,true):=Md 3 (by decide) (by decide);have go:∀q,(OZ ((List.range 4).find? fun i=>(bK p e (i:Int) 0).2&&(bK p e (i:Int) 0).1==q)).1=(OZ (bif(1:Int)==q then some 0 else bif(0:Int)==q then some 1 else bif(3:Int)==q then some 2 else bif(2:Int)==q then some 3 else none)).1:=fun q=>by simp only[List.range_succ,List.range_zero,List.nil_append,List.cons_append,List.find?_cons,List.find?_nil];grind
 rcases hi with rfl|rfl|rfl|rfl;exact Prod.ext (go 0).symm rfl;exact Prod.ext (go 1).symm rfl;exact Prod.ext (go 2).symm rfl;exact Prod.ext (go 3).symm rfl
theorem Wl{n:aO}{r:aK}{y:ai}{ts:List ai}{s:aX}(h:kg n r (y::ts,s)):kg n r ((lg y s).1++ts,(lg y s).2)/\gv ((lg y s).1++ts) (lg y s).2<gv (y::ts) s:=by obtain⟨h1,h2,h3,h4,h5⟩:=h;have h1:fin (y::ts) s=_:=h1;have h3:s.1=n.1:=h3;have h5:gv (y::ts) s<=100000:=h5;(have hy:y∈cK s.1:=by grind);obtain⟨k1,k2,k3,k4⟩:=Wm (y:=y) (ts:=ts) (s:=s) ⟨h2,hy⟩;refine⟨⟨by grind,k2.lB h2,k2.vb.trans h3,fun x hx=>?_,dk (Nat.le_of_lt k4) h5⟩,k4⟩;grind
def wM(s:aX):aK:=(s.2.1,s.2.2.1,s.2.2.2.1,hU s,eQ s,cm s,fG s,eb s,s.2.2.2.2.2.2.2.2.2.1)
theorem Tm(s:aX):u5 s=wM s:=by unfold u5;rfl
theorem QC(s:aX)(e:Int):(eF (wM s) e).1=(ep s e).1/\(eF (wM s) e).2=wM (ep s e).2/\dr (ep s e).2=dr s/\(ep s e).2.1=s.1:=by unfold eF ep;show(bif dx (fG s) e then _ else bif decide (12<=(fG s).length)then _ else _:Bool×aK).1=_/\(bif dx (fG s) e then _ else bif decide (12<=(fG s).length)then _ else _:Bool×aK).2=_/\_;cases dx (fG s) e with|true=>simp|false=>cases decide (12<=(fG s).length)<;>exact⟨rfl,rfl,rfl,rfl⟩
theorem X0(p:ab)(e stop:Int):(oQ p e stop).reverse=oQ p e stop:=by grind[oQ]
theorem KP{n:aO}(hn:cX n)(e stop:Int)(l:List ai):qc n e stop l=l++oQ n.1 e stop:=by grind[qc,oQ,pO]
theorem Vg(s:aX)(y:ai):(cE bj (eJ s) y).getD false=mn (dr s) y:=by have:=qK bj (fun x:ai=>x) (dr s) y;grind[eJ,mn,Gf]
theorem Od{s:aX}{y:ai}(h:mn (dr s) y=false):gx bj (eJ s) y true=eJ (gm s (dr s++[y])):=by(have hn:(cE bj (eJ s) y).isSome=false:=by rw[jY];unfold eJ;rw[List.any_map];unfold mn at h;rw[<-h];congr 1;funext x;show Ty.mV bj y x=_;rw[Gf,oI]);rw[pP qf hn];show eJ s++[(y,true)]=(dr s++[y]).map _;rw[List.map_append];rfl
theorem v87(n:aO)(r:aK):aj (aq aP [(139,Gu),(140,P3),(88,SM),(141,LG),(117,qp),(143,P2),(61,xF),(92,oH),(145,LD),(144,yT),(146,LC),(147,P1),(142,LF)] [] [] [142]) Tryz.f87 c87 (a87 (n,r,())) (n,r,())=( U (r.1,r.2.1,r.2.2.1,r.2.2.2.1,r.2.2.2.2.1,[],[],[],false) fun(y2:aK)=>U ((↑(dQ n.1 y2).length:Int)-(1:Int)) fun(y3:Int)=>U ((↑(dQ n.1 r).length:Int)-(1:Int)) fun(y4:Int)=>lz r.2.2.2.1/\lz r.2.2.2.2.1/\sR n.1/\(cX n/\xe y2)/\bJ IntKind.i64 y3/\(∃(mQ:Nat),mQ<=(dQ n.1 r).length/\y4-(mQ:Int)=y3/\n.1.2.2.2.2.2.2.2.2=n.1.2.2.2.2.2.2.2.2/\mi n.1 r mQ=[]/\[n]=[n]/\(0:Nat)=(0:Nat)/\r.1=r.1/\r.2.1=r.2.1/\r.2.2.1=r.2.2.1/\false=false/\(0:Int)=(0:Int)/\(0:Int)=(0:Int)/\(0:Int)=(0:Int)/\false=false/\r.2.2.2.1=r.2.2.2.1/\r.2.2.2.2.1=r.2.2.2.2.1/\([]:List (ai×Bool))=[]/\dQ n.1 y2=dQ n.1 y2/\True)/\∀(s5:Nat),U (decide (y4-(s5:Int)>=(0:Int))) fun(y6:Bool)=>U ((List.replicate (1:Nat) ((0:Int),(0:Int))).set (0:Nat) (eP n ((dQ n.1 y2).getD (y4-(s5:Int)).toNat ((0:Int),(0:Int)))).1) fun(y7:List (Int×Int))=>U (y4-(s5:Int)-(1:Int)) fun(y8:Int)=>s5<=(dQ n.1 r).length->(y6=true->bF (y4-(s5:Int)) (dQ n.1 y2).length/\True/\roomFor ((mi n.1 r s5).length+y7.length) (16:Nat)/\bJ IntKind.i64 y8/\∃(Dc:Nat),Dc<=(dQ n.1 r).length/\(dQ n.1 r).length-Dc<(dQ n.1 r).length-s5/\y4-(Dc:Int)=y8/\n.1.2.2.2.2.2.2.2.2=n.1.2.2.2.2.2.2.2.2/\mi n.1 r Dc=mi n.1 r s5++y7/\[n]=[n]/\(0:Nat)=(0:Nat)/\r.1=r.1/\r.2.1=r.2.1/\r.2.2.1=r.2.2.1/\false=false/\(0:Int)=(0:Int)/\(0:Int)=(0:Int)/\(0:Int)=(0:Int)/\false=false/\r.2.2.2.1=r.2.2.2.1/\r.2.2.2.2.1=r.2.2.2.2.1/\([]:List (ai×Bool))=[]/\dQ n.1 y2=dQ n.1 y2/\True)/\(y6=false->(∃(oi:List ai×aX),kg n r oi/\n.1.2.2.2.2.2.2.2.2=n.1.2.2.2.2.2.2.2.2/\n=n/\oi.2.2.1=r.1/\oi.2.2.2.1=r.2.1/\oi.2.2.2.2.1=r.2.2.1/\oi.2.2.2.2.2.2.2.2.2.2.1=false/\hU oi.2=r.2.2.2.1/\eQ oi.2=r.2.2.2.2.1/\cm oi.2=[]/\fG oi.2=[]/\eb oi.2=[]/\oi.1.reverse=mi n.1 r s5/\eJ oi.2=[]/\(0:Int)=(0:Int)/\(0:Int)=(0:Int)/\(0:Int)=(0:Int)/\false=false/\True)/\∀(s9:List ai×aX),U (decide ((s9.1.reverse.length:Int)>(0:Int))) fun(cy:Bool)=>U ((s9.1.reverse.length:Int)-(1:Int)) fun(bD:Int)=>U (s9.2.2.1,s9.2.2.2.1,s9.2.2.2.2.1,hU s9.2,eQ s9.2,cm s9.2,fG s9.2,eb s9.2,s9.2.2.2.2.2.2.2.2.2.2.1) fun(bN:aK)=>U (s9.1.reverse.getD bD.toNat ((0:Int),(0:Int))) fun(cZ:Int×Int)=>U (bif tO bN cZ.1 then true else(cE bj (eJ s9.2) cZ).getD false) fun(ef:Bool)=>U (List.take bD.toNat s9.1.reverse) fun(cW:List (Int×Int))=>U (bif decide (jR n cZ>=(0:Int))then !n.1.2.2.2.2.2.2.2.2 else false) fun(df:Bool)=>U (!dx (eb s9.2) (jR n cZ)) fun(eL:Bool)=>U ((List.replicate (1:Nat) (0:Int)).set (0:Nat) (jR n cZ)) fun(eT:List Int)=>U (ay n.1 cZ.1==(4:Int)) fun(ia:Bool)=>U (ay n.1 cZ.1==(2:Int)) fun(gf:Bool)=>U (qc n cZ.1 (2:Int) cW) fun(iH:List ai)=>U (eF bN cZ.1).2.2 fun(fE:Int×Int×List (Int×Int×Int)×List (Int×Int)×List (Int×Int)×List Int×List Int×Bool)=>U (bif db (eQ s9.2) cZ then true else db (cm s9.2) cZ) fun(lS:Bool)=>U (cZ.1,(3:Int)-cZ.2) fun(na:Int×Int)=>U (!db (cm s9.2) na) fun(mO:Bool)=>U ((List.replicate (1:Nat) ((0:Int),(0:Int))).set (0:Nat) na) fun(pZ:List (Int×Int))=>U (bK n.1 cZ.1 cZ.2 (0:Int)) fun(rk:Int×Bool)=>kg n r s9->(cy=true->bJ IntKind.i64 bD/\bF bD s9.1.reverse.length/\bJ IntKind.i64 bD/\((0:Int)<=bD/\bD<=(s9.1.reverse.length:Int))/\(hU s9.2).length<=(1000:Nat)/\(ef=true->∃(aB:List ai×aX),kg n r aB/\gv aB.1 aB.2<gv s9.1 s9.2/\n.1.2.2.2.2.2.2.2.2=n.1.2.2.2.2.2.2.2.2/\n=n/\aB.2.2.1=s9.2.2.1/\aB.2.2.2.1=s9.2.2.2.1/\aB.2.2.2.2.1=s9.2.2.2.2.1/\aB.2.2.2.2.2.2.2.2.2.2.1=s9.2.2.2.2.2.2.2.2.2.2.1/\hU aB.2=hU s9.2/\eQ aB.2=eQ s9.2/\cm aB.2=cm s9.2/\fG aB.2=fG s9.2/\eb aB.2=eb s9.2/\aB.1.reverse=cW/\eJ aB.2=eJ s9.2/\(0:Int)=(0:Int)/\(0:Int)=(0:Int)/\(0:Int)=(0:Int)/\false=false/\True)/\(ef=false->True/\(df=true->True/\(eL=true->roomFor ((eb s9.2).length+eT.length) (8:Nat)/\∃(aB:List ai×aX),kg n r aB/\gv aB.1 aB.2<gv s9.1 s9.2/\n.1.2.2.2.2.2.2.2.2=n.1.2.2.2.2.2.2.2.2/\n=n/\aB.2.2.1=s9.2.2.1/\aB.2.2.2.1=s9.2.2.2.1/\aB.2.2.2.2.1=s9.2.2.2.2.1/\aB.2.2.2.2.2.2.2.2.2.2.1=s9.2.2.2.2.2.2.2.2.2.2.1/\hU aB.2=hU s9.2/\eQ aB.2=eQ s9.2/\cm aB.2=cm s9.2/\fG aB.2=fG s9.2/\eb aB.2=eb s9.2++eT/\aB.1.reverse=cW/\eJ aB.2=gx bj (eJ s9.2) cZ true/\(0:Int)=(0:Int)/\(0:Int)=(0:Int)/\(0:Int)=(0:Int)/\false=false/\True)/\(eL=false->∃(aB:List ai×aX),kg n r aB/\gv aB.1 aB.2<gv s9.1 s9.2/\n.1.2.2.2.2.2.2.2.2=n.1.2.2.2.2.2.2.2.2/\n=n/\aB.2.2.1=s9.2.2.1/\aB.2.2.2.1=s9.2.2.2.1/\aB.2.2.2.2.1=s9.2.2.2.2.1/\aB.2.2.2.2.2.2.2.2.2.2.1=s9.2.2.2.2.2.2.2.2.2.2.1/\hU aB.2=hU s9.2/\eQ aB.2=eQ s9.2/\cm aB.2=cm s9.2/\fG aB.2=fG s9.2/\eb aB.2=eb s9.2/\aB.1.reverse=cW/\eJ aB.2=gx bj (eJ s9.2) cZ true/\(0:Int)=(0:Int)/\(0:Int)=(0:Int)/\(0:Int)=(0:Int)/\false=false/\True))/\(df=false->True/\(ia=true->∃(aB:List ai×aX),kg n r aB/\gv aB.1 aB.2<gv s9.1 s9.2/\n.1.2.2.2.2.2.2.2.2=n.1.2.2.2.2.2.2.2.2/\n=n/\aB.2.2.1=s9.2.2.1/\aB.2.2.2.1=s9.2.2.2.1/\aB.2.2.2.2.1=s9.2.2.2.2.1/\aB.2.2.2.2.2.2.2.2.2.2.1=true/\hU aB.2=hU s9.2/\eQ aB.2=eQ s9.2/\cm aB.2=cm s9.2/\fG aB.2=fG s9.2/\eb aB.2=eb s9.2/\aB.1.reverse=cW/\eJ aB.2=gx bj (eJ s9.2) cZ true/\(0:Int)=(0:Int)/\(0:Int)=(0:Int)/\(0:Int)=(0:Int)/\false=false/\True)/\(ia=false->(gf=true->((cZ.2==(0:Int))=true->(fG s9.2).length<=(1000:Nat)/\((eF bN cZ.1).1=true->cW.length<=(1000000:Nat)/\iH.length<=(1000000:Nat)/\∃(aB:List ai×aX),kg n r aB/\gv aB.1 aB.2<gv s9.1 s9.2/\n.1.2.2.2.2.2.2.2.2=n.1.2.2.2.2.2.2.2.2/\n=n/\aB.2.2.1=(eF bN cZ.1).2.1/\aB.2.2.2.1=fE.1/\aB.2.2.2.2.1=fE.2.1/\aB.2.2.2.2.2.2.2.2.2.2.1=fE.2.2.2.2.2.2.2/\hU aB.2=fE.2.2.1/\eQ aB.2=fE.2.2.2.1/\cm aB.2=fE.2.2.2.2.1/\fG aB.2=fE.2.2.2.2.2.1/\eb aB.2=fE.2.2.2.2.2.2.1/\aB.1.reverse=qc n cZ.1 (1:Int) iH/\eJ aB.2=gx bj (eJ s9.2) cZ true/\(0:Int)=(0:Int)/\(0:Int)=(0:Int)/\(0:Int)=(0:Int)/\false=false/\True)/\((eF bN cZ.1).1=false->∃(aB:List ai×aX),kg n r aB/\gv aB.1 aB.2<gv s9.1 s9.2/\n.1.2.2.2.2.2.2.2.2=n.1.2.2.2.2.2.2.2.2/\n=n/\aB.2.2.1=(eF bN cZ.1).2.1/\aB.2.2.2.1=fE.1/\aB.2.2.2.2.1=fE.2.1/\aB.2.2.2.2.2.2.2.2.2.2.1=fE.2.2.2.2.2.2.2/\hU aB.2=fE.2.2.1/\eQ aB.2=fE.2.2.2.1/\cm aB.2=fE.2.2.2.2.1/\fG aB.2=fE.2.2.2.2.2.1/\eb aB.2=fE.2.2.2.2.2.2.1/\aB.1.reverse=cW/\eJ aB.2=gx bj (eJ s9.2) cZ true/\(0:Int)=(0:Int)/\(0:Int)=(0:Int)/\(0:Int)=(0:Int)/\false=false/\True))/\((cZ.2==(0:Int))=false->True/\(db (eQ s9.2) cZ=false->True)/\(lS=true->(fG s9.2).length<=(1000:Nat)/\((eF bN cZ.1).1=true->cW.length<=(1000000:Nat)/\∃(aB:List ai×aX),kg n r aB/\gv aB.1 aB.2<gv s9.1 s9.2/\n.1.2.2.2.2.2.2.2.2=n.1.2.2.2.2.2.2.2.2/\n=n/\aB.2.2.1=(eF bN cZ.1).2.1/\aB.2.2.2.1=fE.1/\aB.2.2.2.2.1=fE.2.1/\aB.2.2.2.2.2.2.2.2.2.2.1=fE.2.2.2.2.2.2.2/\hU aB.2=fE.2.2.1/\eQ aB.2=fE.2.2.2.1/\cm aB.2=fE.2.2.2.2.1/\fG aB.2=fE.2.2.2.2.2.1/\eb aB.2=fE.2.2.2.2.2.2.1/\aB.1.reverse=qc n cZ.1 (0:Int) cW/\eJ aB.2=gx bj (eJ s9.2) cZ true/\(0:Int)=(0:Int)/\(0:Int)=(0:Int)/\(0:Int)=(0:Int)/\false=false/\True)/\((eF bN cZ.1).1=false->∃(aB:List ai×aX),kg n r aB/\gv aB.1 aB.2<gv s9.1 s9.2/\n.1.2.2.2.2.2.2.2.2=n.1.2.2.2.2.2.2.2.2/\n=n/\aB.2.2.1=(eF bN cZ.1).2.1/\aB.2.2.2.1=fE.1/\aB.2.2.2.2.1=fE.2.1/\aB.2.2.2.2.2.2.2.2.2.2.1=fE.2.2.2.2.2.2.2/\hU aB.2=fE.2.2.1/\eQ aB.2=fE.2.2.2.1/\cm aB.2=fE.2.2.2.2.1/\fG aB.2=fE.2.2.2.2.2.1/\eb aB.2=fE.2.2.2.2.2.2.1/\aB.1.reverse=cW/\eJ aB.2=gx bj (eJ s9.2) cZ true/\(0:Int)=(0:Int)/\(0:Int)=(0:Int)/\(0:Int)=(0:Int)/\false=false/\True))/\(lS=false->bJ IntKind.i64 ((3:Int)-cZ.2)/\True/\(mO=true->roomFor ((cm s9.2).length+pZ.length) (16:Nat)/\∃(aB:List ai×aX),kg n r aB/\gv aB.1 aB.2<gv s9.1 s9.2/\n.1.2.2.2.2.2.2.2.2=n.1.2.2.2.2.2.2.2.2/\n=n/\aB.2.2.1=s9.2.2.1/\aB.2.2.2.1=s9.2.2.2.1/\aB.2.2.2.2.1=s9.2.2.2.2.1/\aB.2.2.2.2.2.2.2.2.2.2.1=s9.2.2.2.2.2.2.2.2.2.2.1/\hU aB.2=hU s9.2/\eQ aB.2=eQ s9.2/\cm aB.2=cm s9.2++pZ/\fG aB.2=fG s9.2/\eb aB.2=eb s9.2/\aB.1.reverse=cW/\eJ aB.2=gx bj (eJ s9.2) cZ true/\(0:Int)=(0:Int)/\(0:Int)=(0:Int)/\(0:Int)=(0:Int)/\false=false/\True)/\(mO=false->∃(aB:List ai×aX),kg n r aB/\gv aB.1 aB.2<gv s9.1 s9.2/\n.1.2.2.2.2.2.2.2.2=n.1.2.2.2.2.2.2.2.2/\n=n/\aB.2.2.1=s9.2.2.1/\aB.2.2.2.1=s9.2.2.2.1/\aB.2.2.2.2.1=s9.2.2.2.2.1/\aB.2.2.2.2.2.2.2.2.2.2.1=s9.2.2.2.2.2.2.2.2.2.2.1/\hU aB.2=hU s9.2/\eQ aB.2=eQ s9.2/\cm aB.2=cm s9.2/\fG aB.2=fG s9.2/\eb aB.2=eb s9.2/\aB.1.reverse=cW/\eJ aB.2=gx bj (eJ s9.2) cZ true/\(0:Int)=(0:Int)/\(0:Int)=(0:Int)/\(0:Int)=(0:Int)/\false=false/\True))))/\(gf=false->True/\(rk.2=true->(fG s9.2).length<=(1000:Nat)/\((eF bN cZ.1).1=true->cW.length<=(1000000:Nat)/\∃(aB:List ai×aX),kg n r aB/\gv aB.1 aB.2<gv s9.1 s9.2/\n.1.2.2.2.2.2.2.2.2=n.1.2.2.2.2.2.2.2.2/\n=n/\aB.2.2.1=(eF bN cZ.1).2.1/\aB.2.2.2.1=fE.1/\aB.2.2.2.2.1=fE.2.1/\aB.2.2.2.2.2.2.2.2.2.2.1=fE.2.2.2.2.2.2.2/\hU aB.2=fE.2.2.1/\eQ aB.2=fE.2.2.2.1/\cm aB.2=fE.2.2.2.2.1/\fG aB.2=fE.2.2.2.2.2.1/\eb aB.2=fE.2.2.2.2.2.2.1/\aB.1.reverse=qc n cZ.1 rk.1 cW/\eJ aB.2=gx bj (eJ s9.2) cZ true/\(0:Int)=(0:Int)/\(0:Int)=(0:Int)/\(0:Int)=(0:Int)/\false=false/\True)/\((eF bN cZ.1).1=false->∃(aB:List ai×aX),kg n r aB/\gv aB.1 aB.2<gv s9.1 s9.2/\n.1.2.2.2.2.2.2.2.2=n.1.2.2.2.2.2.2.2.2/\n=n/\aB.2.2.1=(eF bN cZ.1).2.1/\aB.2.2.2.1=fE.1/\aB.2.2.2.2.1=fE.2.1/\aB.2.2.2.2.2.2.2.2.2.2.1=fE.2.2.2.2.2.2.2/\hU aB.2=fE.2.2.1/\eQ aB.2=fE.2.2.2.1/\cm aB.2=fE.2.2.2.2.1/\fG aB.2=fE.2.2.2.2.2.1/\eb aB.2=fE.2.2.2.2.2.2.1/\aB.1.reverse=cW/\eJ aB.2=gx bj (eJ s9.2) cZ true/\(0:Int)=(0:Int)/\(0:Int)=(0:Int)/\(0:Int)=(0:Int)/\false=false/\True))/\(rk.2=!true->(false=true->cW.length<=(1000000:Nat)/\∃(aB:List ai×aX),kg n r aB/\gv aB.1 aB.2<gv s9.1 s9.2/\n.1.2.2.2.2.2.2.2.2=n.1.2.2.2.2.2.2.2.2/\n=n/\aB.2.2.1=s9.2.2.1/\aB.2.2.2.1=s9.2.2.2.1/\aB.2.2.2.2.1=s9.2.2.2.2.1/\aB.2.2.2.2.2.2.2.2.2.2.1=s9.2.2.2.2.2.2.2.2.2.2.1/\hU aB.2=hU s9.2/\eQ aB.2=eQ s9.2/\cm aB.2=cm s9.2/\fG aB.2=fG s9.2/\eb aB.2=eb s9.2/\aB.1.reverse=qc n cZ.1 rk.1 cW/\eJ aB.2=gx bj (eJ s9.2) cZ true/\(0:Int)=(0:Int)/\(0:Int)=(0:Int)/\(0:Int)=(0:Int)/\false=false/\True)/\(false=false->∃(aB:List ai×aX),kg n r aB/\gv aB.1 aB.2<gv s9.1 s9.2/\n.1.2.2.2.2.2.2.2.2=n.1.2.2.2.2.2.2.2.2/\n=n/\aB.2.2.1=s9.2.2.1/\aB.2.2.2.1=s9.2.2.2.1/\aB.2.2.2.2.1=s9.2.2.2.2.1/\aB.2.2.2.2.2.2.2.2.2.2.1=s9.2.2.2.2.2.2.2.2.2.2.1/\hU aB.2=hU s9.2/\eQ aB.2=eQ s9.2/\cm aB.2=cm s9.2/\fG aB.2=fG s9.2/\eb aB.2=eb s9.2/\aB.1.reverse=cW/\eJ aB.2=gx bj (eJ s9.2) cZ true/\(0:Int)=(0:Int)/\(0:Int)=(0:Int)/\(0:Int)=(0:Int)/\false=false/\True)))))))/\(cy=false->bN=qA n.1 r/\True))):=by kernel_rfl
theorem b87(n:aO)(r:aK)(hn:cX n)(hf:uK n.1 r):aj (aq aP [(139,Gu),(140,P3),(88,SM),(141,LG),(117,qp),(143,P2),(61,xF),(92,oH),(145,LD),(144,yT),(146,LC),(147,P1),(142,LF)] [] [] [142]) Tryz.f87 c87 (a87 (n,r,())) (n,r,()):=by
 have jq:xe r:=hf.2.1;have V6:=jq.1;have V8:=hf.2.2;have hup:=wO n.1 r r.2.2.2.1.length (aZ _);have o6:(dQ n.1 r).length<=2000:=by grind[dQ]
 have jZ:=oJ (jh hn.2).1;rw[v87];refine U.mk fun y2 e2=>?_;have hp2:dQ n.1 y2=dQ n.1 r:=by grind[dQ,gF]
 rw[hp2];refine U.mk fun y3 e3=>U.mk fun y4 e4=>⟨V6,V8,Cu hn,⟨hn,by rw[e2];exact jq⟩,bI (by omega) (by omega),⟨0,by omega,?_⟩,fun k=>U.mk fun y6 e6=>U.mk fun y7 e7=>U.mk fun y8 e8=>fun hk=>⟨fun h6=>?_,fun h6=>⟨?_,?_⟩⟩⟩;·(have q1:y4-((0:Nat):Int)=y3:=by omega);(repeat' apply And.intro);all_goals first|rfl|trivial|exact q1
 have h6:y4-(k:Int)>=0:=ar (by grind);have Pb:k<(dQ n.1 r).length:=by omega
 have hpo:(mi n.1 r k).length<=2000:=by grind[mi]
 refine⟨⟨by omega,by omega⟩,trivial,gS (by grind) (by decide),bI (by omega) (by omega),k+1,by omega,by omega,?_⟩;have q1:y4-((k+1:Nat):Int)=y8:=by omega
 have q2:mi n.1 r (k+1)=mi n.1 r k++y7:=by unfold mi;rw[kj (0,0) (by grind),List.map_append,e7,pO hn];(have ht:(y4-(k:Int)).toNat=(dQ n.1 r).length-1-k:=by omega);grind
 grind;·have h6:¬y4-(k:Int)>=0:=au (by grind);(have Pb:k=(dQ n.1 r).length:=by omega);have Pe:=Jd hf (dQ n.1 r).length (aZ _);rw[List.take_length]at Pe;have hon:=(Fj hf 0).1;(have hje:(cK n.1).length<=160:=by grind[oy]);(have q2:((dQ n.1 r).map fun x=>(aD n.1 x).1).reverse=mi n.1 r k:=by grind[mi,List.length_reverse,List.map_reverse]);refine⟨((dQ n.1 r).map fun x=>(aD n.1 x).1,s0 n.1 r),⟨Pe.symm,hon,rfl,fun y hy=>?_,?_⟩,?_⟩;grind[q9,BK];grind[gv,s0];·(repeat' apply And.intro);all_goals first|rfl|trivial|exact q2
 ·intro s9;refine U.mk fun cy eG=>U.mk fun bD fY=>U.mk fun bN fz=>U.mk fun cZ iu=>U.mk fun ef ki=>U.mk fun cW mS=>U.mk fun df mR=>U.mk fun eL o7=>U.mk fun eT uv=>U.mk fun ia xA=>U.mk fun gf uu=>U.mk fun iH Bv=>U.mk fun fE tF=>U.mk fun lS Jq=>U.mk fun na Fu=>U.mk fun mO CL=>U.mk fun pZ Kp=>U.mk fun rk Wz=>fun nB=>?_;obtain⟨ts,s⟩:=s9;have YJ:bN=wM s:=fz;cases ts with|nil=>(have lv:cy=false:=by grind);refine⟨fun h=>(by rw[lv]at h;cases h),fun _=>⟨?_,trivial⟩⟩;have h1:s=tp n.1 r (dQ n.1 r).length:=nB.same;grind[qA,Tm]|cons y ts=>(have hlen:((y::ts).reverse).length=ts.length+1:=by simp);have hwk:gv (y::ts) s<=100000:=nB.small;(have V4:ts.length<=100000:=by grind[gv]);(have lv:cy=true:=by grind);(have yw:bD=(ts.length:Int):=by grind);have hrv:(y::ts).reverse=ts.reverse++[y]:=List.reverse_cons;(have lu:cZ=y:=by grind[CH]);(have h15:cW=ts.reverse:=by grind[List.take_left']);have o6:s.1=n.1:=nB.vb;have hyj:y∈cK n.1:=nB.Mr y bH;have hinv:=nB.inv.1;have hinv:GC s:=hinv;have hzl:(fG s).length<=12:=hinv.zd;have CD:=Va s hinv;have hgl:(cm s).length<=2000:=dk hinv.guards CD;have hhl:(eb s).length<=2000:=dk hinv.holds CD;have Fb:(hU s).length<=1000:=hinv.steps;obtain⟨g1,g2⟩:=Wl nB;(have hR:jR n y=cg s.1 y:=by grind[qJ]);(have vO:ef=(tO (u5 s) y.1||mn (dr s) y):=by rw[ki,YJ,lu,Tm];show(bif tO (wM s) y.1 then true else(cE bj (eJ s) y).getD false)=_;simp[Vg]);(have Bu:df=(decide (0<=cg s.1 y)&&!s.1.2.2.2.2.2.2.2.2):=by simp_all);(have I5:eL=!dx (eb s) (cg s.1 y):=by grind);(have Pn:eT=[cg s.1 y]:=by grind);(have uk:ia=(ay s.1 y.1==4):=by grind);(have Bt:gf=(ay s.1 y.1==2):=by grind);(have I4:iH=ts.reverse++oQ s.1 y.1 2:=by grind[KP]);(have GX:fE=(eF (wM s) y.1).2.2:=by grind);(have h23:lS=(db (eQ s) y||db (cm s) y):=by grind);(have GW:na=(y.1,3-y.2):=by grind);(have Wg:mO=!db (cm s) (y.1,3-y.2):=by grind);(have Zt:pZ=[(y.1,3-y.2)]:=by grind);(have h27:rk=bK s.1 y.1 y.2 0:=by grind);(have IW:ew s.1 y=true:=by obtain⟨j,hj,hx⟩:=(Ww n.1 y).1 hyj;have:=yn (jh hn.2).2.2.1 hj;grind);have aqu:=xu IW;clear eG fY iu ki mS mR o7 uv xA uu Bv tF Jq Fu CL Kp Wz;rw[lu,h15,YJ,yw];have aqj:((y::ts).reverse).length=ts.length+1:=hlen;obtain⟨hzA,O0,hzC,hzD⟩:=QC (gm s (dr s++[y])) y.1;have hzA:(eF (wM s) y.1).1=(ep (gm s (dr s++[y])) y.1).1:=hzA;have O0:(eF (wM s) y.1).2=wM (ep (gm s (dr s++[y])) y.1).2:=O0;(have l15:ts.reverse.length<=1000000:=by grind);(have r1:∀e stop,(oQ s.1 e stop++ts).reverse=ts.reverse++oQ s.1 e stop:=fun e stop=>by rw[List.reverse_append,X0]);(have o1:∀e stop l,qc n e stop l=l++oQ s.1 e stop:=fun e stop l=>by grind[KP]);refine⟨fun _=>⟨bI (by omega) (by omega),⟨by omega,by grind⟩,bI (by omega) (by omega),⟨by omega,by grind⟩,Fb,fun alo=>?_,fun alo=>?_⟩,fun h=>(by grind)⟩;(have hm:lg y s=([],s):=by grind[lg]);rw[hm]at g1 g2;grind;(have akp:mn (dr s) y=false:=by grind);(have IQ:lg y s=zG y (gm s (dr s++[y])):=by grind[lg]);have q2:eJ (gm s (dr s++[y]))=gx bj (eJ s) y true:=(Od akp).symm;(have qz:eJ (ep (gm s (dr s++[y])) y.1).2=gx bj (eJ s) y true:=by grind[eJ]);(have hN:∀c,(decide (0<=cg s.1 y)&&!s.1.2.2.2.2.2.2.2.2)=c->zG y (gm s (dr s++[y]))=bif c then([],bif dx (eb s) (cg s.1 y)then gm s (dr s++[y])else HP (gm s (dr s++[y])) (eb s++[cg s.1 y]))else bif ay s.1 y.1==4 then([],Cm (gm s (dr s++[y])))else bif ay s.1 y.1==2 then lh y (gm s (dr s++[y]))else(bif(ep (gm s (dr s++[y])) y.1).1 then(oQ s.1 y.1 (vA s.1 y.1 y.2 0).1,(ep (gm s (dr s++[y])) y.1).2)else([],(ep (gm s (dr s++[y])) y.1).2)):=fun c hc=>by subst hc;rfl);rw[Pn,I4,GX,Zt];refine⟨trivial,fun alp=>⟨trivial,fun alq=>⟨gS (by show(eb s).length+1<=_;omega) (by decide),?_⟩,fun alq=>?_⟩,fun alp=>⟨trivial,fun B7=>?_,fun B7=>⟨fun Ea=>⟨fun WB=>⟨by grind,fun cz=>⟨l15,?_,?_⟩,fun cz=>?_⟩,fun WB=>⟨trivial,fun _=>trivial,fun als=>⟨by grind,fun cz=>⟨l15,?_⟩,fun cz=>?_⟩,fun als=>⟨bI ?_ ?_,trivial,fun alr=>⟨gS (by grind) (by decide),?_⟩,fun alr=>?_⟩⟩⟩,fun Ea=>⟨trivial,fun ZJ=>⟨by grind,fun cz=>⟨l15,?_⟩,fun cz=>?_⟩,fun ZJ=>?_⟩⟩⟩⟩;(·(have hm:lg y s=([],HP (gm s (dr s++[y])) (eb s++[cg s.1 y])):=by rw[IQ,hN true (by grind)];grind);rw[hm]at g1 g2;refine⟨([]++ts,_),g1,g2,?_⟩;(repeat' apply And.intro);all_goals first|rfl|trivial|exact q2);(·(have hm:lg y s=([],gm s (dr s++[y])):=by rw[IQ,hN true (by grind)];grind);rw[hm]at g1 g2;refine⟨([]++ts,_),g1,g2,?_⟩;(repeat' apply And.intro);all_goals first|rfl|trivial|exact q2);(·(have hm:lg y s=([],Cm (gm s (dr s++[y]))):=by rw[IQ,hN false (by grind),<-uk,B7];rfl);rw[hm]at g1 g2;refine⟨([]++ts,_),g1,g2,?_⟩;(repeat' apply And.intro);all_goals first|rfl|trivial|exact q2);grind[Dl];(·(have cz:(ep (gm s (dr s++[y])) y.1).1=true:=by grind);(have hm:lg y s=(oQ s.1 y.1 1++oQ s.1 y.1 2,(ep (gm s (dr s++[y])) y.1).2):=by rw[IQ,hN false (by grind),<-uk,B7,<-Bt,Ea];show lh y _=_;unfold lh;rw[WB,cz];rfl);rw[hm]at g1 g2;(have q1:(oQ s.1 y.1 1++oQ s.1 y.1 2++ts).reverse=qc n y.1 1 (ts.reverse++oQ s.1 y.1 2):=by simp_all);refine⟨(oQ s.1 y.1 1++oQ s.1 y.1 2++ts,_),g1,g2,?_⟩;rw[O0];(repeat' apply And.intro);all_goals first|rfl|trivial|exact q1|exact qz);(·(have cz:(ep (gm s (dr s++[y])) y.1).1=false:=by grind);(have hm:lg y s=([],(ep (gm s (dr s++[y])) y.1).2):=by rw[IQ,hN false (by grind),<-uk,B7,<-Bt,Ea];show lh y _=_;unfold lh;simp_all);rw[hm]at g1 g2;refine⟨([]++ts,_),g1,g2,?_⟩;rw[O0];(repeat' apply And.intro);all_goals first|rfl|trivial|exact qz);(·(have cz:(ep (gm s (dr s++[y])) y.1).1=true:=by grind);(have hm:lg y s=(oQ s.1 y.1 0,(ep (gm s (dr s++[y])) y.1).2):=by rw[IQ,hN false (by grind),<-uk,B7,<-Bt,Ea];show lh y _=_;unfold lh;(have:(!db (eQ (gm s (dr s++[y]))) (y.1,y.2)&&!db (cm (gm s (dr s++[y]))) (y.1,y.2))=false:=by show(!db (eQ s) y&&!db (cm s) y)=false;grind);rw[WB,this,cz];rfl);rw[hm]at g1 g2;(have q1:(oQ s.1 y.1 0++ts).reverse=qc n y.1 0 ts.reverse:=by rw[o1,r1]);refine⟨(oQ s.1 y.1 0++ts,_),g1,g2,?_⟩;rw[O0];(repeat' apply And.intro);all_goals first|rfl|trivial|exact q1|exact qz);(·(have cz:(ep (gm s (dr s++[y])) y.1).1=false:=by grind);(have hm:lg y s=([],(ep (gm s (dr s++[y])) y.1).2):=by rw[IQ,hN false (by grind),<-uk,B7,<-Bt,Ea];show lh y _=_;unfold lh;(have:(!db (eQ (gm s (dr s++[y]))) (y.1,y.2)&&!db (cm (gm s (dr s++[y]))) (y.1,y.2))=false:=by show(!db (eQ s) y&&!db (cm s) y)=false;grind);rw[WB,this,cz];rfl);rw[hm]at g1 g2;refine⟨([]++ts,_),g1,g2,?_⟩;rw[O0];(repeat' apply And.intro);all_goals first|rfl|trivial|exact qz);omega;omega;(·(have yu:(!db (eQ (gm s (dr s++[y]))) (y.1,y.2)&&!db (cm (gm s (dr s++[y]))) (y.1,y.2))=true:=by show(!db (eQ s) y&&!db (cm s) y)=true;grind);(have hm:lg y s=([],G5 (gm s (dr s++[y])) (cm s++[(y.1,3-y.2)])):=by rw[IQ,hN false (by grind),<-uk,B7,<-Bt,Ea];show lh y _=_;unfold lh;(have:db (cm (gm s (dr s++[y]))) (y.1,3-y.2)=false:=by show db (cm s) _=false;grind);rw[WB,yu,this];rfl);rw[hm]at g1 g2;refine⟨([]++ts,_),g1,g2,?_⟩;(repeat' apply And.intro);all_goals first|rfl|trivial|exact q2);(·(have yu:(!db (eQ (gm s (dr s++[y]))) (y.1,y.2)&&!db (cm (gm s (dr s++[y]))) (y.1,y.2))=true:=by show(!db (eQ s) y&&!db (cm s) y)=true;grind);(have hm:lg y s=([],gm s (dr s++[y])):=by rw[IQ,hN false (by grind),<-uk,B7,<-Bt,Ea];show lh y _=_;unfold lh;(have:db (cm (gm s (dr s++[y]))) (y.1,3-y.2)=true:=by show db (cm s) _=true;grind);rw[WB,yu,this];rfl);rw[hm]at g1 g2;refine⟨([]++ts,_),g1,g2,?_⟩;(repeat' apply And.intro);all_goals first|rfl|trivial|exact q2);(·have GK:=BA IW (by grind) (by grind);(have cz:(ep (gm s (dr s++[y])) y.1).1=true:=by grind);(have hm:lg y s=(oQ s.1 y.1 (vA s.1 y.1 y.2 0).1,(ep (gm s (dr s++[y])) y.1).2):=by rw[IQ,hN false (by grind),<-uk,B7,<-Bt,Ea,cz];rfl);rw[hm]at g1 g2;(have q1:(oQ s.1 y.1 (vA s.1 y.1 y.2 0).1++ts).reverse=qc n y.1 rk.1 ts.reverse:=by rw[o1,r1,h27,GK]);refine⟨(oQ s.1 y.1 (vA s.1 y.1 y.2 0).1++ts,_),g1,g2,?_⟩;rw[O0];(repeat' apply And.intro);all_goals first|rfl|trivial|exact q1|exact qz);(·(have cz:(ep (gm s (dr s++[y])) y.1).1=false:=by grind);(have hm:lg y s=([],(ep (gm s (dr s++[y])) y.1).2):=by rw[IQ,hN false (by grind),<-uk,B7,<-Bt,Ea,cz];rfl);rw[hm]at g1 g2;refine⟨([]++ts,_),g1,g2,?_⟩;rw[O0];(repeat' apply And.intro);all_goals first|rfl|trivial|exact qz);have GK:=BA IW (by grind) (by grind);rw[h27,GK]at ZJ;cases ZJ
theorem ai4:aL Tryz.prog 87 c87:=aL.cu (l:=[(139,Gu),(140,P3),(88,SM),(141,LG),(117,qp),(143,P2),(61,xF),(92,oH),(145,LD),(144,yT),(146,LC),(147,P1),(142,LF)]) (wraps:=[]) (clos:=[]) (mclos:=[142]) (A:=a87) aM ⟨Yh,aeR,X8,aeQ,Cs,aeO,Ic,wa,aeN,Rx,aeM,aeL,aeP,trivial⟩ Tryz.func87 (by rfl) (by rfl) fun x _ hp=>b87 x.1 x.2.1 hp.1 hp.2
theorem ad0:aL Tryz.prog 87 T4:=ai4.ptr fun x h=>by obtain⟨⟨n,h1,h2⟩,h3⟩:=h;refine⟨n,h1,h2,?_⟩;rw[h1]at h3;exact h3
theorem mj(p:ab):(gz p).1=p:=by grind[gz]
theorem AV{p:ab}(h:bB p=0):cX (gz p):=⟨by rw[mj],by grind[mj]⟩
theorem EN{p:ab}(h:bB p=0):cY p=some (gz p):=by grind[cY]
theorem v42(p:ab):aj (aq aP [(34,uy),(86,Lj),(87,T4),(88,T3)]) Tryz.f42 NL (a42 (p,())) (p,())=( U (jg (aQ (cY p)).1).2 fun(y1:Int)=>U (jg (aQ (cY p)).1).1 fun(y2:List aK)=>U ((0:Int),(0:Int),(0:Int),[],[],[],[],[],false) fun(y3:aK)=>dw p/\((bB p !=(0:Int))=true->(([],[],[],[],(0:Int),(0:Int),(0:Int),(0:Int),false),[])=(dP p).1/\bB p=(dP p).2/\True)/\((bB p !=(0:Int))=false->fa (cY p)/\((y1 !=(0:Int))=true->(([],[],[],[],(0:Int),(0:Int),(0:Int),(0:Int),false),[])=(dP p).1/\y1=(dP p).2/\True)/\((y1 !=(0:Int))=false->(∃(tW:Nat),tW<=(jg p).1.length/\(tW:Int)=(0:Int)/\cY p=cY p/\(y2.length:Int)=(y2.length:Int)/\iE p tW=y2/\(0:Int)=(0:Int)/\(0:Int)=(0:Int)/\(0:Int)=(0:Int)/\(0:Int)=(0:Int)/\false=false/\True)/\∀(s4:Nat),U (decide ((s4:Int)<(y2.length:Int))) fun(y5:Bool)=>U ((iE p s4).getD (s4:Int).toNat y3) fun(y6:aK)=>s4<=(jg p).1.length->(y5=true->bF (s4:Int) (iE p s4).length/\(fa (cY p)/\uK (aQ (cY p)).1 y6)/\bF (s4:Int) (iE p s4).length/\bJ IntKind.i64 ((s4:Int)+(1:Int))/\∃(lX:Nat),lX<=(jg p).1.length/\(jg p).1.length-lX<(jg p).1.length-s4/\(lX:Int)=(s4:Int)+(1:Int)/\cY p=cY p/\(y2.length:Int)=(y2.length:Int)/\iE p lX=(iE p s4).set (s4:Int).toNat (qA (aQ (cY p)).1 y6)/\(0:Int)=(0:Int)/\(0:Int)=(0:Int)/\(0:Int)=(0:Int)/\(0:Int)=(0:Int)/\false=false/\True)/\(y5=false->(jK (cY p)/\sR (aQ (cY p)).1)/\((aQ (cY p)).1,iE p s4)=(dP p).1/\(0:Int)=(dP p).2/\True)))):=by kernel_rfl
theorem b42(p:ab)(hp:dw p):aj (aq aP [(34,uy),(86,Lj),(87,T4),(88,T3)]) Tryz.f42 NL (a42 (p,())) (p,()):=by
 have hB:dP p=bif bB p==0 then(bif(jg p).2==0 then((p,(jg p).1.map (qA p)),0)else(zC,(jg p).2))else(zC,bB p):=by grind[dP]
 have CG:=JP p;rw[v42];refine U.mk fun y1 e1=>U.mk fun y2 e2=>U.mk fun y3 e3=>⟨hp,fun h=>?_,fun h=>?_⟩;rw[tR]at h;have h:(bB p==0)=false:=by grind
 rw[hB,h];exact⟨rfl,rfl,trivial⟩;rw[tR]at h;have h:(bB p==0)=true:=by grind
 have hc:bB p=0:=eq_of_beq h;have rL:fa (cY p):=⟨gz p,EN hc,AV hc⟩;have hof:(aQ (cY p)).1=p:=by rw[EN hc];exact mj p
 rw[hof]at e1 e2⊢;obtain⟨h3,h4⟩:=uw hc;obtain⟨_,h5,_,_⟩:=C7 h3;rw[h]at hB;refine⟨rL,fun h2=>?_,fun h2=>?_⟩;rw[tR,e1]at h2;have h2:((jg p).2==0)=false:=by grind
 rw[hB,h2,e1];exact⟨rfl,rfl,trivial⟩;rw[tR,e1]at h2;have h2:((jg p).2==0)=true:=by grind
 rw[h2]at hB;have q0:iE p 0=y2:=by grind[iE]
 refine⟨⟨0,by omega,rfl,?_⟩,fun k=>U.mk fun y5 e5=>U.mk fun y6 e6=>fun hk=>?_⟩;grind;have CD:(List.map (qA p) (List.take k (jg p).1)).length=k:=by grind
 have hfl:(iE p k).length=(jg p).1.length:=by grind[iE]
 refine⟨fun h=>?_,fun h=>?_⟩;have h:=cV e5 h;have ml:k<(jg p).1.length:=by grind
 have hd:(jg p).1.drop k=(jg p).1.getD k zR::(jg p).1.drop (k+1):=by simp_all
 have e6:y6=(jg p).1.getD k zR:=by rw[e6];unfold iE;simp_all
 have nB:=acm h4 y6 (by grind);have q1:iE p (k+1)=(iE p k).set (k:Int).toNat (qA p y6):=by unfold iE;rw[hd,aw,List.set_append_right _ _ (by omega),CD,Nat.sub_self,List.set_cons_zero,uJ _ zR ml,fi,e6];rfl
 refine⟨⟨by omega,by omega⟩,⟨rL,hc,⟨by have:=nB.2.1;omega,nB.1⟩,by have:=nB.2.2;omega⟩,⟨by omega,by omega⟩,bI (by omega) (by omega),k+1,by omega,by omega,by omega,?_⟩;grind;have hle:=ek e5 h;have hke:k=(jg p).1.length:=by grind
 have hsh:=Cu (AV hc);rw[mj]at hsh;refine⟨⟨⟨_,EN hc⟩,hsh⟩,?_⟩;rw[hB];unfold iE;grind
theorem acN:aL Tryz.prog 42 NL:=aL.cu (l:=[(34,uy),(86,Lj),(87,T4),(88,T3)]) (A:=a42) aM ⟨Ig,ad1,ad0,adZ,trivial⟩ Tryz.func42 (by rfl) (by rfl) fun x _ hp=>b42 x.1 hp
def Ug:ba where args:=[.list FG,.list FG];out:=.data [.bool];pre:=fun(x:List n9×List n9×Unit)=>True;fn:=fun(x:List n9×List n9×Unit)=>(x.1==x.2.1,())
def adz(x:List n9×List n9×Unit):gb:=bP [(4,fun _=>ft x.1.length (sw x.1 x.2.1) 13 [0,1,12] [])]
def Uf:ba where args:=[.list FF,.list FF];out:=.data [.bool];pre:=fun(x:List n8×List n8×Unit)=>True;fn:=fun(x:List n8×List n8×Unit)=>(x.1==x.2.1,())
def ady(x:List n8×List n8×Unit):gb:=bP [(4,fun _=>ft x.1.length (sw x.1 x.2.1) 13 [0,1,12] [])]
def Ue:ba where args:=[.list AI,.list AI];out:=.data [.bool];pre:=fun(x:List ja×List ja×Unit)=>True;fn:=fun(x:List ja×List ja×Unit)=>(x.1==x.2.1,())
def adx(x:List ja×List ja×Unit):gb:=bP [(4,fun _=>ft x.1.length (sw x.1 x.2.1) 13 [0,1,12] [])]
def Ln:ba where args:=[.list I,.list I];out:=.data [.bool];pre:=fun(x:List Int×List Int×Unit)=>True;fn:=fun(x:List Int×List Int×Unit)=>(x.1==x.2.1,())
def a194(x:List Int×List Int×Unit):gb:=bP [(4,fun _=>ft x.1.length (sw x.1 x.2.1) 13 [0,1,12] [])]
def Uc:ba where args:=[.list nF,.list nF];out:=.data [.bool];pre:=fun(x:List eA×List eA×Unit)=>True;fn:=fun(x:List eA×List eA×Unit)=>(x.1==x.2.1,())
def adw(x:List eA×List eA×Unit):gb:=bP [(4,fun _=>ft x.1.length (sw x.1 x.2.1) 13 [0,1,12] [])]
def Ub:ba where args:=[.list n6,.list n6];out:=.data [.bool];pre:=fun(x:List dA×List dA×Unit)=>True;fn:=fun(x:List dA×List dA×Unit)=>(x.1==x.2.1,())
def a196(x:List dA×List dA×Unit):gb:=bP [(4,fun _=>ft x.1.length (sw x.1 x.2.1) 13 [0,1,12] [])]
def Ud:ba where args:=[AJ,AJ];out:=.data [.bool];pre:=fun(x:mI×mI×Unit)=>True;fn:=fun(x:mI×mI×Unit)=>(x.1==x.2.1,())
abbrev acs:Ty:=.ln 193 .unit
abbrev acu:Ty:=.ln 160 .unit
def Ba:ba where args:=[.list AJ,.list AJ,acs];out:=.data [.bool];pre:=fun(x:List mI×List mI×Unit×Unit)=>True;fn:=fun(x:List mI×List mI×Unit×Unit)=>(x.1==x.2.1,())
def L2(x:List mI×List mI×Unit×Unit):gb:=bP [(4,fun _=>ft x.1.length (sw x.1 x.2.1) 17 [0,1,2,15,16] [])]
def Um:ba where args:=[PlanT,PlanT];out:=.data [.bool];pre:=fun(x:ab×ab×Unit)=>True;fn:=fun(x:ab×ab×Unit)=>(x.1==x.2.1,())
def Ul:ba where args:=[nG,nG];out:=.data [.bool];pre:=fun(x:aK×aK×Unit)=>True;fn:=fun(x:aK×aK×Unit)=>(x.1==x.2.1,())
def Bc:ba where args:=[.list nG,.list nG,acu];out:=.data [.bool];pre:=fun(x:List aK×List aK×Unit×Unit)=>True;fn:=fun(x:List aK×List aK×Unit×Unit)=>(x.1==x.2.1,())
def L3(x:List aK×List aK×Unit×Unit):gb:=bP [(4,fun _=>ft x.1.length (sw x.1 x.2.1) 17 [0,1,2,15,16] [])]
def ZT:ba where args:=[r8,r8];out:=.data [.bool];pre:=fun(x:du×du×Unit)=>True;fn:=fun(x:du×du×Unit)=>(x.1==x.2.1,())
abbrev adC:eX:=.cells true (.pair (.aY r8) (.pair (.row 319 ahb) (.pair aaH (.pair Uy (.row 3 I)))))
abbrev Ce:=du×List mY×ga×yJ×List Int
def agB(p:ab):ga:=(max 0 (min (p.1.length:Int) 40),[],[],[],[])
def Uw(c:du):Ce:=(c,List.replicate c.2.length tz,agB c.1,(some (gz c.1),[]),List.replicate c.1.2.2.1.length 0)
@[irreducible]def sJ(c:du):Int:=bif !((dP c.1).2==0)then(dP c.1).2 else bif c==(dP c.1).1 then 0 else 1
def Ef:iz where args:=[.aY r8];outs:=[adC,.aY I];pre:=fun(x:du×Unit)=>dw x.1.1/\sJ x.1=0;fn:=fun(x:du×Unit)=>(Uw x.1,0,())
abbrev BodyT:Ty:=.pair I (.pair (.list bj) (.pair I (.pair I I)))
abbrev av:=Int×List ai×Int×Int×Int
abbrev StockT:Ty:=.pair .str (.pair I (.pair I (.pair I I)))
abbrev aS:=oB×Int×Int×Int×Int
abbrev TrainT:Ty:=.pair .str (.pair I (.pair bj I))
abbrev bC:=oB×Int×ai×Int
abbrev NoteT:Ty:=.pair (.list I) (.pair (.list I) (.list BodyT))
abbrev cG:=List Int×List Int×List av
def m9:aS:=([],0,0,0,0)
def nJ:bC:=([],0,(0,0),0)
def ju:av:=(0,[],0,0,0)
@[irreducible]def cr(s:aS):Bool:=jd s.1&&(lx 1 4000 s.2.1&&(lx 1 60 s.2.2.1&&(lx 1 10 s.2.2.2.1&&lx 1 10 s.2.2.2.2)))
@[irreducible]def fe(l:List aS):Int:=bif decide (l.length>4)then 3 else bif l.all cr then(bif fO (l.map fun s=>s.1)then 4 else 0)else 1
def oC(p:ab)(s:aS):Bool:=decide (s.2.2.1>p.2.2.2.2.1)||decide (s.2.2.2.2<p.2.2.2.2.2.1)
@[irreducible]def kK(p:ab)(l:List aS):Int:=bif fe l==0 then(bif l.any (oC p)then 9 else 0)else fe l
def cc(n lo hi:Int):Int:=max lo (min n hi)
@[irreducible]def m8(s:aS):Bool:=(s.2.2.1==cc s.2.2.1 1 60)&&((s.2.2.2.1==cc s.2.2.2.1 1 10)&&s.2.2.2.2==cc s.2.2.2.2 1 10)
@[irreducible]def oR(s:aS)(v want:Int)(forced:Bool):Int:=bif m8 s then cc (cc v 0 s.2.2.1+(bif forced then-s.2.2.2.2 else cc want (-s.2.2.2.2) s.2.2.2.1)) 0 s.2.2.1 else 0
def a6(l:List ai):ai:=l.getD (l.length-1) zP
@[irreducible]def iQ(b:av):Bool:=b.2.2.1==0&&(b.2.2.2.1==0&&b.2.2.2.2==0)
@[irreducible]def sZ(p:ab)(h:ai):Bool:=(aD p h).2&&ay p (aD p h).1.1==4
@[irreducible]def lk(p:ab)(b:av):Bool:=decide (b.2.1.length=1)&&(ay p (b.2.1.getD 0 zP).1==4&&((b.2.1.getD 0 zP).2==0&&iQ b))
@[irreducible]def mq(p:ab)(h next:ai):Bool:=(aD p h).2&&((aD p h).1.1==next.1&&(ck p (aD p h).1.1 (aD p h).1.2).any fun w=>w.1==next.2)
def iL(p:ab)(l:List ai)(i:Nat):Bool:=!ew p (l.getD i zP)||((ay p (l.getD i zP).1==4&&(decide (0<i)||decide (i+1=l.length)))||(decide (0<i)&&!mq p (l.getD (i-1) zP) (l.getD i zP)))
@[irreducible]def dp(p:ab)(l:List ai):Bool:=!bT (iL p l) l.length&&decide (0<l.length)
@[irreducible]def qe(p:ab)(n:Int)(b:av):Bool:=!(decide (b.2.2.1<0)||(decide (aR p (a6 b.2.1).1<=b.2.2.1)||(decide (b.2.2.2.2<0)||(decide (60<b.2.2.2.2)||(decide (b.2.2.2.1<0)||decide (n<=b.2.2.2.1))))))&&(b.2.2.2.1==0||(b.2.2.1==0&&sZ p (a6 b.2.1)))
def gG(p:ab)(l:List ai)(k:Nat):Int:=((l.drop k).map fun h=>aR p h.1).sum
def tT(p:ab)(n:Int)(b:av):Int:=n-b.2.2.2.1-gG p b.2.1 1+(bif decide (b.2.1.length=1)then 0 else b.2.2.1)
def tailOff(b:av):Int:=bif decide (b.2.1.length=1)then b.2.2.1 else 0
@[irreducible]def lD(p:ab)(n:Int)(b:av):Bool:=decide (1<=tT p n b)&&(ay p (b.2.1.getD 0 zP).1==4||decide (tT p n b<=aR p (b.2.1.getD 0 zP).1-tailOff b))
@[irreducible]def cn(p:ab)(n:Int)(b:av):Bool:=bif decide (n<1)||decide (4000<n)then false else bif b.1==1 then lk p b else bif b.1==3 then(decide (b.2.1.length=0)&&iQ b)else bif b.1==2 then(dp p b.2.1&&(qe p n b&&lD p n b))else bif b.1==4 then(dp p b.2.1&&(iQ b&&lD p n b))else false
@[irreducible]def jS(p:ab)(n:Int)(t:bC):av×Int:=bif(decide (n<1)||decide (4000<n))||((!(ay p t.2.2.1.1==4)&&!(ay p t.2.2.1.1==1))||!ew p t.2.2.1)then(ju,1)else bif decide (cg p t.2.2.1<0)then(ju,7)else bif(ay p t.2.2.1.1==4&&!(t.2.2.2==0))||(ay p t.2.2.1.1==1&&(decide (t.2.2.2<0)||decide (aR p t.2.2.1.1<t.2.2.2)))then(ju,1)else bif ay p t.2.2.1.1==1&&decide (aR p t.2.2.1.1<t.2.2.2+n)then(ju,9)else((bif ay p t.2.2.1.1==4 then 1 else 2,[t.2.2.1],t.2.2.2,0,0),0)
def we(p:ab)(l:List ai):List Int:=(l.filter fun h=>!(ay p h.1==4)).map fun h=>h.1
def mC:List Int->List Int|[]=>[]|x::l=>bif(mC l).head?==some x then mC l else x::mC l
@[irreducible]def eu(p:ab)(b:av):List Int:=mC (sn (we p b.2.1) (we p b.2.1).length)
def ff(b:av):ai×Bool:=bif decide (b.2.1.length=0)then((0,0),false)else(a6 b.2.1,true)
def jz(pos:List Int)(e:Int):Int:=bif decide (e<(pos.length:Int))then pos.getD e.toNat 0 else 0
def gd(p:ab)(pos:List Int)(b:av)(m:Int):(av×Int)×Bool:=bif decide (m<=b.2.2.1)then(((b.1,b.2.1,b.2.2.1-m,b.2.2.2),0),false)else bif !(aD p (a6 b.2.1)).2 then(((b.1,b.2.1,0,b.2.2.2.1,0),m-b.2.2.1),false)else bif ay p (aD p (a6 b.2.1)).1.1==4 then(((b.1,b.2.1,0,b.2.2.2.1+(m-b.2.2.1),b.2.2.2.2),m-b.2.2.1),false)else bif !(bK p (aD p (a6 b.2.1)).1.1 (aD p (a6 b.2.1)).1.2 (jz pos (aD p (a6 b.2.1)).1.1)).2 then(((bif b.1==2 then 4 else b.1,b.2.1,0,b.2.2.2.1,0),m-b.2.2.1),false)else(((2,b.2.1++[((aD p (a6 b.2.1)).1.1,(bK p (aD p (a6 b.2.1)).1.1 (aD p (a6 b.2.1)).1.2 (jz pos (aD p (a6 b.2.1)).1.1)).1)],aR p (aD p (a6 b.2.1)).1.1,b.2.2.2.1,b.2.2.2.2),m-b.2.2.1),true)
def goUp(p:ab)(pos:List Int):Nat->av->Int->av|0,b,_=>b|k+1,b,m=>bif decide (m<=0)then b else bif(gd p pos b m).2 then goUp p pos k (gd p pos b m).1.1 (gd p pos b m).1.2 else(gd p pos b m).1.1
def dZ(b:av)(m:Int):Nat:=2*m.toNat+(bif decide (b.2.2.1<=0)then 1 else 0)
@[irreducible]def gn(p:ab)(pos:List Int)(b:av)(m:Int):av:=goUp p pos (dZ b m) b m
@[irreducible]def gU(p:ab)(b:av):Int:=b.2.2.2.1-b.2.2.1+gG p b.2.1 1
def iT(p:ab)(n:Int):Nat->av->av|0,b=>b|k+1,b=>bif decide (1<b.2.1.length)&&decide (n<=gU p b)then iT p n k (b.1,b.2.1.tail,b.2.2)else b
@[irreducible]def j8(p:ab)(n:Int)(b:av):av:=iT p n b.2.1.length b
def wW(b:av)(v:Int):Bool:=(!(b.1==1)&&!(b.1==2))||decide (b.2.1.length=0)
@[irreducible]def nW(p:ab)(pos:List Int)(n:Int)(b:av)(v:Int):av:=bif wW b v then b else bif b.1==1&&cc v 0 60==0 then(b.1,b.2.1,b.2.2.1,b.2.2.2.1,0)else bif decide (n<=(gn p pos (b.1,b.2.1,b.2.2.1,b.2.2.2.1,cc v 0 60) (cc v 0 60)).2.2.2.1)then(3,[],0,0,0)else j8 p n (gn p pos (b.1,b.2.1,b.2.2.1,b.2.2.2.1,cc v 0 60) (cc v 0 60))
@[irreducible]def ed(p:ab)(b:av):Int×Bool:=bif !(b.1==2)||(!decide (b.2.1.length=1)||(!(b.2.2.2.1==0)||!(ay p (b.2.1.getD 0 zP).1==1)))then(0,false)else((b.2.1.getD 0 zP).1,true)
@[irreducible]def eR(p:ab)(n:Int)(b:av):av×Bool:=bif !(ed p b).2||!(b.2.2.2.2==0)then(ju,false)else bif decide (cg p ((ed p b).1,1-(b.2.1.getD 0 zP).2)<0)then(ju,false)else((2,[((ed p b).1,1-(b.2.1.getD 0 zP).2)],aR p (ed p b).1-b.2.2.1-n,0,0),true)
@[irreducible]def xx(a:Int):Bool:=a==1||a==2
@[irreducible]def qQ(iP:List Int)(s:Int):Bool:=decide (s<0)||(decide ((iP.length:Int)<=s)||!xx (iP.getD s.toNat 0))
@[irreducible]def mF(p:ab)(h:ai)(left:Int):Bool:=decide (0<=cg p h)&&(decide (0<=left)&&decide (left<=p.2.2.2.2.2.2.1))
@[irreducible]def mE(p:ab)(b:av):Int:=bif !(ff b).2||(!(b.1==2)||(!(b.2.2.2.1==0)||!mF p (ff b).1 b.2.2.1))then-1 else cg p (ff b).1
@[irreducible]def kM(p:ab)(iP:List Int)(b:av)(first:Bool):Bool:=bif b.1==1 then(!first||qQ iP (cg p (ff b).1))else(decide (0<=mE p b)&&qQ iP (mE p b))
@[irreducible]def ow(p:ab)(pos iP:List Int)(s:aS)(b:av)(want:Int)(first:Bool):av:=nW p pos s.2.1 b (oR s b.2.2.2.2 want (kM p iP b first))
def um(b:av):Int×Bool:=((ff b).1.1,(ff b).2&&b.1==1)
def AE(l:List av)(i:Nat):Bool:=!(um (l.getD i ju)).2||!((l.take i).any fun x=>(um x).2&&(um x).1==(um (l.getD i ju)).1)
@[irreducible]def kN(l:List av):List Bool:=(List.range l.length).map (AE l)
def js(a b:av):Bool:=a==b
theorem K6{p:ab}{x:ai}(h:ew p x=true):0<=x.1/\x.1<(p.1.length:Int):=by unfold ew at h;simp only[ae,az]at h;exact⟨h.1,h.2.1⟩
theorem EZ{p:ab}{e:Int}(h0:0<=e)(h1:e<(p.1.length:Int)):ay p e=(p.1.getD e.toNat zE).2.1/\aR p e=(p.1.getD e.toNat zE).2.2:=by unfold ay aR;rw[aE (by omega:¬e<0),aE (by omega:¬(p.1.length:Int)<=e)];exact⟨rfl,rfl⟩
theorem DC{p:ab}(hp:bB p=0){e:Int}(h0:0<=e)(h1:e<(p.1.length:Int)):(ay p e=4->aR p e=0)/\(ay p e≠4->1<=aR p e/\aR p e<=4000):=by have hA:=(jh hp).2.1;unfold fArgs at hA;simp only[ae]at hA;(have hm:p.1.getD e.toNat zE∈p.1:=by rw[ao,ah (by omega)];exact cR _);have hE:=List.all_eq_true.1 hA.2.1 _ hm;unfold iG at hE;simp only[ae]at hE;obtain⟨k1,k2⟩:=EZ h0 h1;rw[k1,k2];have hE:=hE.2.2;refine⟨fun h=>?_,fun h=>?_⟩;rw[h]at hE;exact eq_of_beq hE;rw[beq_false_of_ne h]at hE;unfold lx at hE;simp only[cond_false,ae,az]at hE;exact hE
theorem pQ(p:ab)(hp:bB p=0)(e:Int):0<=aR p e/\aR p e<=4000:=by by_cases h:0<=e/\e<(p.1.length:Int);have:=DC hp h.1 h.2;by_cases hk:ay p e=4;have:=this.1 hk;omega;have:=this.2 hk;omega;unfold aR;(have:(decide (e<0)||decide ((p.1.length:Int)<=e))=true:=by simp only[fb,az];omega);rw[this];show(0:Int)<=0/\(0:Int)<=4000;decide
theorem vy{p:ab}(hp:bB p=0)(pos:List Int){b:av}{m:Int}(hl:0<=b.2.2.1)(hm:0<m)(h:(gd p pos b m).2=true):dZ (gd p pos b m).1.1 (gd p pos b m).1.2<dZ b m/\1<=(gd p pos b m).1.1.2.2.1/\(gd p pos b m).1.1.2.2.1<=4000/\0<(gd p pos b m).1.2/\(gd p pos b m).1.2<=m:=by unfold gd at h⊢;by_cases h1:m<=b.2.2.1;rw[aI h1]at h;cases h;rw[aE h1]at h⊢;cases h2:(aD p (a6 b.2.1)).2 with|false=>rw[h2]at h;cases h|true=>rw[h2]at h;have hh:=uG (jh hp).2.2.1 h2;obtain⟨q1,q2⟩:=K6 hh;cases h3:ay p (aD p (a6 b.2.1)).1.1==4 with|true=>rw[h3]at h;cases h|false=>rw[h3]at h;(have hk:ay p (aD p (a6 b.2.1)).1.1≠4:=fun e=>by rw[e]at h3;cases h3);have hlen:=(DC hp q1 q2).2 hk;cases h4:(bK p (aD p (a6 b.2.1)).1.1 (aD p (a6 b.2.1)).1.2 (jz pos (aD p (a6 b.2.1)).1.1)).2 with|false=>rw[h4]at h;cases h|true=>show dZ (_,_,aR p (aD p (a6 b.2.1)).1.1,_,_) (m-b.2.2.1)<dZ b m/\1<=aR p (aD p (a6 b.2.1)).1.1/\aR p (aD p (a6 b.2.1)).1.1<=4000/\0<m-b.2.2.1/\m-b.2.2.1<=m;refine⟨?_,hlen.1,hlen.2,by omega,by omega⟩;unfold dZ;show 2*(m-b.2.2.1).toNat+(bif decide (aR p (aD p (a6 b.2.1)).1.1<=0)then 1 else 0)<2*m.toNat+(bif decide (b.2.2.1<=0)then 1 else 0);rw[aE (by omega:¬aR p (aD p (a6 b.2.1)).1.1<=0)];by_cases hz:b.2.2.1<=0;rw[aI hz];show 2*(m-b.2.2.1).toNat+0<2*m.toNat+1;omega;rw[aE hz];show 2*(m-b.2.2.1).toNat+0<2*m.toNat+0;omega
theorem DW {p:ab} (hp:bB p=0) (pos:List Int):∀(k j:Nat) (b:av) (m:Int),0<=b.2.2.1->dZ b m<=k->dZ b m<=j->goUp p pos k b m=goUp p pos j b m
 |0,0,_,_,_,_,_=>rfl
 |0,j+1,b,m,hl,hk,_=>by
  have:m<=0:=by unfold dZ at hk;omega
  unfold goUp
  rw[aI this]
  rfl
 |k+1,0,b,m,hl,_,hj=>by
  have:m<=0:=by unfold dZ at hj;omega
  conv=>lhs;unfold goUp
  rw[aI this]
  rfl
 |k+1,j+1,b,m,hl,hk,hj=>by
  unfold goUp
  by_cases hm:m<=0
  ·rw[aI hm]
   rfl
  ·rw[aE hm]
   cases hg:(gd p pos b m).2 with
   |false=>rfl
   |true=>
    obtain⟨g1,g2,_⟩:=vy hp pos hl (by omega) hg
    exact DW hp pos k j _ _ (by omega) (by omega) (by omega)
theorem Oi{p:ab}(hp:bB p=0)(pos:List Int){b:av}{m:Int}(hl:0<=b.2.2.1)(hm:0<m)(h:(gd p pos b m).2=true):gn p pos b m=gn p pos (gd p pos b m).1.1 (gd p pos b m).1.2:=by obtain⟨g1,g2,_⟩:=vy hp pos hl hm h;unfold gn;obtain⟨k,hk⟩:∃k,dZ b m=k+1:=⟨dZ b m-1,by omega⟩;rw[hk];show(bif decide (m<=0)then b else bif(gd p pos b m).2 then goUp p pos k (gd p pos b m).1.1 (gd p pos b m).1.2 else(gd p pos b m).1.1)=_;rw[aE (by omega:¬m<=0),h];exact DW hp pos _ _ _ _ (by omega) (by omega) (aZ _)
theorem qZ{p:ab}(pos:List Int){b:av}{m:Int}(hm:0<m)(h:(gd p pos b m).2=false):gn p pos b m=(gd p pos b m).1.1:=by unfold gn;obtain⟨k,hk⟩:∃k,dZ b m=k+1:=⟨dZ b m-1,by unfold dZ;omega⟩;rw[hk];show(bif decide (m<=0)then b else bif(gd p pos b m).2 then goUp p pos k (gd p pos b m).1.1 (gd p pos b m).1.2 else(gd p pos b m).1.1)=_;rw[aE (by omega:¬m<=0),h];rfl
theorem Cn(p:ab)(pos:List Int){b:av}{m:Int}(hm:m<=0):gn p pos b m=b:=by unfold gn;cases dZ b m with|zero=>rfl|succ k=>show(bif decide (m<=0)then b else _)=b;rw[aI hm];rfl
theorem B8 (p:ab) (n:Int):∀(k j:Nat) (b:av),b.2.1.length<=k+1->b.2.1.length<=j+1->iT p n k b=iT p n j b
 |0,0,_,_,_=>rfl
 |0,j+1,b,hk,_=>by
  unfold iT
  rw[aE (by omega:¬1<b.2.1.length)]
  rfl
 |k+1,0,b,_,hj=>by
  conv=>lhs;unfold iT
  rw[aE (by omega:¬1<b.2.1.length)]
  rfl
 |k+1,j+1,b,hk,hj=>by
  unfold iT
  cases decide (1<b.2.1.length)&&decide (n<=gU p b) with
  |false=>rfl
  |true=>exact B8 p n k j _ (by show b.2.1.tail.length<=_;rw[eK];omega) (by show b.2.1.tail.length<=_;rw[eK];omega)
theorem ab4{p:ab}{n:Int}{b:av}(h1:1<b.2.1.length)(h2:n<=gU p b):j8 p n b=j8 p n (b.1,b.2.1.tail,b.2.2):=by unfold j8;obtain⟨k,hk⟩:∃k,b.2.1.length=k+1:=⟨b.2.1.length-1,by omega⟩;rw[hk];show(bif decide (1<b.2.1.length)&&decide (n<=gU p b)then iT p n k (b.1,b.2.1.tail,b.2.2)else b)=_;rw[aI h1,aI h2];exact B8 p n _ _ _ (by show b.2.1.tail.length<=_;rw[eK];omega) (by show b.2.1.tail.length<=b.2.1.tail.length+1;omega)
theorem ZN{p:ab}{n:Int}{b:av}(h:¬(1<b.2.1.length/\n<=gU p b)):j8 p n b=b:=by unfold j8;cases hk:b.2.1.length with|zero=>rfl|succ k=>show(bif decide (1<b.2.1.length)&&decide (n<=gU p b)then iT p n k (b.1,b.2.1.tail,b.2.2)else b)=b;(have:(decide (1<b.2.1.length)&&decide (n<=gU p b))=false:=by rw[Bool.and_eq_false_iff,bL,bL];omega);rw[this];rfl
def qj(p:ab)(l:List ai):Prop:=∀h∈l.tail,1<=aR p h.1
structure gk (p:ab) (n:Int) (b:av):Prop where
 mode:1<=b.1/\b.1<=4
 left:0<=b.2.2.1/\b.2.2.1<=4000
 sf:0<=b.2.2.2.1/\b.2.2.2.1<=4000
 v:0<=b.2.2.2.2/\b.2.2.2.2<=60
 there:b.1=1\/b.1=2->b.2.1≠[]
 inner:qj p b.2.1
 Nx:b.2.1.length<=1\/gU p b<n
 fits:b.2.1≠[]->ay p (b.2.1.getD 0 zP).1=4\/n - gU p b<=aR p (b.2.1.getD 0 zP).1
theorem xW{p:ab}(hp:bB p=0):∀(l:List ai),0<=(l.map fun h=>aR p h.1).sum/\(l.map fun h=>aR p h.1).sum<=4000*(l.length:Int)|[]=>by show(0:Int)<=0/\(0:Int)<=0;decide|h::l=>by have ih:=xW hp l;have:=pQ p hp h.1;simp only[List.map_cons,List.sum_cons,List.length_cons];omega
theorem HH{p:ab}:∀{l:List ai},(∀h∈l,1<=aR p h.1)->(l.length:Int)<=(l.map fun h=>aR p h.1).sum|[],_=>fg 0|h::l,hl=>by have ih:=HH (l:=l) fun x hx=>hl x (bk _ hx);have:=hl h bH;simp only[List.map_cons,List.sum_cons,List.length_cons];omega
theorem drop_one(l:List ai):l.drop 1=l.tail:=by cases l<;>rfl
theorem pn(p:ab)(b:av):gU p b=b.2.2.2.1-b.2.2.1+(b.2.1.tail.map fun h=>aR p h.1).sum:=by unfold gU gG;rw[drop_one]
theorem gk.QS{p:ab}{n:Int}{b:av}(h:gk p n b)(hn:n<=4000):b.2.1.length<=8001:=by have h1:=h.Nx;have h2:=HH h.inner;rw[pn,eK]at*;have:=h.left;have:=h.sf;omega
structure AG (p:ab) (m0:Int) (x0:ai) (fo:Int) (b:av) (m:Int):Prop where
 mode:b.1=1\/b.1=2\/b.1=4
 left:0<=b.2.2.1/\b.2.2.1<=4000
 sf:0<=b.2.2.2.1/\b.2.2.2.1<=4000+(m0 - m)
 v:0<=b.2.2.2.2/\b.2.2.2.2<=60
 there:b.2.1≠[]
 inner:qj p b.2.1
 head:b.2.1.getD 0 zP=x0
 Zx:fo<=gU p b
theorem R5{p:ab}{l:List ai}(h:qj p l){x:ai}(hx:1<=aR p x.1):qj p (l++[x]):=by intro y hy;cases l with|nil=>cases hy|cons z l=>rcases cD.1 hy with hy|hy;exact h y hy;rw[aN.1 hy];exact hx
theorem We{l:List ai}(h:l≠[])(x:ai):(l++[x]).getD 0 zP=l.getD 0 zP:=by cases l with|nil=>exact absurd rfl h|cons y l=>rfl
theorem Wj{p:ab}{l:List ai}(h:l≠[]){m o v e i:Int}:gU p (m,l++[(e,i)],aR p e,o,v)=o+(l.tail.map fun h=>aR p h.1).sum:=by rw[pn];cases l with|nil=>exact absurd rfl h|cons y l=>show o-aR p e+((l++[(e,i)]).map fun h=>aR p h.1).sum=o+(l.map fun h=>aR p h.1).sum;rw[List.map_append,List.sum_append];simp;omega
theorem Pt{p:ab}(hp:bB p=0)(pos:List Int){b:av}{m0:Int}{x0:ai}{fo m:Int}(h:AG p m0 x0 fo b m)(hm:0<m):((gd p pos b m).2=true->AG p m0 x0 fo (gd p pos b m).1.1 (gd p pos b m).1.2)/\((gd p pos b m).2=false->AG p m0 x0 fo (gd p pos b m).1.1 0/\0<=(gd p pos b m).1.2):=by have g:=vy hp pos (b:=b) (m:=m) h.left.1 hm;obtain⟨h1,h2,h3,h4,h5,h6,h7,h8⟩:=h;rw[pn]at h8;unfold gd at g⊢;by_cases c1:m<=b.2.2.1;rw[aI c1]at g⊢;exact⟨fun h=>(by cases h),fun _=>⟨⟨h1,⟨by show 0<=b.2.2.1-m;omega,by show b.2.2.1-m<=4000;omega⟩,⟨h3.1,by show b.2.2.2.1<=_;omega⟩,h4,h5,h6,h7,by rw[pn];show fo<=b.2.2.2.1-(b.2.2.1-m)+(b.2.1.tail.map fun h=>aR p h.1).sum;omega⟩,fg _⟩⟩;rw[aE c1]at g⊢;cases c2:(aD p (a6 b.2.1)).2 with|false=>rw[c2]at g;exact⟨fun h=>(by cases h),fun _=>⟨⟨h1,⟨fg _,by show(0:Int)<=4000;decide⟩,⟨h3.1,by show b.2.2.2.1<=_;omega⟩,⟨fg _,by show(0:Int)<=60;decide⟩,h5,h6,h7,by rw[pn];show fo<=b.2.2.2.1-0+(b.2.1.tail.map fun h=>aR p h.1).sum;omega⟩,by show 0<=m-b.2.2.1;omega⟩⟩|true=>rw[c2]at g;cases c3:ay p (aD p (a6 b.2.1)).1.1==4 with|true=>rw[c3]at g;exact⟨fun h=>(by cases h),fun _=>⟨⟨h1,⟨fg _,by show(0:Int)<=4000;decide⟩,⟨by show 0<=b.2.2.2.1+(m-b.2.2.1);omega,by show b.2.2.2.1+(m-b.2.2.1)<=_;omega⟩,h4,h5,h6,h7,by rw[pn];show fo<=b.2.2.2.1+(m-b.2.2.1)-0+(b.2.1.tail.map fun h=>aR p h.1).sum;omega⟩,by show 0<=m-b.2.2.1;omega⟩⟩|false=>rw[c3]at g;cases c4:(bK p (aD p (a6 b.2.1)).1.1 (aD p (a6 b.2.1)).1.2 (jz pos (aD p (a6 b.2.1)).1.1)).2 with|false=>(refine⟨fun h=>(by cases h),fun _=>⟨⟨?_,⟨fg _,by show(0:Int)<=4000;decide⟩,⟨h3.1,by show b.2.2.2.1<=_;omega⟩,⟨fg _,by show(0:Int)<=60;decide⟩,h5,h6,h7,by rw[pn];show fo<=b.2.2.2.1-0+(b.2.1.tail.map fun h=>aR p h.1).sum;omega⟩,by show 0<=m-b.2.2.1;omega⟩⟩;show(bif b.1==2 then 4 else b.1)=1\/(bif b.1==2 then 4 else b.1)=2\/(bif b.1==2 then 4 else b.1)=4;cases hb:b.1==2 with|true=>exact .inr (.inr rfl)|false=>exact h1)|true=>rw[c4]at g;obtain⟨g1,g2,g3,g4,g5⟩:=g rfl;have g2:1<=aR p (aD p (a6 b.2.1)).1.1:=g2;have g3:aR p (aD p (a6 b.2.1)).1.1<=4000:=g3;refine⟨fun _=>⟨.inr (.inl rfl),⟨by show 0<=aR p (aD p (a6 b.2.1)).1.1;omega,g3⟩,⟨h3.1,by show b.2.2.2.1<=4000+(m0-(m-b.2.2.1));omega⟩,h4,by simp,R5 h6 g2,(We h5 _).trans h7,Int.le_trans (b:=b.2.2.2.1+(b.2.1.tail.map fun h=>aR p h.1).sum) (by omega) (Int.le_of_eq (Wj h5).symm)⟩,fun h=>(by cases h)⟩
theorem Ab{p:ab}(hp:bB p=0)(pos:List Int){m0:Int}{x0:ai}{fo:Int}:∀(k:Nat){b:av}{m:Int},AG p m0 x0 fo b m->0<=m->AG p m0 x0 fo (goUp p pos k b m) 0|0,b,m,h,hm=>⟨h.mode,h.left,⟨h.sf.1,by have:=h.sf.2;show b.2.2.2.1<=_;omega⟩,h.v,h.there,h.inner,h.head,h.Zx⟩|k+1,b,m,h,hm=>by unfold goUp;by_cases c:m<=0;rw[aI c];exact⟨h.mode,h.left,⟨h.sf.1,by have:=h.sf.2;show b.2.2.2.1<=_;omega⟩,h.v,h.there,h.inner,h.head,h.Zx⟩;rw[aE c];obtain⟨q1,q2⟩:=Pt hp pos h (by omega);cases hg:(gd p pos b m).2 with|true=>exact Ab hp pos k (q1 hg) (Int.le_of_lt (vy hp pos h.left.1 (by omega) hg).2.2.2.1)|false=>exact(q2 hg).1
theorem OY{p:ab}{l:List ai}(h:qj p l):qj p l.tail:=fun x hx=>h x (List.mem_of_mem_tail hx)
def Fk(p:ab)(n:Int)(b:av):Prop:=ay p (b.2.1.getD 0 zP).1=4\/n-gU p b<=aR p (b.2.1.getD 0 zP).1
theorem Jt(p:ab)(n:Int):∀(k:Nat)(b:av),b.2.1≠[]->qj p b.2.1->Fk p n b->b.2.1.length<=k+1->Fk p n (iT p n k b)/\(iT p n k b).1=b.1/\(iT p n k b).2.2=b.2.2/\(iT p n k b).2.1≠[]/\qj p (iT p n k b).2.1/\((iT p n k b).2.1.length<=1\/gU p (iT p n k b)<n)|0,b,h1,h2,hf,h3=>⟨hf,rfl,rfl,h1,h2,.inl h3⟩|k+1,b,h1,h2,hf,h3=>by unfold iT;by_cases c1:1<b.2.1.length;rw[aI c1];by_cases c2:n<=gU p b;rw[aI c2];(have Bs:Fk p n (b.1,b.2.1.tail,b.2.2):=by right;rw[pn]at c2⊢;cases hl:b.2.1 with|nil=>exact absurd hl h1|cons x l=>cases l with|nil=>rw[hl]at c1;exact absurd c1 (Nat.lt_irrefl 1)|cons y l=>rw[hl]at c2;simp only[List.tail_cons,List.map_cons,List.sum_cons]at c2;show n-(b.2.2.2.1-b.2.2.1+(l.map fun h=>aR p h.1).sum)<=aR p y.1;omega);obtain⟨q0,q1,q2,q3⟩:=Jt p n k (b.1,b.2.1.tail,b.2.2) (fun h=>by have:=br List.length h;simp at this;omega) (OY h2) Bs (by show b.2.1.tail.length<=_;rw[eK];omega);exact⟨q0,q1,q2,q3⟩;rw[aE c2];exact⟨hf,rfl,rfl,h1,h2,.inr (by show gU p b<n;omega)⟩;rw[aE c1];exact⟨hf,rfl,rfl,h1,h2,.inl (by show b.2.1.length<=1;omega)⟩
theorem O5(v:Int):0<=cc v 0 60/\cc v 0 60<=60:=by unfold cc;omega
theorem Iq{p:ab}(hp:bB p=0)(pos:List Int){n:Int}(hn:1<=n/\n<=4000){b:av}(h:gk p n b)(v:Int):gk p n (nW p pos n b v):=by unfold nW;cases c0:wW b v with|true=>exact h|false=>cases c1:b.1==1&&cc v 0 60==0 with|true=>show gk p n (b.1,b.2.1,b.2.2.1,b.2.2.2.1,0);exact⟨h.mode,h.left,h.sf,⟨fg _,by show(0:Int)<=60;decide⟩,h.there,h.inner,h.Nx.imp_right fun hf=>by unfold gU at hf⊢;exact hf,fun mW=>(h.fits mW).imp_right fun hf=>by unfold gU at hf⊢;exact hf⟩|false=>have hv:=O5 v;(have hm:b.1=1\/b.1=2:=by unfold wW at c0;simp only[aG,Bool.and_eq_false_iff,bG,bf]at c0;exact c0.1);have hw:AG p (cc v 0 60) (b.2.1.getD 0 zP) (gU p b) (b.1,b.2.1,b.2.2.1,b.2.2.2.1,cc v 0 60) (cc v 0 60):=⟨by show b.1=1\/b.1=2\/b.1=4;omega,h.left,⟨h.sf.1,by show b.2.2.2.1<=_;have:=h.sf.2;omega⟩,hv,h.there hm,h.inner,rfl,by unfold gU;exact fg _⟩;have hr:=Ab hp pos (dZ (b.1,b.2.1,b.2.2.1,b.2.2.2.1,cc v 0 60) (cc v 0 60)) hw hv.1;(have hr:AG p (cc v 0 60) (b.2.1.getD 0 zP) (gU p b) (gn p pos (b.1,b.2.1,b.2.2.1,b.2.2.2.1,cc v 0 60) (cc v 0 60)) 0:=by unfold gn;exact hr);show gk p n (bif decide (n<=(gn p pos (b.1,b.2.1,b.2.2.1,b.2.2.2.1,cc v 0 60) (cc v 0 60)).2.2.2.1)then(3,[],0,0,0)else j8 p n (gn p pos (b.1,b.2.1,b.2.2.1,b.2.2.2.1,cc v 0 60) (cc v 0 60)));generalize gn p pos (b.1,b.2.1,b.2.2.1,b.2.2.2.1,cc v 0 60) (cc v 0 60)=r at hr;by_cases c2:n<=r.2.2.2.1;rw[aI c2];show gk p n (3,[],0,0,0);refine⟨by decide,by decide,by decide,by decide,fun h=>?_,fun x hx=>(by cases hx),.inl (by decide),fun h=>absurd rfl h⟩;rcases h with h|h;cases h;cases h;rw[aE c2];(have wj:Fk p n r:=by unfold Fk;rw[hr.head];exact(h.fits (h.there hm)).imp_right fun hf=>by have:=hr.Zx;omega);obtain⟨q0,q1,q2,q3,q4,q5⟩:=Jt p n r.2.1.length r hr.there hr.inner wj (Nat.le_succ _);show gk p n (j8 p n r);unfold j8;have V9:=hr.mode;exact⟨by rw[q1];omega,by rw[q2];exact hr.left,by rw[q2];exact⟨hr.sf.1,by omega⟩,by rw[q2];exact hr.v,fun _=>q3,q4,q5,fun _=>q0⟩
theorem AX{p:ab}(hp:bB p=0){n:Int}{b:av}(h:cn p n b=true):(1<=n/\n<=4000)/\gk p n b:=by unfold cn at h;cases c0:decide (n<1)||decide (4000<n)with|true=>rw[c0]at h;cases h|false=>rw[c0]at h;simp only[aG,bL]at c0;refine⟨⟨by omega,by omega⟩,?_⟩;(have rest:iQ b=true->b.2.2.1=0/\b.2.2.2.1=0/\b.2.2.2.2=0:=fun h=>by unfold iQ at h;simp only[ae,bf]at h;exact⟨h.1,h.2.1,h.2.2⟩);(have trl:dp p b.2.1=true->b.2.1≠[]/\qj p b.2.1:=fun h=>by unfold dp at h;simp only[ae,cj,az]at h;refine⟨fun e=>by rw[e]at h;exact absurd h.2 (by decide),fun x hx=>?_⟩;obtain⟨i,hi,rfl⟩:=List.mem_iff_getElem.1 hx;rw[eK]at hi;have hb:=dS.1 h.1 (i+1) (by omega);rw[List.getElem_tail];unfold iL at hb;simp only[aG,bG]at hb;(have hg:b.2.1.getD (i+1) zP=b.2.1[i+1]:=by rw[ao,ah (by omega)];rfl);rw[hg]at hb;obtain⟨k1,k2⟩:=K6 hb.1;refine((DC hp k1 k2).2 fun e=>?_).1;have:=hb.2.1;rw[e]at this;simp at this);(have Nx:b.2.1≠[]->lD p n b=true->b.2.1.length<=1\/gU p b<n:=fun mW hl=>by by_cases c:b.2.1.length=1;exact .inl (by omega);right;unfold lD at hl;simp only[ae,az]at hl;have hl:=hl.1;unfold tT at hl;rw[aE c]at hl;unfold gU;have hl:1<=n-b.2.2.2.1-gG p b.2.1 1+b.2.2.1:=hl;omega);(have fit:lD p n b=true->Fk p n b:=fun hl=>by unfold lD at hl;simp only[ae,fb,az,bf]at hl;refine hl.2.imp_right fun hf=>?_;unfold tT tailOff at hf;unfold gU;by_cases c:b.2.1.length=1;rw[aI c]at hf;have hf:n-b.2.2.2.1-gG p b.2.1 1+0<=aR p (b.2.1.getD 0 zP).1-b.2.2.1:=hf;omega;rw[aE c]at hf;have hf:n-b.2.2.2.1-gG p b.2.1 1+b.2.2.1<=aR p (b.2.1.getD 0 zP).1-0:=hf;omega);cases c1:b.1==1 with|true=>rw[c1]at h;have h:lk p b=true:=h;unfold lk at h;simp only[ae,az]at h;obtain⟨r1,r2,r3⟩:=rest h.2.2.2;have c1:=eq_of_beq c1;refine⟨by omega,by omega,by omega,by omega,fun _ e=>by rw[e]at h;exact absurd h.1 (by decide),fun x hx=>?_,.inl (by omega),fun _=>.inl (eq_of_beq h.2.1)⟩;have:b.2.1.tail=[]:=dD (by rw[eK];omega);rw[this]at hx;cases hx|false=>rw[c1]at h;cases c3:b.1==3 with|true=>rw[c3]at h;have h:(decide (b.2.1.length=0)&&iQ b)=true:=h;simp only[ae,az]at h;obtain⟨r1,r2,r3⟩:=rest h.2;have c3:=eq_of_beq c3;have xt:=dD h.1;refine⟨by omega,by omega,by omega,by omega,fun e=>by omega,fun x hx=>?_,.inl (by omega),fun mW=>absurd xt mW⟩;rw[xt]at hx;cases hx|false=>rw[c3]at h;cases c2:b.1==2 with|true=>rw[c2]at h;have h:(dp p b.2.1&&(qe p n b&&lD p n b))=true:=h;simp only[ae]at h;have c2:=eq_of_beq c2;obtain⟨t1,t2⟩:=trl h.1;have hg:=h.2.1;unfold qe at hg;simp only[ae,cj,aG,bL]at hg;have hl:=pQ p hp (a6 b.2.1).1;exact⟨by omega,by omega,by omega,by omega,fun _=>t1,t2,Nx t1 h.2.2,fun _=>fit h.2.2⟩|false=>rw[c2]at h;cases c4:b.1==4 with|true=>rw[c4]at h;have h:(dp p b.2.1&&(iQ b&&lD p n b))=true:=h;simp only[ae]at h;have c4:=eq_of_beq c4;obtain⟨t1,t2⟩:=trl h.1;obtain⟨r1,r2,r3⟩:=rest h.2.1;exact⟨by omega,by omega,by omega,by omega,fun _=>t1,t2,Nx t1 h.2.2,fun _=>fit h.2.2⟩|false=>rw[c4]at h;cases h
theorem ve:∀(l:List Int)(x:Int),x∈mC l↔x∈l|[],_=>Iff.rfl|y::l,x=>by unfold mC;cases h:(mC l).head?==some y with|true=>have h:=eq_of_beq h;have hy:y∈mC l:=List.mem_of_mem_head? (by rw[h];rfl);rw[cond_true,ve l x,bc];refine⟨.inr,fun hx=>hx.elim (fun e=>?_) id⟩;rw[e];exact(ve l y).1 hy|false=>rw[cond_false,bc,bc,ve l x]
theorem ET(p:ab)(b:av)(e:Int):e∈eu p b↔∃h∈b.2.1,h.1=e/\ay p e≠4:=by unfold eu;rw[ve,(vV (we p b.2.1) _ (aZ _)).mem_iff];unfold we;simp only[List.mem_map,List.mem_filter,cj,cQ];exact⟨fun⟨h,h1,h2⟩=>⟨h,h1.1,h2,h2▸h1.2⟩,fun⟨h,h1,h2,h3⟩=>⟨h,⟨h1,h2.symm▸h3⟩,h2⟩⟩
theorem EM:∀(l:List Int),(mC l).length<=l.length|[]=>aZ _|x::l=>by have ih:=EM l;unfold mC;cases(mC l).head?==some x with|true=>exact Nat.le_succ_of_le ih|false=>exact Nat.succ_le_succ ih
theorem EU(p:ab)(b:av):(eu p b).length<=b.2.1.length:=by unfold eu;refine dk (EM _) ?_;rw[uY];unfold we;rw[dB];exact List.length_filter_le _ _
def lC(l:List ai):Prop:=l.length<=1000000
def LQ:ba where args:=[I,I,I];out:=.data [I];pre:=fun(x:Int×Int×Int×Unit)=>True;fn:=fun(x:Int×Int×Int×Unit)=>(cc x.1 x.2.1 x.2.2.1,())
def Us:ba where args:=[StockT];out:=.data [.bool];pre:=fun(x:aS×Unit)=>True;fn:=fun(x:aS×Unit)=>(m8 x.1,())
def c58:ba where args:=[StockT,I,I,.bool];out:=.data [I];pre:=fun(x:aS×Int×Int×Bool×Unit)=>True;fn:=fun(x:aS×Int×Int×Bool×Unit)=>(oR x.1 x.2.1 x.2.2.1 x.2.2.2.1,())
def Ua:ba where args:=[I,I];out:=.data [.bool];pre:=fun(x:Int×Int×Unit)=>True;fn:=fun(x:Int×Int×Unit)=>(lx 1 x.2.1 x.1,())
def PZ:ba where args:=[StockT];out:=.data [.bool];pre:=fun(x:aS×Unit)=>True;fn:=fun(x:aS×Unit)=>(cr x.1,())
def Qd:ba where args:=[.list StockT];out:=.data [I];pre:=fun(x:List aS×Unit)=>True;fn:=fun(x:List aS×Unit)=>(fe x.1,())
def PR:ba where args:=[PlanT,.list StockT];out:=.data [I];pre:=fun(x:ab×List aS×Unit)=>True;fn:=fun(x:ab×List aS×Unit)=>(kK x.1 x.2.1,())
def Ui:ba where args:=[I];out:=.data [.bool];pre:=fun(x:Int×Unit)=>True;fn:=fun(x:Int×Unit)=>(xx x.1,())
def Uh:ba where args:=[.ref fT,bj,I];out:=.data [.bool];pre:=fun(x:aO×ai×Int×Unit)=>cX x.1;fn:=fun(x:aO×ai×Int×Unit)=>(mF x.1.1 x.2.1 x.2.2.1,())
def Gt:ba where args:=[.ref fT,bj];out:=.data [.bool];pre:=fun(x:aO×ai×Unit)=>cX x.1;fn:=fun(x:aO×ai×Unit)=>(ew x.1.1 x.2.1,())
def PU:ba where args:=[.ref fT,bj];out:=.data [.bool];pre:=fun(x:aO×ai×Unit)=>cX x.1;fn:=fun(x:aO×ai×Unit)=>(sZ x.1.1 x.2.1,())
def JC:ba where args:=[BodyT];out:=.data [.bool];pre:=fun(x:av×Unit)=>True;fn:=fun(x:av×Unit)=>(iQ x.1,())
def P0:ba where args:=[.ref fT,BodyT];out:=.data [.bool];pre:=fun(x:aO×av×Unit)=>cX x.1;fn:=fun(x:aO×av×Unit)=>(lk x.1.1 x.2.1,())
def c93:ba where args:=[.ref fT,I,BodyT];out:=.data [.bool];pre:=fun(x:aO×Int×av×Unit)=>cX x.1/\lC x.2.2.1.2.1;fn:=fun(x:aO×Int×av×Unit)=>(cn x.1.1 x.2.1 x.2.2.1,())
def PV:ba where args:=[.ref fT,bj,bj];out:=.data [.bool];pre:=fun(x:aO×ai×ai×Unit)=>cX x.1;fn:=fun(x:aO×ai×ai×Unit)=>(mq x.1.1 x.2.1 x.2.2.1,())
def LB:ba where args:=[.ref fT,BodyT];out:=.data [.bool];pre:=fun(x:aO×av×Unit)=>cX x.1;fn:=fun(x:aO×av×Unit)=>(dp x.1.1 x.2.1.2.1,())
def Lz:ba where args:=[.ref fT,I,BodyT];out:=.data [.bool];pre:=fun(x:aO×Int×av×Unit)=>cX x.1/\0<x.2.2.1.2.1.length;fn:=fun(x:aO×Int×av×Unit)=>(qe x.1.1 x.2.1 x.2.2.1,())
def vm(n:Int)(b:av):Prop:=0<b.2.1.length/\lC b.2.1/\(1<=n/\n<=4000)/\(0<=b.2.2.1/\b.2.2.1<=4000)/\(0<=b.2.2.2.1/\b.2.2.2.1<=4000)
def Ly:ba where args:=[.ref fT,I,BodyT];out:=.data [.bool];pre:=fun(x:aO×Int×av×Unit)=>cX x.1/\vm x.2.1 x.2.2.1;fn:=fun(x:aO×Int×av×Unit)=>(lD x.1.1 x.2.1 x.2.2.1,())
def Z6:ba where args:=[.ref fT,I,TrainT];out:=.data [BodyT,I];pre:=fun(x:aO×Int×bC×Unit)=>cX x.1;fn:=fun(x:aO×Int×bC×Unit)=>((jS x.1.1 x.2.1 x.2.2.1).1,(jS x.1.1 x.2.1 x.2.2.1).2,())
def aly:ba where args:=[.ref fT,BodyT];out:=.fresh [.list I];pre:=fun(x:aO×av×Unit)=>cX x.1/\lC x.2.1.2.1;fn:=fun(x:aO×av×Unit)=>(eu x.1.1 x.2.1,())
def Gw:ba where args:=[BodyT];out:=.data [bj,.bool];pre:=fun(x:av×Unit)=>True;fn:=fun(x:av×Unit)=>((ff x.1).1,(ff x.1).2,())
def Z1:ba where args:=[.ref fT,.list I,I,BodyT,I];out:=.data [BodyT];pre:=fun(x:aO×List Int×Int×av×Int×Unit)=>cX x.1/\(1<=x.2.2.1/\x.2.2.1<=4000)/\gk x.1.1 x.2.2.1 x.2.2.2.1;fn:=fun(x:aO×List Int×Int×av×Int×Unit)=>(nW x.1.1 x.2.1 x.2.2.1 x.2.2.2.1 x.2.2.2.2.1,())
def WV:ba where args:=[.ref fT,BodyT];out:=.data [I,.bool];pre:=fun(x:aO×av×Unit)=>cX x.1;fn:=fun(x:aO×av×Unit)=>((ed x.1.1 x.2.1).1,(ed x.1.1 x.2.1).2,())
def W3:ba where args:=[.ref fT,I,BodyT];out:=.data [BodyT,.bool];pre:=fun(x:aO×Int×av×Unit)=>cX x.1/\(1<=x.2.1/\x.2.1<=4000)/\gk x.1.1 x.2.1 x.2.2.1;fn:=fun(x:aO×Int×av×Unit)=>((eR x.1.1 x.2.1 x.2.2.1).1,(eR x.1.1 x.2.1 x.2.2.1).2,())
def PS:ba where args:=[BodyT,BodyT];out:=.data [.bool];pre:=fun(x:av×av×Unit)=>True;fn:=fun(x:av×av×Unit)=>(js x.1 x.2.1,())
def Ur:ba where args:=[.list I,I];out:=.data [.bool];pre:=fun(x:List Int×Int×Unit)=>True;fn:=fun(x:List Int×Int×Unit)=>(qQ x.1 x.2.1,())
def Uq:ba where args:=[.ref fT,BodyT];out:=.data [I];pre:=fun(x:aO×av×Unit)=>cX x.1;fn:=fun(x:aO×av×Unit)=>(mE x.1.1 x.2.1,())
def c59:ba where args:=[.ref fT,.list I,BodyT,.bool];out:=.data [.bool];pre:=fun(x:aO×List Int×av×Bool×Unit)=>cX x.1;fn:=fun(x:aO×List Int×av×Bool×Unit)=>(kM x.1.1 x.2.1 x.2.2.1 x.2.2.2.1,())
def Z2:ba where args:=[.ref fT,.list I,.list I,StockT,BodyT,I,.bool];out:=.data [BodyT];pre:=fun(x:aO×List Int×List Int×aS×av×Int×Bool×Unit)=>cX x.1/\(1<=x.2.2.2.1.2.1/\x.2.2.2.1.2.1<=4000)/\gk x.1.1 x.2.2.2.1.2.1 x.2.2.2.2.1;fn:=fun(x:aO×List Int×List Int×aS×av×Int×Bool×Unit)=>(ow x.1.1 x.2.1 x.2.2.1 x.2.2.2.1 x.2.2.2.2.1 x.2.2.2.2.2.1 x.2.2.2.2.2.2.1,())
def SL:ba where args:=[BodyT];out:=.data [I,.bool];pre:=fun(x:av×Unit)=>True;fn:=fun(x:av×Unit)=>((um x.1).1,(um x.1).2,())
def SN:ba where args:=[.list BodyT];out:=.fresh [.list .bool];pre:=fun(x:List av×Unit)=>x.1.length<=1000;fn:=fun(x:List av×Unit)=>(kN x.1,())
def Ji(l:List av):Prop:=l.length<=1000/\∀b∈l,lC b.2.1
def Al{α:Type}(a b:List α)(same:Bool)(ne:Nat->Bool)(R:Prop)(W:Prop->Prop):Prop:=(((a.length:Int)!=(b.length:Int))=true->false=same/\True)/\(((a.length:Int)!=(b.length:Int))=false->(∃s0:Nat,(s0<=a.length/\sw a b s0)/\(s0:Int)=(0:Int)/\R)/\∀s:Nat,s<=a.length/\sw a b s->(decide ((s:Int)<(a.length:Int))=true->bF (s:Int) a.length/\bF (s:Int) b.length/\W ((ne s=true->false=same/\True)/\(ne s=false->bJ IntKind.i64 ((s:Int)+(1:Int))/\∃t:Nat,(t<=a.length/\sw a b t)/\a.length-t<a.length-s/\(t:Int)=(s:Int)+(1:Int)/\R)))/\(decide ((s:Int)<(a.length:Int))=false->true=same/\True))
theorem qn{α:Type}[BEq α][LawfulBEq α]{a b:List α}{ne:Nat->Bool}{R:Prop}{W:Prop->Prop}(d:α)(hw:a.length<=bA)(hR:R)(hW:∀X,X->W X)(h:∀s,ne s=!(a.getD s d==b.getD s d)):Al a b (a==b) ne R W:=by refine⟨fun h=>⟨abc rfl h,trivial⟩,fun hl=>?_⟩;have hl:=Wr rfl hl;refine⟨⟨0,⟨by omega,hl,rfl⟩,rfl,hR⟩,fun s=>?_⟩;rintro⟨h1,h2,h3⟩;refine⟨fun hs=>?_,fun hs=>⟨Q1 hl h3 (ek rfl hs),trivial⟩⟩;have hs:=cV rfl hs;refine⟨⟨by omega,by omega⟩,⟨by omega,by omega⟩,hW _ ⟨fun e=>⟨?_,trivial⟩,fun e=>⟨fK hs hw,s+1,⟨by omega,hl,?_⟩,by omega,by omega,hR⟩⟩⟩;all_goals grind[Q0]
theorem alA{α β:Type}[BEq α][BEq β](x y:α×β):(x==y)=(x.1==y.1&&x.2==y.2):=rfl
theorem ahQ(a b:List n9):aj (aq aP []) Tryz.f189 Ug (adz (a,b,())) (a,b,())=Al a b (a==b) (fun s=>!((a.getD (s:Int).toNat zE).1==(b.getD (s:Int).toNat zE).1&&((a.getD (s:Int).toNat zE).2.1==(b.getD (s:Int).toNat zE).2.1&&((a.getD (s:Int).toNat zE).2.2==(b.getD (s:Int).toNat zE).2.2&&true)))) (a=a/\b=b/\(a.length:Int)=(a.length:Int)/\True) fun X=>X:=by kernel_rfl
theorem aeh:aL Tryz.prog 189 Ug:=aL.cu (l:=[]) (A:=adz) aM trivial Tryz.func189 (by rfl) (by rfl) fun x hw _=>by obtain⟨a,b,⟨⟩⟩:=x;rw[ahQ];exact qn zE hw.1.1 ⟨rfl,rfl,rfl,trivial⟩ (fun _ h=>h) fun s=>by grind
theorem ahP(a b:List n8):aj (aq aP []) Tryz.f190 Uf (ady (a,b,())) (a,b,())=Al a b (a==b) (fun s=>!((a.getD (s:Int).toNat zJ).1.1==(b.getD (s:Int).toNat zJ).1.1&&((a.getD (s:Int).toNat zJ).1.2==(b.getD (s:Int).toNat zJ).1.2&&true)&&((a.getD (s:Int).toNat zJ).2.1==(b.getD (s:Int).toNat zJ).2.1&&((a.getD (s:Int).toNat zJ).2.2==(b.getD (s:Int).toNat zJ).2.2&&true)&&true))) (a=a/\b=b/\(a.length:Int)=(a.length:Int)/\True) fun X=>X:=by kernel_rfl
theorem aeg:aL Tryz.prog 190 Uf:=aL.cu (l:=[]) (A:=ady) aM trivial Tryz.func190 (by rfl) (by rfl) fun x hw _=>by obtain⟨a,b,⟨⟩⟩:=x;rw[ahP];exact qn zJ hw.1.1 ⟨rfl,rfl,rfl,trivial⟩ (fun _ h=>h) fun s=>by grind
theorem ahO(a b:List ja):aj (aq aP []) Tryz.f191 Ue (adx (a,b,())) (a,b,())=Al a b (a==b) (fun s=>!((a.getD (s:Int).toNat zS).1==(b.getD (s:Int).toNat zS).1&&((a.getD (s:Int).toNat zS).2.1.1==(b.getD (s:Int).toNat zS).2.1.1&&((a.getD (s:Int).toNat zS).2.1.2==(b.getD (s:Int).toNat zS).2.1.2&&true)&&((a.getD (s:Int).toNat zS).2.2==(b.getD (s:Int).toNat zS).2.2&&true)))) (a=a/\b=b/\(a.length:Int)=(a.length:Int)/\True) fun X=>X:=by kernel_rfl
theorem aef:aL Tryz.prog 191 Ue:=aL.cu (l:=[]) (A:=adx) aM trivial Tryz.func191 (by rfl) (by rfl) fun x hw _=>by obtain⟨a,b,⟨⟩⟩:=x;rw[ahO];exact qn zS hw.1.1 ⟨rfl,rfl,rfl,trivial⟩ (fun _ h=>h) fun s=>by grind
theorem v194(a b:List Int):aj (aq aP []) Tryz.f194 Ln (a194 (a,b,())) (a,b,())=Al a b (a==b) (fun s=>a.getD (s:Int).toNat 0!=b.getD (s:Int).toNat 0) (a=a/\b=b/\(a.length:Int)=(a.length:Int)/\True) fun X=>X:=by kernel_rfl
theorem Yd:aL Tryz.prog 194 Ln:=aL.cu (l:=[]) (A:=a194) aM trivial Tryz.func194 (by rfl) (by rfl) fun x hw _=>by obtain⟨a,b,⟨⟩⟩:=x;rw[v194];exact qn 0 hw.1.1 ⟨rfl,rfl,rfl,trivial⟩ (fun _ h=>h) fun s=>by rfl
theorem ahN(a b:List eA):aj (aq aP []) Tryz.f195 Uc (adw (a,b,())) (a,b,())=Al a b (a==b) (fun s=>!((a.getD (s:Int).toNat qE).1==(b.getD (s:Int).toNat qE).1&&((a.getD (s:Int).toNat qE).2.1==(b.getD (s:Int).toNat qE).2.1&&((a.getD (s:Int).toNat qE).2.2==(b.getD (s:Int).toNat qE).2.2&&true)))) (a=a/\b=b/\(a.length:Int)=(a.length:Int)/\True) fun X=>X:=by kernel_rfl
theorem aed:aL Tryz.prog 195 Uc:=aL.cu (l:=[]) (A:=adw) aM trivial Tryz.func195 (by rfl) (by rfl) fun x hw _=>by obtain⟨a,b,⟨⟩⟩:=x;rw[ahN];exact qn qE hw.1.1 ⟨rfl,rfl,rfl,trivial⟩ (fun _ h=>h) fun s=>by grind
theorem v196(a b:List dA):aj (aq aP []) Tryz.f196 Ub (a196 (a,b,())) (a,b,())=Al a b (a==b) (fun s=>!((a.getD (s:Int).toNat (0,0)).1==(b.getD (s:Int).toNat (0,0)).1&&((a.getD (s:Int).toNat (0,0)).2==(b.getD (s:Int).toNat (0,0)).2&&true))) (a=a/\b=b/\(a.length:Int)=(a.length:Int)/\True) fun X=>X:=by kernel_rfl
theorem aec:aL Tryz.prog 196 Ub:=aL.cu (l:=[]) (A:=a196) aM trivial Tryz.func196 (by rfl) (by rfl) fun x hw _=>by obtain⟨a,b,⟨⟩⟩:=x;rw[v196];exact qn (0,0) hw.1.1 ⟨rfl,rfl,rfl,trivial⟩ (fun _ h=>h) fun s=>by grind
theorem v193(a b:mI):aj (aq aP [(194,Ln)]) Tryz.f193 Ud ax (a,b,())=(((a.1==b.1)=true->True)/\(bif a.1==b.1 then a.2==b.2 else false)=(a==b)/\True):=by kernel_rfl
theorem aee:aL Tryz.prog 193 Ud:=aL.cu (l:=[(194,Ln)]) (A:=fun _=>ax) aM ⟨Yd,trivial⟩ Tryz.func193 (by rfl) (by rfl) fun x hw _=>by obtain⟨a,b,⟨⟩⟩:=x;rw[v193,Bool.cond_false_right];grind
theorem UQ(a b:List mI)(f:Unit):aj (aq aP [(193,Ud)]) Tryz.f192 Ba (L2 (a,b,f,())) (a,b,f,())=Al a b (a==b) (fun s=>!(a.getD (s:Int).toNat zL==b.getD (s:Int).toNat zL)) (a=a/\b=b/\f=f/\a=a/\(a.length:Int)=(a.length:Int)/\True) fun X=>True/\X:=by kernel_rfl
theorem Rn:aL Tryz.prog 192 Ba:=aL.cu (l:=[(193,Ud)]) (A:=L2) aM ⟨aee,trivial⟩ Tryz.func192 (by rfl) (by rfl) fun x hw _=>by obtain⟨a,b,f,⟨⟩⟩:=x;rw[UQ];exact qn zL hw.1.1 ⟨rfl,rfl,rfl,rfl,rfl,trivial⟩ (fun _ h=>⟨trivial,h⟩) fun s=>by rfl
theorem ah8(a b:ab):aj (aq aP [(189,Ug),(190,Uf),(191,Ue),(1940192,Ba)] [] [(193,.unit)]) Tryz.f158 Um ax (a,b,())=( U (bif a.1==b.1 then a.2.1==b.2.1 else false) fun y2=>U (bif y2 then a.2.2.1==b.2.2.1 else false) fun y3=>True/\((a.1==b.1)=true->True)/\(y2=true->True)/\(y3=true->True)/\(bif bif bif bif bif bif y3 then a.2.2.2.1==b.2.2.2.1 else false then a.2.2.2.2.1==b.2.2.2.2.1 else false then a.2.2.2.2.2.1==b.2.2.2.2.2.1 else false then a.2.2.2.2.2.2.1==b.2.2.2.2.2.2.1 else false then a.2.2.2.2.2.2.2.1==b.2.2.2.2.2.2.2.1 else false then a.2.2.2.2.2.2.2.2==b.2.2.2.2.2.2.2.2 else false)=(a==b)/\True):=by kernel_rfl
theorem aeD:aL Tryz.prog 158 Um:=aL.cu (l:=[(189,Ug),(190,Uf),(191,Ue),(1940192,Ba)]) (clos:=[(193,.unit)]) (A:=fun _=>ax) aM ⟨aeh,aeg,aef,Rn,trivial⟩ Tryz.func158 (by rfl) (by rfl) fun x hw _=>by obtain⟨a,b,⟨⟩⟩:=x;rw[ah8];simp[U.mk,alA,Bool.and_assoc]
theorem v160(a b:aK):aj (aq aP [(195,Uc),(196,Ub),(194,Ln)]) Tryz.f160 Ul ax (a,b,())=( U (bif bif a.1==b.1 then a.2.1==b.2.1 else false then a.2.2.1==b.2.2.1 else false) fun y2=>U (bif y2 then a.2.2.2.1==b.2.2.2.1 else false) fun y3=>U (bif y3 then a.2.2.2.2.1==b.2.2.2.2.1 else false) fun y4=>U (bif y4 then a.2.2.2.2.2.1==b.2.2.2.2.2.1 else false) fun y5=>U (bif y5 then a.2.2.2.2.2.2.1==b.2.2.2.2.2.2.1 else false) fun y6=>(y2=true->True)/\(y3=true->True)/\(y4=true->True)/\(y5=true->True)/\(y6=true->True)/\(bif bif y6 then a.2.2.2.2.2.2.2.1==b.2.2.2.2.2.2.2.1 else false then a.2.2.2.2.2.2.2.2==b.2.2.2.2.2.2.2.2 else false)=(a==b)/\True):=by kernel_rfl
theorem aeC:aL Tryz.prog 160 Ul:=aL.cu (l:=[(195,Uc),(196,Ub),(194,Ln)]) (A:=fun _=>ax) aM ⟨aed,aec,Yd,trivial⟩ Tryz.func160 (by rfl) (by rfl) fun x hw _=>by obtain⟨a,b,⟨⟩⟩:=x;rw[v160];refine U.mk fun y2 e2=>U.mk fun y3 e3=>U.mk fun y4 e4=>U.mk fun y5 e5=>U.mk fun y6 e6=>⟨fun _=>trivial,fun _=>trivial,fun _=>trivial,fun _=>trivial,fun _=>trivial,?_,trivial⟩;grind
theorem UT(a b:List aK)(f:Unit):aj (aq aP [(160,Ul)]) Tryz.f159 Bc (L3 (a,b,f,())) (a,b,f,())=Al a b (a==b) (fun s=>!(a.getD (s:Int).toNat zR==b.getD (s:Int).toNat zR)) (a=a/\b=b/\f=f/\a=a/\(a.length:Int)=(a.length:Int)/\True) fun X=>True/\X:=by kernel_rfl
theorem Rr:aL Tryz.prog 159 Bc:=aL.cu (l:=[(160,Ul)]) (A:=L3) aM ⟨aeC,trivial⟩ Tryz.func159 (by rfl) (by rfl) fun x hw _=>by obtain⟨a,b,f,⟨⟩⟩:=x;rw[UT];exact qn zR hw.1.1 ⟨rfl,rfl,rfl,rfl,rfl,trivial⟩ (fun _ h=>⟨trivial,h⟩) fun s=>by rfl
theorem v99(a b:du):aj (aq aP [(158,Um),(1610159,Bc)] [] [(160,.unit)]) Tryz.f99 ZT ax (a,b,())=( True/\((a.1==b.1)=true->True)/\(bif a.1==b.1 then a.2==b.2 else false)=(a==b)/\True):=by kernel_rfl
theorem aiV:aL Tryz.prog 99 ZT:=aL.cu (l:=[(158,Um),(1610159,Bc)]) (clos:=[(160,.unit)]) (A:=fun _=>ax) aM ⟨aeD,Rr,trivial⟩ Tryz.func99 (by rfl) (by rfl) fun x hw _=>by obtain⟨a,b,⟨⟩⟩:=x;rw[v99,Bool.cond_false_right];exact⟨trivial,fun _=>trivial,rfl,trivial⟩
abbrev aaw:=List Bool×Bool×Bool×Bool×Bool×Bool×Bool
def aac(l:mY)(v:aaw):Prop:=l.1<0\/l.1>3\/v.1.length=0\/l.2.2.2.length≠v.1.length\/l.2.1<0\/l.2.1>=v.1.length
instance(l:mY)(v:aaw):Decidable (aac l v):=by unfold aac;infer_instance
theorem A2{α:Type}(l:List α)(i j:Nat)(x d:α)(h:j<l.length):(l.set i x).getD j d=if i=j then x else l.getD j d:=by grind
structure amu (p:ab) (r:aK) (s:aX):Prop where
 still:still p r s
 each:∀e∈fG s,(0<=e/\e<(p.1.length:Int))/\tO r e=false
 nodup:(fG s).Nodup
 len:(fG s).length<=12
structure Xj (p:ab) (r:aK):Prop where
 sig:0<=r.1/\r.1<(p.2.2.1.length:Int)
 len:1<=r.2.2.2.1.length/\r.2.2.2.1.length<=12
 steps:∀s∈r.2.2.2.1,0<=s.1/\s.1<(p.1.length:Int)
 once:(o3 r).Nodup
 zd:∀e∈r.2.2.2.2.2.2.1,(0<=e/\e<(p.1.length:Int))/\dx (o3 r) e=false
 amo:r.2.2.2.2.2.2.1.Nodup
 ahv:r.2.2.2.2.2.2.1.length<=12
 Yr:aaA p (qR r)
 small:r.2.2.2.2.1.length<=1000/\r.2.2.2.2.2.1.length<=1000
 ajL:∀n∈r.2.2.2.2.1,dx (o3 r) n.1=true
 ahp:∀n∈r.2.2.2.2.2.1,dx (o3 r) n.1=false
abbrev vI:=List Int×List Int×List dA×List dA
def aiM(tE:Int->Option vI)(o:Int)(v:Option vI)(k:Int):Option vI:=if k=o then v else tE k
structure UI (tE:Int->Option vI) (b:ga):Prop where
 k1:(b.2.1.map Prod.fst).Nodup
 k2:(b.2.2.1.map Prod.fst).Nodup
 k3:(b.2.2.2.1.map Prod.fst).Nodup
 k4:(b.2.2.2.2.map Prod.fst).Nodup
 g1:∀o,cE I b.2.1 o=(tE o).map fun x=>x.1
 g2:∀o,cE I b.2.2.1 o=(tE o).map fun x=>x.2.1
 g3:∀o,cE I b.2.2.2.1 o=(tE o).map fun x=>x.2.2.1
 g4:∀o,cE I b.2.2.2.2 o=(tE o).map fun x=>x.2.2.2
def ale(r:aK):vI:=(o3 r,r.2.2.2.2.2.2.1,r.2.2.2.2.1,r.2.2.2.2.2.1)
def akT(x:vI):Bool:=decide (0<x.1.length+x.2.1.length+x.2.2.2.length)
def Full(tE:Int->Option vI):Prop:=∀o x,tE o=some x->akT x=true
structure aht (m:Nat) (tE:Int->Option vI):Prop where
 who:∀o x,tE o=some x->0<=o/\o<(m:Int)
 ap9:∀o x,tE o=some x->x.1.length<=1000/\x.2.1.length<=1000/\x.2.2.1.length<=1000/\x.2.2.2.length<=1000
structure adB (tE:Int->Option vI):Prop where
 one:∀o x k y e,tE o=some x->tE k=some y->dx x.1 e=true->dx y.1 e=true->o=k
 held:∀o x k y,tE o=some x->tE k=some y->∀u∈x.2.2.1++x.2.2.2,∀v∈y.2.2.1++y.2.2.2,u.1=v.1->u.2=v.2
def Tu(n:Nat)(l:mY):Prop:=l=tz\/((1<=l.1/\l.1<=3)/\(0<=l.2.1/\l.2.1<(n:Int))/\l.2.2.2.length=n/\(l.1≠3->l.2.1=0))
def ajI(l:List Int)(x:dA):Bool:=!dx l x.1
def alg(r:aK)(k:Nat):vI:=((o3 r).drop k,r.2.2.2.2.2.2.1,r.2.2.2.2.1.filter (ajI ((o3 r).take k)),r.2.2.2.2.2.1)
def alf(r:aK)(l:mY):Option vI:=if l.1=0 then none else some (alg r l.2.1.toNat)
def Le(c:du)(ls:List mY)(o:Int):Option vI:=if 0<=o/\o<(c.2.length:Int)then alf (oj c o) (ls.getD o.toNat tz)else none
structure JX (c:du):Prop where
 ok:ZR c
 acA:∀r∈c.2,Xj c.1 r
 Nx:c.2.length<=64
 elems:c.1.1.length<=40
 sigs:c.1.2.2.1.length<=24
structure Inv (c:du) (ls:List mY) (b:ga):Prop where
 len:ls.length=c.2.length
 Yz:∀i:Nat,i<c.2.length->Tu (oj c i).2.2.2.1.length (ls.getD i tz)
 size:b.1=(c.1.1.length:Int)
 book:UI (Le c ls) b
 ala:adB (Le c ls)
 clear:∀o x k y e,Le c ls o=some x->Le c ls k=some y->dx x.1 e=true->dx y.2.1 e=false
structure aqF (b:ga) (o:Int) (r:aK):Prop where
 pos:0<=o
 has:ZF b o=false
 right:TW b r=true
 steps:r.2.2.2.1.any (HI b)=false
 zd:(r.2.2.2.2.2.2.1.any fun e=>decide (0<=Hn b e))=false
 held:(qR r).any (Pg b)=false
structure aqD (c:du) (ls:List mY) (b:ga) (t:yJ) (CB:Qu) (k:Int):Prop where
 ajZ:0<=k/\k<(c.2.length:Int)
 bare:(oj c k).2.2.2.2.2.2.2.2=false
 same:bT (adR c ls k (oj c k)) c.2.length=false
 ub:(oj c k).2.2.2.1.any (XF c.1 CB.1)=false
 ap6:(oj c k).2.2.2.2.2.2.1.any (Jj c.1 CB.1)=false
 may:agq b k (oj c k)=0
 points:(qR (oj c k)).any (Q9 c.1 CB)=false
 line:agp t (oj c k) CB.1 b=0
structure Es (W:Ce):Prop where
 ak3:JX W.1
 inv:Inv W.1 W.2.1 W.2.2.1
 net:VF W.2.2.2.1.1
 asp:W.2.2.2.2.length<=1000
def NU(S:St)(b:Nat)(l:List (Nat×C)):dH:=match find S.bl b with|some (.cells cs)=>.cells (l.foldl (fun cs p=>cs.set p.1 p.2) cs)|_=>.cells []
abbrev JR:=du×List mY×Ht×List Int×List Int
def lR(p:ab):du:=(p,(l6 p).1)
theorem Bj{p:ab}(h:(dP p).2=0):bB p=0/\(dP p).1.1=p/\(dP p).1.2.length<=64:=by unfold dP at h⊢;cases hc:(bB p==0)with|false=>grind|true=>rw[hc]at h;cases ha:((jg p).2==0)with|false=>grind|true=>refine⟨eq_of_beq hc,rfl,?_⟩;grind[JP]
theorem Ik{p:ab}(h:bB p=0):cY p=some (gz p):=by grind[cY]
theorem Il(p:ab):(aQ (some (gz p))).1=p:=by show(gz p).1=p;grind[gz]
theorem Z7{c:du}(h:sJ c=0):dP c.1=(c,0):=by unfold sJ at h;grind
theorem KO{α β:Type}{x:α×β}{a:α}{b:β}(h1:x.1=a)(h2:x.2=b):x=(a,b):=by grind
theorem ahF(c:(ab)×List (aK)):fv (aq aP [(42,NL),(99,ZT),(34,uy),(91,xD),(100,LS),(51,tQ),(101,LR)]) Tryz.f47 Ef ax (c,())=( U ((dP c.1).2!=(0:Int)) fun(y1:Bool)=>U (!c==(dP c.1).1) fun(y2:Bool)=>U (bB (dP c.1).1.1!=(0:Int)) fun(y3:Bool)=>U (cY (dP c.1).1.1) fun(y4:Option aO)=>dw c.1/\(y1=true->False)/\(y1=false->True/\(y2=true->False)/\(y2=false->dw (dP c.1).1.1/\(y3=true->False)/\(y3=false->((0:Int)<=(↑(dP c.1).1.2.length:Int)/\(↑(dP c.1).1.2.length:Int)<=(↑(dP c.1).1.2.length:Int))/\(roomFor (↑(dP c.1).1.2.length:Int).toNat (48:Nat)/\(↑(dP c.1).1.2.length:Int)<=(bA:Int))/\jK y4/\True/\True/\jK y4/\((0:Int)<=(↑(aQ y4).1.2.2.1.length:Int)/\(↑(aQ y4).1.2.2.1.length:Int)<=(↑(aQ y4).1.2.2.1.length:Int))/\(roomFor (↑(aQ y4).1.2.2.1.length:Int).toNat (8:Nat)/\(↑(aQ y4).1.2.2.1.length:Int)<=(bA:Int))/\(dP c.1).1=c/\List.replicate (↑(dP c.1).1.2.length:Int).toNat ((0:Int),(0:Int),false,[])=List.replicate c.2.length tz/\max (0:Int) (min (↑(aQ y4).1.1.length:Int) (40:Int))=max (0:Int) (min (c.1.1.length:Int) (40:Int))/\([]:List (Int×List Int)).Perm []/\([]:List (Int×List Int)).Perm []/\([]:List (Int×List (Int×Int))).Perm []/\([]:List (Int×List (Int×Int))).Perm []/\y4=some (gz c.1)/\([]:List ((Int×Int)×Bool)).Perm []/\List.replicate (↑(aQ y4).1.2.2.1.length:Int).toNat (0:Int)=List.replicate c.1.2.2.1.length (0:Int)/\(0:Int)=(0:Int)/\True)))):=by kernel_rfl
theorem alD(c:du)(hp:dw c.1)(hE:sJ c=0):fv (aq aP [(42,NL),(99,ZT),(34,uy),(91,xD),(100,LS),(51,tQ),(101,LR)]) Tryz.f47 Ef ax (c,()):=by
 have akq:bA=9223372036854775807:=rfl;rw[ahF];have hB:=Z7 hE;obtain⟨g1,g2,g3⟩:=Bj (p:=c.1) (by rw[hB]);have GU:=(oJ (jh g1).1);rw[hB]at g3;rw[hB];refine U.mk fun y1 e1=>U.mk fun y2 e2=>U.mk fun y3 e3=>U.mk fun y4 e4=>?_;have h1:y1=false:=e1;have h2:y2=false:=by grind
 have h3:y3=false:=by grind
 have h4:y4=some (gz c.1):=by grind[Ik]
 rw[h1,h2,h3,h4,Il];refine⟨hp,fun h=>(by cases h),fun _=>⟨trivial,fun h=>(by cases h),fun _=>⟨hp,fun h=>(by cases h),fun _=>?_⟩⟩⟩;exact⟨⟨by omega,by omega⟩,⟨gS (by omega) (by decide),by omega⟩,⟨_,rfl⟩,trivial,trivial,⟨_,rfl⟩,⟨by omega,by omega⟩,⟨gS (by omega) (by decide),by omega⟩,rfl,rfl,rfl,.refl _,.refl _,.refl _,.refl _,rfl,.refl _,rfl,rfl,trivial⟩
theorem Ya:lq Tryz.prog 47 Ef:=lq.cu (l:=[(42,NL),(99,ZT),(34,uy),(91,xD),(100,LS),(51,tQ),(101,LR)]) (A:=fun _=>ax) aM ⟨acN,aiV,Ig,Mv,afj,Ie,afi,trivial⟩ Tryz.func47 (by rfl) (by rfl) fun x hw hp=>alD x.1 hp.1 hp.2
theorem PL{p:ab}(h:(l6 p).2=true):dP p=(lR p,0):=by have hf:=(xh h).ak9;unfold l6 at h;rw[hf]at h;have h0:(dP p).2=0:=eq_of_beq h;obtain⟨_,g2,_⟩:=Bj h0;refine KO (KO g2 ?_) h0;grind[l6]
theorem Vb:(l6 vW).2=true:=by kernel_rfl
structure apU (W:Ce) (i:Nat):Prop where
 inv:Es W
 ajZ:i<W.1.2.length
 idle:∀j:Nat,j<W.1.2.length->j≠i->(W.2.1.getD j tz).1=0
 up:(W.2.1.getD i tz).1=1\/(W.2.1.getD i tz).1=2
 off:(W.2.1.getD i tz).2.2.1=false
def XT(z:List Int):List Int:=Tn z z.length
def agh(o:Int)(x:vI):adA:=(o,x.1,XT x.2.1,x.2.2.1,x.2.2.2)
structure Qs (tE:Int->Option vI) (b:Ht):Prop where
 ap4:(b.2.map fun h=>h.1).Pairwise (· < ·)
 each:∀h∈b.2,∃x,tE h.1=some x/\h=agh h.1 x
 has:∀o x,tE o=some x->∃h∈b.2,h.1=o
structure aaz (W:JR):Prop where
 ak3:JX W.1
 len:W.2.1.length=W.1.2.length
 Yz:∀i:Nat,i<W.1.2.length->Tu (oj W.1 i).2.2.2.1.length (W.2.1.getD i tz)
 size:W.2.2.1.1=(W.1.1.1.length:Int)
 book:Qs (Le W.1 W.2.1) W.2.2.1
 aln:W.2.2.2.1.length=W.1.1.2.2.2.1.length
structure aqI (tE:Int->Option vI) (b:ga) (rb:Ht):Prop where
 p:UI tE b
 r:Qs tE rb
 ala:adB tE
 full:Full tE
section
variable {p:ab} {CB:Qu}
structure Mid (p:ab) (ls:List mY) (b:ga) (t:yJ) (V:JR):Prop where
 inv:Inv (lR p) ls b
 inr:aaz V
 agx:V.1=lR p
 Yx:V.2.1=ls
 tok:t.1=some (gz p)
 keys:(t.2.map Prod.fst).Nodup
 aln:∀l:Nat,l<p.2.2.2.1.length->V.2.2.2.1.getD l 0=ZG t.2 (l:Int)
end
section
variable {p:ab} {CB:Qu} {ls:List mY} {b:ga} {t:yJ} {V:JR}
structure Alike (p:ab) (W:Ce) (V:JR):Prop where
 inv:Es W
 agx:W.1=lR p
 mid:Mid p W.2.1 W.2.2.1 W.2.2.2.1 V
 shown:V.2.2.2.2=W.2.2.2.2
end
structure amA (p:ab) (V W:Ce) (i:Nat):Prop where
 inv:Es V
 inw:Es W
 cv:V.1=lR p
 cw:W.1=lR p
 Yz:V.2.1.getD i tz=W.2.1.getD i tz
theorem Ou{a:Ty}{β:Type}{k:a.den}{v:β}{x:a.den×β}:∀{m:List (a.den×β)},x∈gx a m k v->x=(k,v)\/x∈m|[],h=>.inl (aN.1 h)|y::m,h=>by unfold gx at h;cases hk:a.mV k y.1 with|true=>grind|false=>rw[hk]at h;rcases bc.1 h with h|h;exact .inr (h▸bH);rcases Ou h with h|h;exact .inl h;exact .inr (bk _ h)
theorem PH{a:Ty}{β:Type}{k:a.den}{x:a.den×β}:∀{m:List (a.den×β)},x∈rC a m k->x∈m|[],h=>h|y::m,h=>by unfold rC at h;cases hk:a.mV k y.1 with|true=>rw[hk]at h;exact bk _ h|false=>rw[hk]at h;rcases bc.1 h with h|h;exact h▸bH;exact bk _ (PH h)
theorem FN{l:List gj}{x:gj×Bool}:∀k,k<=l.length->x∈uB [] l k->x.1∈l|0,_,h=>absurd h gL|k+1,hk,h=>by have h:x∈gx AH (rC AH (uB [] l k) ((l.getD k zT).1,3-(l.getD k zT).2)) (l.getD k zT) true:=h;rcases Ou h with h|h;rw[h];exact uI zT (by omega);exact FN k (by omega) (PH h)
theorem rN{l:List gj}{t:gj}(h:DS (uB [] l l.length) t=true):t∈l:=by unfold DS at h;cases hg:cE AH (uB [] l l.length) t with|none=>grind|some v=>exact FN (x:=(t,v)) l.length (aZ _) (lY (a:=AH) rfl hg)
structure aqH (a b:aK):Prop where
 any:a.1=b.1\/(∃e,e∈o3 a/\e∈o3 b)\/(∃e,e∈o3 a/\e∈b.2.2.2.2.2.2.1)\/(∃e,e∈a.2.2.2.2.2.2.1/\e∈o3 b)\/∃x∈qR a,∃y∈qR b,x.1=y.1/\x.2≠y.2
def je(p:ab)(a b:aK):Prop:=∀t∈PA p a,∀u∈PA p b,t.1=u.1->t.2=u.2
structure ahr (c:du) (i:Nat) (ls:List mY) (b:ga) (t:yJ):Prop where
 inv:Inv c ls b
 tE:Le c ls=aiM (fun _=>none) (i:Int) (some (ale (oj c (i:Int))))
 Yz:∀j:Nat,(ls.getD j tz).1=if j=i then 1 else 0
 tok:t=(some (gz c.1),uB [] (Ny (gz c.1) (oj c (i:Int))) (Ny (gz c.1) (oj c (i:Int))).length)
def JQ(m:List (gj×Bool)):Prop:=∀x∈m,x.2=true
structure amB (p:ab) (W:Ce) (V:JR):Prop where
 acA:Qr p
 same:Alike p W V
 FL:JQ W.2.2.2.1.2
theorem Z8(c:du):sJ c=bif !((dP c.1).2==0)then(dP c.1).2 else bif c==(dP c.1).1 then 0 else 1:=by grind[sJ]
def PB(ls:List mY)(i:Int):Bool:=!(abZ ls i==0)
def aci(p:ab)(s:Int):Int:=(p.2.2.1.getD s.toNat zS).2.1.1
def acf(c:du)(ls:List mY)(s:Int)(i:Nat):Bool:=(c.2.getD i zR).1==s&&PB ls (i:Int)
def afn(c:du)(ls:List mY)(s:Int)(i:Nat):Bool:=(c.2.getD i zR).2.2.1==1&&((c.2.getD i zR).2.1==s&&PB ls (i:Int))
def aiT(c:du)(ls:List mY)(ub:List Bool)(s:Int)(k:Nat):Bool:=ago c.1 ub (aci c.1 s)||bT (afn c ls s) k
@[irreducible]def ZA(c:du)(ls:List mY)(ub:List Bool)(s:Int):Bool:=!bT (acf c ls s) c.2.length&&aiT c ls ub s c.2.length
def Zz(c:du)(s:Int)(i:Nat):Bool:=(c.2.getD i zR).1==s&&!(c.2.getD i zR).2.2.2.2.2.2.2.2
structure aaG (W:Ce):Prop where
 inv:Es W
 own:dP W.1.1=(W.1,0)
 short:dw W.1.1
structure ahu (c:du) (ls:List mY) (ub:List Bool) (s:Nat) (x:Int):Prop where
 here:0<=x/\x<(c.2.length:Int)
 from_:(oj c x).1=(s:Int)
 bare:(oj c x).2.2.2.2.2.2.2.2=false
 auto:(c.1.2.2.1.getD s zS).2.2=true
 first:∀j:Nat,(j:Int)<x->Zz c (s:Int) j=false
 amC:ZA c ls ub (s:Int)=true
abbrev PtT:Ty:=.pair I (.pair I (.pair I (.pair .bool .bool)))
abbrev Xk:=Int×Int×Int×Bool×Bool
abbrev Hu:Ty:=.pair (.ptr fT) (.pair (.vec 40 PtT) (.pair (.vec 40 .bool) (.vec 24 .bool)))
abbrev yK:=Option aO×List Xk×List Bool×List Bool
def zPt:Xk:=(0,0,0,false,false)
def aaZ(f:yK):ab:=(aQ f.1).1
@[irreducible]def mL(n:aO):yK:=(some n,(List.range 40).map (fun(e:Nat)=>(bif ay n.1 (e:Int)==2 then 1 else 0,0,0,false,false)),List.replicate 40 false,List.replicate 24 false)
structure Qv (f:yK):Prop where
 net:fa f.1
 pts:f.2.1.length=40
 amq:f.2.2.1.length=40
 aoW:f.2.2.2.length=24
 left:∀x∈f.2.1,0<=x.2.2.1/\x.2.2.1<=20
abbrev gV:=Option aO×Ce×yK×List aS×List av×List Int×Qu×Bool×Int×Bool
def dg(w:gV):ab:=(aQ w.1).1
def HD(w:gV):Ce:=w.2.1
def G1(w:gV):yK:=w.2.2.1
def eN(w:gV):List aS:=w.2.2.2.1
def eY(w:gV):List av:=w.2.2.2.2.1
def Mb(w:gV):List Int:=w.2.2.2.2.2.1
def nQ(kinds:List aS)(t:bC):Bool:=!jd t.1||(decide (t.2.1<0)||decide ((kinds.length:Int)<=t.2.1))
@[irreducible]def kY(kinds:List aS)(l:List bC):Int:=bif decide (8<l.length)then 3 else bif l.any (nQ kinds)then 1 else bif fO (l.map fun t=>t.1)then 4 else 0
def dM(kinds:List aS)(t:bC):aS:=kinds.getD t.2.1.toNat m9
def kP(p:ab)(kinds:List aS)(t:bC):Int:=(jS p (dM kinds t).2.1 t).2
def ib(p:ab)(kinds:List aS):List bC->Int|[]=>0|t::l=>bif kP p kinds t==0 then ib p kinds l else kP p kinds t
@[irreducible]def ll(p:ab)(kinds:List aS)(l:List bC):List av:=l.map fun t=>(jS p (dM kinds t).2.1 t).1
def xn(p:ab)(l:List av)(i:Nat):Bool:=(eu p (l.getD i ju)).any fun e=>(l.take i).any fun b=>dx (eu p b) e
@[irreducible]def rU(p:ab)(l:List av):Bool:=bT (xn p l) l.length
@[irreducible]def gP(c:du)(kinds:List aS)(l:List bC):Int:=bif !(sJ c==0)then sJ c else bif !(kK c.1 kinds==0)then kK c.1 kinds else bif !(kY kinds l==0)then kY kinds l else bif !(ib c.1 kinds l==0)then ib c.1 kinds l else bif rU c.1 (ll c.1 kinds l)then 18 else 0
def zIn:Qu:=([],[],[],[])
@[irreducible]def iK(c:du)(kinds:List aS)(l:List bC):gV:=(some (gz c.1),Uw c,mL (gz c.1),l.map (dM kinds),ll c.1 kinds l,List.replicate c.1.2.2.1.length 0,zIn,false,0,false)
abbrev acp:=Qu×List Int×List Int
def short{α:Type}(xs:List α):Prop:=xs.length<=1000000
def bytes(b:List Int):Prop:=∀x∈b,0<=x/\x<=255
structure May (m n:Int) (e:acp):Prop where
 m0:0<=m/\m<=40
 n0:0<=n/\n<=24
 ub:(e.1.1.length:Int)=m
 pos:(e.1.2.1.length:Int)=m
 loop:(e.1.2.2.1.length:Int)=n
 held:(e.1.2.2.2.length:Int)=n
 ps:∀p∈e.1.2.1,0<=p/\p<=2
 calls:e.2.1.length<=200
 alu:e.2.2.length<=200
 cs:∀p∈e.2.1,0<=p/\p<=255
 ds:∀p∈e.2.2,0<=p/\p<=255
abbrev ahc:=Ce×List Int×Int×Int
structure amx (K:ahc):Prop where
 on:aaG K.1
 FL:JQ K.1.2.2.2.1.2
 keys:(K.1.2.2.2.1.2.map Prod.fst).Nodup
 Nx:K.2.1.length<=1000000
def afp(m:List (gj×Bool)):Prop:=(m.map Prod.fst).Nodup
theorem La{n:aO}(h:cX n):Qv (mL n):=by unfold mL;refine⟨⟨n,rfl,h⟩,by simp,by simp,by simp,fun x hx=>?_⟩;obtain⟨e,_,rfl⟩:=List.mem_map.1 hx;exact⟨fg 0,by show(0:Int)<=20;decide⟩
def XK(i:Qu):Prop:=i.1.length<=1000/\i.2.1.length<=1000/\i.2.2.1.length<=1000/\i.2.2.2.length<=1000
structure Qq (w:gV):Prop where
 net:fa w.1
 on:aaG (HD w)
 FL:JQ (HD w).2.2.2.1.2
 keys:afp (HD w).2.2.2.1.2
 vb:(HD w).1.1=dg w
 field:Qv (G1 w)
 aqA:(G1 w).1=w.1
 iP:(Mb w).length=(dg w).2.2.1.length
 many:(eY w).length=(eN w).length/\(eN w).length<=8
 lens:∀i,i<(eN w).length->1<=((eN w).getD i m9).2.1/\((eN w).getD i m9).2.1<=4000
 ach:∀i,i<(eY w).length->gk (dg w) ((eN w).getD i m9).2.1 ((eY w).getD i ju)
 asked:XK w.2.2.2.2.2.2.1
def ag5(w v:gV):Prop:=v.1=w.1/\eN v=eN w/\(eY v).length=(eY w).length/\(HD v).1=(HD w).1
theorem II(p:ab)(x:ai):qj p [x]:=fun y hy=>by cases hy
theorem adO{p:ab}(hp:bB p=0){n:Int}{t:bC}(h:(jS p n t).2=0):(1<=n/\n<=4000)/\gk p n (jS p n t).1:=by unfold jS at h⊢;cases c1:(decide (n<1)||decide (4000<n))||((!(ay p t.2.2.1.1==4)&&!(ay p t.2.2.1.1==1))||!ew p t.2.2.1)with|true=>rw[c1]at h;cases h|false=>rw[c1]at h;cases c2:decide (cg p t.2.2.1<0)with|true=>rw[c2]at h;cases h|false=>rw[c2]at h;cases c3:(ay p t.2.2.1.1==4&&!(t.2.2.2==0))||(ay p t.2.2.1.1==1&&(decide (t.2.2.2<0)||decide (aR p t.2.2.1.1<t.2.2.2)))with|true=>rw[c3]at h;cases h|false=>rw[c3]at h;cases c4:ay p t.2.2.1.1==1&&decide (aR p t.2.2.1.1<t.2.2.2+n)with|true=>rw[c4]at h;cases h|false=>simp only[aG,Bool.and_eq_false_iff,bL,bG,bf,cQ]at c1 c3 c4;have hl:=pQ p hp t.2.2.1.1;refine⟨⟨by omega,by omega⟩,?_⟩;show gk p n (bif ay p t.2.2.1.1==4 then 1 else 2,[t.2.2.1],t.2.2.2,0,0);cases hk:ay p t.2.2.1.1==4 with|true=>have hk:=eq_of_beq hk;(have h0:t.2.2.2=0:=by rcases c3.1 with e|e;exact absurd hk e;exact e);exact⟨⟨by show(1:Int)<=1;decide,by show(1:Int)<=4;decide⟩,⟨by show 0<=t.2.2.2;omega,by show t.2.2.2<=4000;omega⟩,⟨fg 0,by show(0:Int)<=4000;decide⟩,⟨fg 0,by show(0:Int)<=60;decide⟩,fun _=>by simp,II p _,.inl (aZ _),fun _=>.inl hk⟩|false=>have hk:=ne_of_beq_false hk;(have h1:ay p t.2.2.1.1=1:=by rcases c1.2.1 with e|e;exact absurd e hk;exact e);(have h2:¬t.2.2.2<0/\¬aR p t.2.2.1.1<t.2.2.2:=by rcases c3.2 with e|e;exact absurd h1 e;exact e);(have h3:¬aR p t.2.2.1.1<t.2.2.2+n:=by rcases c4 with e|e;exact absurd h1 e;exact e);exact⟨⟨by show(1:Int)<=2;decide,by show(2:Int)<=4;decide⟩,⟨by show 0<=t.2.2.2;omega,by show t.2.2.2<=4000;omega⟩,⟨fg 0,by show(0:Int)<=4000;decide⟩,⟨fg 0,by show(0:Int)<=60;decide⟩,fun _=>by simp,II p _,.inl (aZ _),fun _=>.inr (by rw[pn];show n-(0-t.2.2.2+0)<=aR p t.2.2.1.1;omega)⟩
theorem FP{p:ab}{kinds:List aS}:∀{l:List bC},ib p kinds l=0->∀t∈l,kP p kinds t=0|[],_,t,ht=>by cases ht|x::l,h,t,ht=>by unfold ib at h;cases c:kP p kinds x==0 with|true=>rw[c]at h;rcases bc.1 ht with rfl|ht;exact eq_of_beq c;exact FP h t ht|false=>rw[c]at h;exact absurd h (ne_of_beq_false c)
theorem CZ{c:du}{kinds:List aS}{l:List bC}(h:gP c kinds l=0):sJ c=0/\kK c.1 kinds=0/\kY kinds l=0/\ib c.1 kinds l=0/\rU c.1 (ll c.1 kinds l)=false:=by unfold gP at h;cases c1:!(sJ c==0)with|true=>rw[c1]at h;simp at c1;exact absurd h c1|false=>rw[c1]at h;cases c2:!(kK c.1 kinds==0)with|true=>rw[c2]at h;simp at c2;exact absurd h c2|false=>rw[c2]at h;cases c3:!(kY kinds l==0)with|true=>rw[c3]at h;simp at c3;exact absurd h c3|false=>rw[c3]at h;cases c4:!(ib c.1 kinds l==0)with|true=>rw[c4]at h;simp at c4;exact absurd h c4|false=>rw[c4]at h;cases c5:rU c.1 (ll c.1 kinds l)with|true=>rw[c5]at h;cases h|false=>simp only[bG,bf]at c1 c2 c3 c4;exact⟨c1,c2,c3,c4,rfl⟩
theorem zA{kinds:List aS}{l:List bC}(h:kY kinds l=0):l.length<=8/\∀t∈l,0<=t.2.1/\t.2.1<(kinds.length:Int):=by unfold kY at h;cases c1:decide (8<l.length)with|true=>rw[c1]at h;cases h|false=>rw[c1]at h;cases c2:l.any (nQ kinds)with|true=>rw[c2]at h;cases h|false=>refine⟨by have:=au c1;omega,fun t ht=>?_⟩;(have hb:nQ kinds t=false:=by cases hb:nQ kinds t with|false=>rfl|true=>rw[List.any_eq_true.2 ⟨t,ht,hb⟩]at c2;cases c2);unfold nQ at hb;simp only[aG,bL]at hb;omega
abbrev UA:eX:=.obj Hu
abbrev N2:eX:=.cells true (.pair (.aY (.ptr fT)) (.pair adC (.pair UA (.pair (.aY (.list StockT)) (.pair (.row 33 BodyT) (.pair (.aY (.list I)) (.pair (.aY InT) (.aY (.pair .bool (.pair I .bool))))))))))
def NH:iz where args:=[.aY (.ptr fT)];outs:=[UA];pre:=fun(x:Option aO×Unit)=>fa x.1;fn:=fun(x:Option aO×Unit)=>(mL (aQ x.1),())
def D0(kinds:List aS)(l:List bC):Prop:=kinds.length<=1000/\l.length<=1000
def NI:ba where args:=[.list StockT,.list TrainT];out:=.data [I];pre:=fun(x:List aS×List bC×Unit)=>True;fn:=fun(x:List aS×List bC×Unit)=>(kY x.1 x.2.1,())
def kG(c:du):Prop:=c=lR c.1/\(l6 c.1).2=true
def W4:iz where args:=[.aY r8,.aY (.list StockT),.aY (.list TrainT)];outs:=[N2,.aY I];pre:=fun(x:du×List aS×List bC×Unit)=>kG x.1/\gP x.1 x.2.1 x.2.2.1=0;fn:=fun(x:du×List aS×List bC×Unit)=>(iK x.1 x.2.1 x.2.2.1,0,())
def lF:cG:=([],[],[])
def jn(s:aS):Int:=max (-s.2.2.2.2) (-10)
def om(s:aS):Int:=min s.2.2.2.1 10
def yi(p:ab)(pos iP:List Int)(s:aS)(C1 VU:av)(first:Bool)(k:Nat):Bool:=js (ow p pos iP s C1 (jn s+(k:Int)) first) VU
@[irreducible]def oS(p:ab)(pos iP:List Int)(s:aS)(C1 VU:av)(first:Bool):Bool:=((eR p s.2.1 C1).2&&js (eR p s.2.1 C1).1 VU)||bT (yi p pos iP s C1 VU first) (om s+1-jn s).toNat
@[irreducible]def np(l:List Int)(n:Int):Bool:=(l.length:Int)==n&&!l.any fun x=>decide (x<0)||decide (2<x)
def tY(p:ab)(l:List Int)(i:Nat):Bool:=!(l.getD i 0==0)&&!(ay p (i:Int)==2)
def pv(p:ab)(st:List aS)(l:List av)(i:Nat):Bool:=!cn p (st.getD i m9).2.1 (l.getD i ju)
@[irreducible]def jr(p:ab)(st:List aS)(x:cG):Bool:=(np x.1 (p.1.length:Int)&&(np x.2.1 (p.2.2.1.length:Int)&&(x.2.2.length:Int)==(st.length:Int)))&&(!bT (tY p x.1) x.1.length&&!bT (pv p st x.2.2) x.2.2.length)
def nR(p:ab)(l:List av)(t i:Nat):Bool:=!(i==t)&&(eu p (l.getD i ju)).any fun e=>dx (eu p (l.getD t ju)) e
@[irreducible]def D4(p:ab)(l:List av)(t:Int):Bool:=bT (nR p l t.toNat) l.length
@[irreducible]def D1(p:ab)(C1 VU:cG)(t:Int):Bool:=(eu p (C1.2.2.getD t.toNat ju)).any fun e=>!(C1.1.getD e.toNat 0==VU.1.getD e.toNat 0)
abbrev iq:=ab×List aS×List av
@[irreducible]def lZ(c:iq)(kind:Int)(l:List cG)(tick t:Int)(first:List Bool):Bool:=bif kind==3 then tick==0&&!js ((l.getD tick.toNat lF).2.2.getD t.toNat ju) (c.2.2.getD t.toNat ju)else bif kind==4 then D4 c.1 (l.getD tick.toNat lF).2.2 t else bif kind==5 then((l.getD tick.toNat lF).2.2.getD t.toNat ju).1==4 else bif kind==6 then decide (0<tick)&&D1 c.1 (l.getD (tick-1).toNat lF) (l.getD tick.toNat lF) t else bif kind==7 then decide (0<tick)&&!oS c.1 (l.getD tick.toNat lF).1 (l.getD tick.toNat lF).2.1 (c.2.1.getD t.toNat m9) ((l.getD (tick-1).toNat lF).2.2.getD t.toNat ju) ((l.getD tick.toNat lF).2.2.getD t.toNat ju) (first.getD t.toNat false)else false
def kS(l:List cG)(i:Nat):List Bool:=kN (l.getD (i-1) lF).2.2
def pF(c:iq)(n:Nat)(l:List cG)(i:Nat)(kind:Int):Option Nat:=gr (fun t=>lZ c kind l (i:Int) (t:Int) (kS l i)) n
def nO(c:iq)(n:Nat)(l:List cG)(i:Nat):Nat->Int->Int×Int×Int|0,_=>(0,-1,-1)|k+1,kind=>match pF c n l i kind with|some t=>(kind,(i:Int),(t:Int))|none=>nO c n l i k (kind+1)
def il(c:iq)(n:Nat)(l:List cG)(i:Nat):Int×Int×Int:=bif jr c.1 c.2.1 (l.getD i lF)then nO c n l i 5 3 else(2,(i:Int),-1)
def jk(c:iq)(n:Nat)(l:List cG):Nat->Nat->Int×Int×Int|0,_=>(0,-1,-1)|k+1,i=>bif(il c n l i).1==0 then jk c n l k (i+1)else il c n l i
def Ao(p:ab)(kinds:List aS)(oh:List bC):iq:=(p,oh.map (dM kinds),ll p kinds oh)
@[irreducible]def jT(c:du)(kinds:List aS)(oh:List bC)(l:List cG):Int×Int×Int:=bif gP c kinds oh==0 then jk (Ao c.1 kinds oh) oh.length l l.length 0 else(1,-1,-1)
theorem CY(c:iq)(n:Nat)(l:List cG)(i:Nat):∀(k:Nat)(kind:Int),0<kind->((nO c n l i k kind).1=0↔nO c n l i k kind=(0,-1,-1))/\((nO c n l i k kind).1≠0->(nO c n l i k kind).2.1=(i:Int))|0,kind,_=>⟨⟨fun _=>rfl,fun _=>rfl⟩,fun h=>absurd rfl h⟩|k+1,kind,h=>by unfold nO;cases pF c n l i kind with|none=>exact CY c n l i k (kind+1) (by omega)|some t=>exact⟨⟨fun e=>by have e:kind=0:=e;omega,fun e=>by have:=br Prod.fst e;have e:kind=0:=this;omega⟩,fun _=>rfl⟩
theorem qF(c:iq)(n:Nat)(l:List cG):∀(k i:Nat),(jk c n l k i=(0,-1,-1)/\∀j,i<=j->j<i+k->(il c n l j).1=0)\/∃j,i<=j/\j<i+k/\jk c n l k i=il c n l j/\(il c n l j).1≠0/\∀m,i<=m->m<j->(il c n l m).1=0|0,i=>.inl ⟨rfl,fun j h1 h2=>by omega⟩|k+1,i=>by unfold jk;cases h:(il c n l i).1==0 with|true=>have h:=eq_of_beq h;rcases qF c n l k (i+1)with⟨h1,h2⟩|⟨j,h1,h2,h3,h4,h5⟩;refine .inl ⟨h1,fun j hj1 hj2=>?_⟩;rcases Nat.eq_or_lt_of_le hj1 with rfl|hj;exact h;exact h2 j hj (by omega);refine .inr ⟨j,by omega,by omega,h3,h4,fun m hm1 Nf=>?_⟩;rcases Nat.eq_or_lt_of_le hm1 with rfl|hm;exact h;exact h5 m hm Nf|false=>exact .inr ⟨i,aZ _,by omega,rfl,ne_of_beq_false h,fun m h1 h2=>by omega⟩
theorem Q2(c:iq)(n:Nat)(l:List cG)(j:Nat)(h:(il c n l j).1≠0):(il c n l j).2.1=(j:Int):=by unfold il at h⊢;cases hs:jr c.1 c.2.1 (l.getD j lF)with|false=>rfl|true=>rw[hs]at h;exact(CY c n l j 5 3 (by decide)).2 h
theorem N4(c:iq){l m:List cG}{j:Nat}(h:∀i,i<=j->l.getD i lF=m.getD i lF)(kind t:Int)(f:List Bool):lZ c kind l (j:Int) t f=lZ c kind m (j:Int) t f:=by unfold lZ;have e1:((j:Int)).toNat=j:=aw j;(have e2:((j:Int)-1).toNat=j-1:=by omega);rw[e1,e2,h j (aZ _),h (j-1) (Nat.sub_le _ _)]
theorem CW(c:iq)(n:Nat){l m:List cG}{j:Nat}(h:∀i,i<=j->l.getD i lF=m.getD i lF):∀(k:Nat)(kind:Int),nO c n l j k kind=nO c n m j k kind|0,_=>rfl|k+1,kind=>by(have hf:kS l j=kS m j:=by unfold kS;rw[h (j-1) (Nat.sub_le _ _)]);(have hw:pF c n l j kind=pF c n m j kind:=by unfold pF;rw[hf];congr 1;exact funext fun t=>N4 c h _ _ _);unfold nO;rw[hw,CW c n h k (kind+1)]
theorem u4(c:iq)(n:Nat){l m:List cG}{j:Nat}(h:∀i,i<=j->l.getD i lF=m.getD i lF):il c n l j=il c n m j:=by unfold il;rw[h j (aZ _),CW c n h]
theorem Of(c:iq)(n:Nat)(l more:List cG)(h:(jk c n l l.length 0).1≠0):∃j,j<l.length/\(jk c n l l.length 0).2.1=(j:Int)/\jk c n (l++more) (l++more).length 0=jk c n l l.length 0/\jk c n (l.take j) (l.take j).length 0=(0,-1,-1):=by
 rcases qF c n l l.length 0 with⟨h1,_⟩|⟨j,h1,h2,h3,h4,h5⟩;rw[h1]at h;exact absurd rfl h;have hj:j<l.length:=by omega
 have ha:∀i,i<=j->(l++more).getD i lF=l.getD i lF:=fun i hi=>by rw[ao,ao,dK (by omega)]
 refine⟨j,hj,?_,?_,?_⟩;rw[h3];exact Q2 c n l j h4;rw[h3];rcases qF c n (l++more) (l++more).length 0 with⟨_,g2⟩|⟨i,g1,g2,g3,g4,g5⟩;have:=g2 j (bw _) (by rw[cT];omega);rw[u4 c n ha]at this;exact absurd this h4;rcases Nat.lt_trichotomy i j with ml|rfl|Nh;rw[u4 c n fun k hk=>ha k (by omega)]at g4;exact absurd (h5 i (bw _) ml) g4;rw[g3];exact u4 c n ha;have:=g5 j (bw _) Nh;rw[u4 c n ha]at this;exact absurd this h4;rcases qF c n (l.take j) (l.take j).length 0 with⟨g1,_⟩|⟨i,g1,g2,g3,g4,g5⟩;exact g1;have ml:i<j:=by rw[da]at g2;omega
 rw[u4 c n (m:=l) fun k hk=>by rw[ao,ao,dz (by omega)]]at g4;exact absurd (h5 i (bw _) ml) g4
theorem uE{s:aS}(h:cr s=true):(1<=s.2.1/\s.2.1<=4000)/\(1<=s.2.2.1/\s.2.2.1<=60)/\(1<=s.2.2.2.1/\s.2.2.2.1<=10)/\(1<=s.2.2.2.2/\s.2.2.2.2<=10):=by unfold cr lx at h;simp only[ae,az]at h;exact h.2
theorem Vr{s:aS}(h:cr s=true):m8 s=true:=by obtain⟨_,h2,h3,h4⟩:=uE h;unfold m8 cc;simp only[ae,bf];omega
theorem H7{s:aS}(h:cr s=true)(v want:Int)(f:Bool):oR s v want f=cc (cc v 0 s.2.2.1+(bif f then-s.2.2.2.2 else cc want (-s.2.2.2.2) s.2.2.2.1)) 0 s.2.2.1:=by unfold oR;rw[Vr h];rfl
theorem Rb{s:aS}(h:cr s=true)(v want:Int)(f:Bool):oR s v (cc want (-s.2.2.2.2) s.2.2.2.1) f=oR s v want f:=by obtain⟨_,h2,h3,h4⟩:=uE h;rw[H7 h,H7 h];cases f with|true=>rfl|false=>(have:cc (cc want (-s.2.2.2.2) s.2.2.2.1) (-s.2.2.2.2) s.2.2.2.1=cc want (-s.2.2.2.2) s.2.2.2.1:=by unfold cc;omega);rw[this]
theorem AZ{s:aS}(h:cr s=true):jn s=-s.2.2.2.2/\om s=s.2.2.2.1:=by obtain⟨_,h2,h3,h4⟩:=uE h;unfold jn om;omega
theorem VM{s:aS}(h:cr s=true)(p:ab)(pos iP:List Int)(b:av)(want:Int)(first:Bool):oS p pos iP s b (ow p pos iP s b want first) first=true:=by obtain⟨_,h2,h3,h4⟩:=uE h;obtain⟨l1,l2⟩:=AZ h;unfold oS;rw[fb];right;(have hv:-s.2.2.2.2<=cc want (-s.2.2.2.2) s.2.2.2.1/\cc want (-s.2.2.2.2) s.2.2.2.1<=s.2.2.2.1:=by unfold cc;omega);refine kf (k:=(cc want (-s.2.2.2.2) s.2.2.2.1-jn s).toNat) (by omega) ?_;unfold yi;rw[show jn s+((cc want (-s.2.2.2.2) s.2.2.2.1-jn s).toNat:Int)=cc want (-s.2.2.2.2) s.2.2.2.1 by omega];unfold ow;rw[Rb h];exact dq _
theorem VL(p:ab)(pos iP:List Int)(s:aS)(b:av)(first:Bool)(h:(eR p s.2.1 b).2=true):oS p pos iP s b (eR p s.2.1 b).1 first=true:=by unfold oS;rw[h,fb];left;exact dq _
theorem ak4(p:ab)(pos:List Int)(b:av)(m:Int):((gd p pos b m).1.1.2.2.2.2=b.2.2.2.2\/(gd p pos b m).1.1.2.2.2.2=0)/\((gd p pos b m).2=true->(gd p pos b m).1.1.2.2.2.2=b.2.2.2.2):=by unfold gd;cases decide (m<=b.2.2.1)with|true=>exact⟨.inl rfl,fun h=>(by cases h)⟩|false=>cases(aD p (a6 b.2.1)).2 with|false=>exact⟨.inr rfl,fun h=>(by cases h)⟩|true=>cases ay p (aD p (a6 b.2.1)).1.1==4 with|true=>exact⟨.inl rfl,fun h=>(by cases h)⟩|false=>cases(bK p (aD p (a6 b.2.1)).1.1 (aD p (a6 b.2.1)).1.2 (jz pos (aD p (a6 b.2.1)).1.1)).2 with|false=>exact⟨.inr rfl,fun h=>(by cases h)⟩|true=>exact⟨.inl rfl,fun _=>rfl⟩
theorem TT(p:ab)(pos:List Int):∀(k:Nat)(b:av)(m:Int),(goUp p pos k b m).2.2.2.2=b.2.2.2.2\/(goUp p pos k b m).2.2.2.2=0|0,b,m=>.inl rfl|k+1,b,m=>by unfold goUp;cases decide (m<=0)with|true=>exact .inl rfl|false=>obtain⟨g1,g2⟩:=ak4 p pos b m;cases hg:(gd p pos b m).2 with|false=>exact g1|true=>exact(TT p pos k _ _).imp_left fun h=>h.trans (g2 hg)
theorem ZK(p:ab)(n:Int):∀(k:Nat)(b:av),(iT p n k b).2.2=b.2.2|0,b=>rfl|k+1,b=>by unfold iT;cases decide (1<b.2.1.length)&&decide (n<=gU p b)with|false=>rfl|true=>exact ZK p n k _
theorem abe(p:ab)(pos:List Int)(n:Int)(b:av)(v:Int)(h:wW b v=false):(nW p pos n b v).2.2.2.2=cc v 0 60\/(nW p pos n b v).2.2.2.2=0:=by unfold nW;rw[h];cases b.1==1&&cc v 0 60==0 with|true=>exact .inr rfl|false=>cases decide (n<=(gn p pos (b.1,b.2.1,b.2.2.1,b.2.2.2.1,cc v 0 60) (cc v 0 60)).2.2.2.1)with|true=>exact .inr rfl|false=>show(j8 p n (gn p pos (b.1,b.2.1,b.2.2.1,b.2.2.2.1,cc v 0 60) (cc v 0 60))).2.2.2.2=_\/(j8 p n (gn p pos (b.1,b.2.1,b.2.2.1,b.2.2.2.1,cc v 0 60) (cc v 0 60))).2.2.2.2=_;unfold j8;rw[ZK];unfold gn;exact TT p pos _ _ _
theorem VN{s:aS}(h:cr s=true){p:ab}(pos iP:List Int){b c:av}{v:Int}(first:Bool)(hb:b.1=2/\b.2.1≠[])(hV:0<=b.2.2.2.2/\b.2.2.2.2<=s.2.2.1)(hv:1<=v)(hc:c.2.2.2.2=v)(ho:¬(b.2.2.2.2-s.2.2.2.2<=v/\v<=b.2.2.2.2+s.2.2.2.1)):oS p pos iP s b c first=false:=by obtain⟨_,h2,h3,h4⟩:=uE h;obtain⟨l1,l2⟩:=AZ h;unfold oS;rw[aG];refine⟨?_,dS.2 fun i hi=>?_⟩;(cases ht:(eR p s.2.1 b).2 with|false=>rfl|true=>rw[cA];(have h0:(eR p s.2.1 b).1.2.2.2.2=0:=by unfold eR;cases !(ed p b).2||!(b.2.2.2.2==0)with|true=>rfl|false=>cases decide (cg p ((ed p b).1,1-(b.2.1.getD 0 zP).2)<0)with|true=>rfl|false=>rfl);cases hq:js (eR p s.2.1 b).1 c with|false=>rfl|true=>have e:=eq_of_beq (show((eR p s.2.1 b).1==c)=true from hq);rw[e]at h0;omega);unfold yi;cases hq:js (ow p pos iP s b (jn s+(i:Int)) first) c with|false=>rfl|true=>have e:=eq_of_beq (show(ow p pos iP s b (jn s+(i:Int)) first==c)=true from hq);(have hg:wW b (oR s b.2.2.2.2 (jn s+(i:Int)) (kM p iP b first))=false:=by unfold wW;rw[hb.1];cases hl:b.2.1 with|nil=>exact absurd hl hb.2|cons x l=>rfl);have hm:=abe p pos s.2.1 b _ hg;(have hs:ow p pos iP s b (jn s+(i:Int)) first=nW p pos s.2.1 b (oR s b.2.2.2.2 (jn s+(i:Int)) (kM p iP b first)):=by unfold ow;rfl);rw[<-hs,e,hc,H7 h]at hm;unfold cc at hm;cases hf:kM p iP b first with|true=>rw[hf]at hm;simp only[cond_true]at hm;omega|false=>rw[hf]at hm;simp only[cond_false]at hm;omega
end YtjfjmpkibcmnpaaGreat
end Go.Proofs
