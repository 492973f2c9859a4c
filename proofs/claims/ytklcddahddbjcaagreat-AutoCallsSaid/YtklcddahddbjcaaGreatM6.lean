/- A road that is called and taken back, nothing being occu -/
import Derived.Test.YtklcddahddbjcaaGreatM5
import Derived.Test.YtklcddahddbjcaaGreatM3
import Derived.Test.YtklcddahddbjcaaGreatRows
import Derived.Test.YtklcddahddbjcaaGreatM4
import Derived.WalkKit
import Derived.ProofKit
import Derived.OpenShut
import Derived.ShutString
import Derived.ChangeOld
import Derived.Below
set_option maxRecDepth 100000
set_option linter.unusedVariables false
set_option linter.unusedSimpArgs false
set_option maxHeartbeats 16000000
namespace Go.Proofs
namespace YtklcddahddbjcaaGreat
open Go Go.Vc
structure apZ (W:fv) (i:Nat):Prop where
 inv:mP W
 PK:i<W.1.2.length
 idle:∀j:Nat,j<W.1.2.length->j≠i->(W.2.1.getD j iw).1=0
 up:(W.2.1.getD i iw).1=1\/(W.2.1.getD i iw).1=2
 off:(W.2.1.getD i iw).2.2.1=false
structure am0 (p:ab) (V W:fv) (i:Nat):Prop where
 inv:mP V
 inw:mP W
 cv:V.1=gl p
 cw:W.1=gl p
 Bk:V.2.1.getD i iw=W.2.1.getD i iw
theorem Pb{a:Ty}{β:Type}{k:a.den}{v:β}{x:a.den×β}:∀{m:List (a.den×β)},x∈dG a m k v->x=(k,v)\/x∈m|[],h=>.inl (aK.1 h)|y::m,h=>by unfold dG at h;cases hk:a.lh k y.1 with|true=>grind|false=>rw[hk]at h;rcases bk.1 h with h|h;exact .inr (h▸bO);rcases Pb h with h|h;exact .inl h;exact .inr (bf _ h)
theorem Qw{a:Ty}{β:Type}{k:a.den}{x:a.den×β}:∀{m:List (a.den×β)},x∈iY a m k->x∈m|[],h=>h|y::m,h=>by unfold iY at h;cases hk:a.lh k y.1 with|true=>rw[hk]at h;exact bf _ h|false=>rw[hk]at h;rcases bk.1 h with h|h;exact h▸bO;exact bf _ (Qw h)
theorem Fx{l:List ct}{x:ct×Bool}:∀k,k<=l.length->x∈nh [] l k->x.1∈l|0,_,h=>absurd h b6|k+1,hk,h=>by have h:x∈dG jZ (iY jZ (nh [] l k) ((l.getD k zT).1,3-(l.getD k zT).2)) (l.getD k zT) true:=h;rcases Pb h with h|h;rw[h];exact lz zT (by omega);exact Fx k (by omega) (Qw h)
theorem rz{l:List ct}{t:ct}(h:oT (nh [] l l.length) t=true):t∈l:=by unfold oT at h;cases hg:bF jZ (nh [] l l.length) t with|none=>grind|some v=>exact Fx (x:=(t,v)) l.length (aT _) (gp (a:=jZ) rfl hg)
structure aqP (a b:ah):Prop where
 any:a.1=b.1\/(∃e,e∈cV a/\e∈cV b)\/(∃e,e∈cV a/\e∈b.2.2.2.2.2.2.1)\/(∃e,e∈a.2.2.2.2.2.2.1/\e∈cV b)\/∃x∈aU a,∃y∈aU b,x.1=y.1/\x.2≠y.2
def iB(p:ab)(a b:ah):Prop:=∀t∈zA p a,∀u∈zA p b,t.1=u.1->t.2=u.2
structure ahC (c:aQ) (i:Nat) (ls:List bz) (b:aA) (t:eO):Prop where
 inv:Inv c ls b
 dH:lS c ls=j5 (fun _=>none) (i:Int) (some (vl (aE c (i:Int))))
 Bk:∀j:Nat,(ls.getD j iw).1=if j=i then 1 else 0
 tok:t=(some (mL c.1),nh [] (eu (mL c.1) (aE c (i:Int))) (eu (mL c.1) (aE c (i:Int))).length)
def atR(b:dW)(o:Int):Int:=fH (fun h=>h.1==o) b.2
def acz(l:List oG)(k:Nat):List oG:=l.take k++l.drop (k+1)
@[irreducible]def UE(b:dW)(o:Int):dW:=bif decide (atR b o<0)then b else(b.1,acz b.2 (atR b o).toNat)
def ajS(e:Int)(x:Int):Bool:=!(x==e)
def S7(b:dW)(o:Int):oG:=b.2.getD (atR b o).toNat zH
def YG(h:oG)(e:Int):oG:=(h.1,h.2.1.filter (ajS e),h.2.2.1,h.2.2.2.1.filter (wD e),h.2.2.2.2)
def afF(h:oG):Bool:=h.2.1.length+h.2.2.1.length+h.2.2.2.2.length==0
def UA(b:dW)(o e:Int):dW:=(b.1,b.2.set (atR b o).toNat (YG (S7 b o) e))
def afH(b:dW)(o e:Int):Bool:=decide (atR b o<0)||!cd (S7 b o).2.1 e
@[irreducible]def acw(b:dW)(o e:Int):dW:=bif afH b o e then b else bif afF (YG (S7 b o) e)then UE (UA b o e) o else UA b o e
def afK(pos:List Int)(n:bq):Bool:=NP pos n.1==n.2
@[irreducible]def ZA(r:ah)(pos:List Int):Bool:=(aU r).all (afK pos)
def setAt(c:aQ)(ls:List bz)(s:Int)(i:Nat):Bool:=(c.2.getD i zR).1==s&&rE ls (i:Int)==2
def Wt(c:aQ)(ls:List bz)(s:Int):Option Nat:=dU (setAt c ls s) c.2.length
@[irreducible]def Th(c:aQ)(ls:List bz)(s:Int):Int:=match Wt c ls s with|some i=>(i:Int)|none=>-1
def acD(c:aQ)(ls:List bz)(k:Int):Bool:=(aE c k).2.2.1==2||((aE c k).2.2.1==1&&decide (0<=Th c ls (aE c k).2.1))
def amD(c:aQ)(ls:List bz)(s:Nat):Int:=bif decide (Th c ls (s:Int)<0)then 0 else bif acD c ls (Th c ls (s:Int))then 2 else 1
def acK(c:aQ)(ls:List bz)(k:Nat):List Int:=(List.range k).map (amD c ls)
@[irreducible]def Jc(c:aQ)(ls:List bz):List Int:=acK c ls c.1.2.2.1.length
@[irreducible]def acu(p:ab)(r:ah)(inn:fK)(i:Int)(aH:List Int):kT:=(r.2.2.2.1.map fun s=>tE p inn.1 s.1,r.2.2.1==2,ZA r inn.2.1,!Ds p r inn.1,ri inn.2.2.1 r.1,ri inn.2.2.2 r.1,cd aH i)
def Zu(r:ah)(i:Int)(b:dW)(pl:Int):dW:=acw b i (jd r.2.2.2.1 pl.toNat).1
def I3(r:ah)(i:Int)(out:List Int)(b:dW):Nat->dW|0=>b|k+1=>Zu r i (I3 r i out b k) (out.getD k 0)
def RJ(r:ah)(i:Int)(g:bz×List Int)(b:dW):dW:=bif g.1.1==0 then UE (I3 r i g.2 b g.2.length) i else I3 r i g.2 b g.2.length
@[irreducible]def gR(W:jG)(i:Int)(inn:fK)(aH:List Int):bz×List Int:=dE (W.2.1.getD i.toNat iw) (acu W.1.1 (aE W.1 i) inn i aH)
@[irreducible]def agH(W:jG)(i:Int)(inn:fK)(aH:List Int):jG:=(W.1,W.2.1.set i.toNat (gR W i inn aH).1,RJ (aE W.1 i) i (gR W i inn aH) W.2.2.1,W.2.2.2)
def XT(z:List Int):List Int:=Mx z z.length
def agB(o:Int)(x:fD):oG:=(o,x.1,XT x.2.1,x.2.2.1,x.2.2.2)
structure Rj (dH:Int->Option fD) (b:dW):Prop where
 ap8:(b.2.map fun h=>h.1).Pairwise (· < ·)
 each:∀h∈b.2,∃x,dH h.1=some x/\h=agB h.1 x
 has:∀o x,dH o=some x->∃h∈b.2,h.1=o
structure aaK (W:jG):Prop where
 Dm:lY W.1
 len:W.2.1.length=W.1.2.length
 Bk:∀i:Nat,i<W.1.2.length->G7 (aE W.1 i).2.2.2.1.length (W.2.1.getD i iw)
 size:W.2.2.1.1=(W.1.1.1.length:Int)
 book:Rj (lS W.1 W.2.1) W.2.2.1
 alj:W.2.2.2.1.length=W.1.1.2.2.2.1.length
def Am(W:jG)(inn:fK)(aH:List Int):Nat->jG|0=>W|k+1=>bif((Am W inn aH k).2.1.getD k iw).1==0 then Am W inn aH k else agH (Am W inn aH k) (k:Int) inn aH
abbrev JP:=jG×List Int
def Xv(W:jG)(inn:fK)(x:Int):Int:=NO W.1 W.2.1 W.2.2.1 W.2.2.2.1 inn x
def afL(W:jG)(x:Int):jG:=(W.1,W.2.1.set x.toNat (oD ((aE W.1 x).2.2.2.1.length:Int)),acv W.2.2.1 x (aE W.1 x),Wz W.1.1 W.2.2.2.1 (aE W.1 x),W.2.2.2.2)
def Tw(inn:fK)(s:JP)(x:Int):JP:=(bif Xv s.1 inn x==0 then afL s.1 x else s.1,s.2++[Xv s.1 inn x])
def Lc(inn:fK)(l:List Int)(s:JP):Nat->JP|0=>s|k+1=>Tw inn (Lc inn l s k) (l.getD k 0)
def XF(p:ab)(b:dW)(e:Nat):Int:=bif(p.1.getD e zE).2.1==2 then(NS b (e:Int)).1 else 0
def Vx(p:ab)(b:dW)(k:Nat):List Int:=(List.range k).map (XF p b)
def Hx(W:jG)(inn:fK)(calls aH:List Int):JP:=Lc inn calls (Am W inn aH W.2.1.length,[]) calls.length
def Rz(W:jG)(l:List Int):jG:=(W.1,W.2.1,W.2.2.1,W.2.2.2.1,l)
@[irreducible]def UC(W:jG)(inn:fK)(calls aH:List Int):jG×xv×Int:=if wU W.1.1 inn=true then(Rz (Hx W inn calls aH).1 (Jc W.1 (Hx W inn calls aH).1.2.1),(Jc W.1 (Hx W inn calls aH).1.2.1,Vx W.1.1 (Hx W inn calls aH).1.2.2.1 W.1.1.1.length,(Hx W inn calls aH).2),0)else(W,([],[],[]),1)
structure aqQ (dH:Int->Option fD) (b:aA) (rb:dW):Prop where
 p:dv dH b
 r:Rj dH rb
 Dy:BC dH
 full:Full dH
section
variable {p:ab} {inn:fK}
structure Mid (p:ab) (ls:List bz) (b:aA) (t:eO) (V:jG):Prop where
 inv:Inv (gl p) ls b
 inr:aaK V
 agP:V.1=gl p
 tB:V.2.1=ls
 tok:t.1=some (mL p)
 keys:(t.2.map Prod.fst).Nodup
 alj:∀l:Nat,l<p.2.2.2.1.length->V.2.2.2.1.getD l 0=yv t.2 (l:Int)
end
section
variable {p:ab} {inn:fK} {ls:List bz} {b:aA} {t:eO} {V:jG}
structure Alike (p:ab) (W:fv) (V:jG):Prop where
 inv:mP W
 agP:W.1=gl p
 mid:Mid p W.2.1 W.2.2.1 W.2.2.2.1 V
 shown:V.2.2.2.2=W.2.2.2.2
end
def Z9(m:List (ct×Bool)):Prop:=∀x∈m,x.2=true
structure am1 (p:ab) (W:fv) (V:jG):Prop where
 te:pZ p
 same:Alike p W V
 OF:Z9 W.2.2.2.1.2
def Z3(V:jG)(n:Nat):List (Nat×dk):=[(n,.cells (flat jv V.1++[.row LifeT (n+1),.ptr (n+2) 0,.row I (n+3),.row I (n+4)])),(n+2,.cells [.aC I V.2.2.1.1,.row U7 (n+5)]),(n+1,.row false 73 LifeT V.2.1),(n+3,.row false 3 I V.2.2.2.1),(n+4,.row false 3 I V.2.2.2.2),(n+5,.row false 220 U7 V.2.2.1.2)]
def nw(ls:List bz)(i:Int):Bool:=!(rE ls i==0)
def Oh(p:ab)(s:Int):Int:=(p.2.2.1.getD s.toNat zS).2.1.1
def oF(c:aQ)(ls:List bz)(s:Int)(i:Nat):Bool:=(c.2.getD i zR).1==s&&nw ls (i:Int)
def wH(c:aQ)(ls:List bz)(s:Int)(i:Nat):Bool:=(c.2.getD i zR).2.2.1==1&&((c.2.getD i zR).2.1==s&&nw ls (i:Int))
def Bc(c:aQ)(ls:List bz)(b8:List Bool)(s:Int)(k:Nat):Bool:=tE c.1 b8 (Oh c.1 s)||cr (wH c ls s) k
@[irreducible]def lP(c:aQ)(ls:List bz)(b8:List Bool)(s:Int):Bool:=!cr (oF c ls s) c.2.length&&Bc c ls b8 s c.2.length
def kz(c:aQ)(s:Int)(i:Nat):Bool:=(c.2.getD i zR).1==s&&!(c.2.getD i zR).2.2.2.2.2.2.2.2
def sS(c:aQ)(s:Int):List Int:=(dU (kz c s) c.2.length).toList.map fun(i:Nat)=>(i:Int)
def rK(c:aQ)(ls:List bz)(b8:List Bool)(s:Nat):List Int:=bif(c.1.2.2.1.getD s zS).2.2&&lP c ls b8 (s:Int)then sS c (s:Int)else[]
def fT(c:aQ)(ls:List bz)(b8:List Bool):Nat->List Int|0=>[]|k+1=>fT c ls b8 k++rK c ls b8 k
@[irreducible]def jQ(c:aQ)(ls:List bz)(b8:List Bool):List Int:=fT c ls b8 c.1.2.2.1.length
def L2:bo where args:=[.list LifeT,I];out:=.data [.bool];pre:=fun(x:List bz×Int×Unit)=>0<=x.2.1;fn:=fun(x:List bz×Int×Unit)=>(nw x.1 x.2.1,())
def W2:bo where args:=[jv,.list LifeT,.list .bool,I];out:=.data [.bool];pre:=fun(x:aQ×List bz×List Bool×Int×Unit)=>0<=x.2.2.2.1/\x.2.2.2.1<(x.1.1.2.2.1.length:Int);fn:=fun(x:aQ×List bz×List Bool×Int×Unit)=>(lP x.1 x.2.1 x.2.2.1 x.2.2.2.1,())
def c17:bo where args:=[jv,.list LifeT,.list .bool];out:=.row 3 I;pre:=fun(x:aQ×List bz×List Bool×Unit)=>x.1.1.2.2.1.length<=1000;fn:=fun(x:aQ×List bz×List Bool×Unit)=>(jQ x.1 x.2.1 x.2.2.1,())
def Bz:bo where args:=[jv,.list LifeT,.list .bool];out:=.fresh [.list I];pre:=fun(x:aQ×List bz×List Bool×Unit)=>x.1.1.2.2.1.length<=1000;fn:=fun(x:aQ×List bz×List Bool×Unit)=>(jQ x.1 x.2.1 x.2.2.1,())
def c18:bo where args:=[jv,.list LifeT,.list .bool];out:=.row 3 I;pre:=fun(x:aQ×List bz×List Bool×Unit)=>x.1.1.2.2.1.length<=1000;fn:=fun(x:aQ×List bz×List Bool×Unit)=>(jQ x.1 x.2.1 x.2.2.1,())
def UR:bo where args:=[jv,.list LifeT,.list .bool];out:=.fresh [.list I];pre:=fun(x:aQ×List bz×List Bool×Unit)=>x.1.1.2.2.1.length<=1000;fn:=fun(x:aQ×List bz×List Bool×Unit)=>(jQ x.1 x.2.1 x.2.2.1,())
def a61(x:aQ×List bz×List Bool×Int×Unit):eS:=bn [(4,fun S=>{σ:=Nat,ok:=fun k=>k<=x.1.2.length/\cr (oF x.1 x.2.1 x.2.2.2.1) k=false,mu:=fun k=>x.1.2.length-k,sl:=fun k=>[(56,.one (.aC I (k:Int))),(10,.one (.aC .bool (Bc x.1 x.2.1 x.2.2.1 x.2.2.2.1 k)))],bl:=fun _=>[],keep:=[1,2,3,4,9,54,55],cU:=[4]})]
def a17(x:aQ×List bz×List Bool×Unit):eS:=bn [(3,fun S=>{σ:=Nat,ok:=fun k=>k<=x.1.1.2.2.1.length,mu:=fun k=>x.1.1.2.2.1.length-k,sl:=fun k=>[(16,.one (.aC I (k:Int))),(7,.one (.row I 1000))],bl:=fun k=>[(1000,.row false 3 I (fT x.1 x.2.1 x.2.2.1 k))],keep:=[1,2,3,14,15],cU:=[3]}),(7,fun S=>{σ:=Nat,ok:=fun k=>k<=x.1.2.length/\cr (kz x.1 (eB S 8)) k=false,mu:=fun k=>x.1.2.length-k,sl:=fun k=>[(35,.one (.aC I (k:Int)))],bl:=fun k=>[],keep:=[1,2,3,7,8,14,15,16,33,34],cU:=[3,1000]})]
def k6(c:aQ)(s:Int)(k:Nat):Int:=oj (dU (kz c s) k)
def a18(x:aQ×List bz×List Bool×Unit):eS:=bn [(3,fun S=>{σ:=Nat,ok:=fun k=>k<=x.1.1.2.2.1.length,mu:=fun k=>x.1.1.2.2.1.length-k,sl:=fun k=>[(8,.one (.aC I (k:Int))),(7,.one (.row I 1000))],bl:=fun k=>[(1000,.row false 3 I (fT x.1 x.2.1 x.2.2.1 k))],keep:=[1,2,3],cU:=[3]}),(8,fun S=>{σ:=Nat,ok:=fun k=>k<=x.1.2.length,mu:=fun k=>x.1.2.length-k,sl:=fun k=>[(9,.one (.aC I (k6 x.1 (eB S 8) k))),(10,.one (.aC .bool (cr (oF x.1 x.2.1 (eB S 8)) k))),(11,.one (.aC .bool (cr (wH x.1 x.2.1 (eB S 8)) k))),(12,.one (.aC I (k:Int)))],bl:=fun k=>[],keep:=[1,2,3,7,8],cU:=[3,1000]})] [109]
structure vy (W:fv):Prop where
 inv:mP W
 own:c9 W.1.1=(W.1,0)
 short:c8 W.1.1
def pf(W:fv)(inn:fK)(calls:List Int):List Int:=calls++jQ W.1 W.2.1 inn.1
def H2(W:jG)(inn:fK)(calls:List Int):List Int:=calls++jQ W.1 W.2.1 inn.1
def yd(o:xv×Int)(n:Nat):xv×Int:=bif o.2==0 then((o.1.1,o.1.2.1,o.1.2.2.take n),0)else(([],[],[]),o.2)
@[irreducible]def o0(W:fv)(inn:fK)(calls aH:List Int):fv×xv×Int:=((kA W inn (pf W inn calls) aH).1,yd (kA W inn (pf W inn calls) aH).2 calls.length)
@[irreducible]def acx(W:jG)(inn:fK)(calls aH:List Int):jG×xv×Int:=((UC W inn (H2 W inn calls) aH).1,yd (UC W inn (H2 W inn calls) aH).2 calls.length)
def DS(W:fv)(calls aH:List Int):Prop:=vy W/\calls.length<=900/\aH.length<=1000
def W6:eG where args:=[D8,.aC Kl,.aC (.list I),.aC (.list I)];outs:=[.aC (.pair (.list I) (.pair (.list I) (.list I))),.aC I];pre:=fun(x:fv×fK×List Int×List Int×Unit)=>DS x.1 x.2.2.1 x.2.2.2.1;fn:=fun(x:fv×fK×List Int×List Int×Unit)=>((o0 x.1 x.2.1 x.2.2.1 x.2.2.2.1).2.1,(o0 x.1 x.2.1 x.2.2.1 x.2.2.2.1).2.2,());hU:=fun(x:fv×fK×List Int×List Int×Unit)=>((o0 x.1 x.2.1 x.2.2.1 x.2.2.2.1).1,x.2)
theorem Qk(c:aQ)(s:Int):(sS c s).length<=1:=by unfold sS;cases dU (kz c s) c.2.length<;>simp
theorem Te{c:aQ}{s:Int}{k:Nat}(hk:k<c.2.length)(h0:cr (kz c s) k=false)(h1:kz c s k=true):sS c s=[(k:Int)]:=by unfold sS;rw[qH hk h0 h1];rfl
theorem Td{c:aQ}{s:Int}(h0:cr (kz c s) c.2.length=false):sS c s=[]:=by unfold sS;cases h:dU (kz c s) c.2.length with|none=>rfl|some k=>unfold dU at h;rw[List.find?_range_eq_some]at h;have:=jb.1 h0 k (List.mem_range.1 h.2.1);rw[h.1]at this;cases this
theorem QC(c:aQ)(ls:List bz)(b8:List Bool)(s:Nat):(rK c ls b8 s).length<=1:=by unfold rK;cases(c.1.2.2.1.getD s zS).2.2&&lP c ls b8 (s:Int);exact c7 _;exact Qk _ _
theorem wb(c:aQ)(ls:List bz)(b8:List Bool):∀k,(fT c ls b8 k).length<=k|0=>aT _|k+1=>by have h1:=wb c ls b8 k;have h2:=QC c ls b8 k;show(fT c ls b8 k++rK c ls b8 k).length<=_;rw[cZ];omega
theorem NU(c:aQ)(ls:List bz)(b8:List Bool):(jQ c ls b8).length<=c.1.2.2.1.length:=by unfold jQ;exact wb _ _ _ _
structure ahE (c:aQ) (ls:List bz) (b8:List Bool) (s:Nat) (x:Int):Prop where
 here:0<=x/\x<(c.2.length:Int)
 from_:(aE c x).1=(s:Int)
 bare:(aE c x).2.2.2.2.2.2.2.2=false
 auto:(c.1.2.2.1.getD s zS).2.2=true
 first:∀j:Nat,(j:Int)<x->kz c (s:Int) j=false
 am3:lP c ls b8 (s:Int)=true
section
variable {p:ab} {W:fv} {V:jG}
theorem vy.calls(h:vy W)(inn:fK){calls:List Int}(hc:calls.length<=900):(pf W inn calls).length<=1000:=by have:=h.inv.Dm.sigs;have:=NU W.1 W.2.1 inn.1;unfold pf;rw[cZ];omega
theorem X8(h:vy W)(inn:fK)(calls aH:List Int):vy (o0 W inn calls aH).1:=by unfold o0;have hc:=OL W inn (pf W inn calls) aH;refine⟨W9 h.inv _ _ _,?_,?_⟩;show c9 (kA _ _ _ _).1.1.1=((kA _ _ _ _).1.1,0);rw[hc];exact h.own;show c8 (kA _ _ _ _).1.1.1;rw[hc];exact h.short
theorem DX(c:aQ)(inn:fK)(l:List Int)(s:wP):∀k,(rJ c inn l s k).2.2.2.length=s.2.2.2.length+k|0=>rfl|k+1=>by have ih:=DX c inn l s k;show(my c inn (rJ c inn l s k) (l.getD k 0)).2.2.2.length=_;unfold my;split<;>simp[ih]<;>omega
theorem JV(W:fv)(inn:fK)(calls aH:List Int):((kA W inn calls aH).2.2=0/\(kA W inn calls aH).2.1.2.2.length=calls.length)\/((kA W inn calls aH).2.2=1/\(kA W inn calls aH).2.1=([],[],[])):=by unfold kA;split;refine .inl ⟨rfl,?_⟩;exact(DX _ _ _ _ _).trans (by simp);exact .inr ⟨rfl,rfl⟩
end
def acO(p:ab)(W:fv)(a:vz):fv:=(o0 W (qa p a) a.2.2.2.2.1 a.2.2.2.2.2).1
def acZ(p:ab)(l:List vz):Nat->fv|0=>Gq (gl p)|k+1=>acO p (acZ p l k) (l.getD k Xs)
def acN(p:ab)(V:jG)(a:vz):jG:=(acx V (qa p a) a.2.2.2.2.1 a.2.2.2.2.2).1
def acY(p:ab)(l:List vz):Nat->jG|0=>RR (gl p)|k+1=>acN p (acY p l k) (l.getD k Xs)
theorem Q7{p:ab}(hR:(dC p).2=true):vy (Gq (gl p))where inv:=W8 hR;own:=Jp hR;short:=(wZ hR).short
def H7(l:List gz):Nat->List gz|0=>l|k+1=>(H7 l k).set k (((H7 l k).getD k zS).1,((H7 l k).getD k zS).2.1,false)
def ada(p:ab):ab:=(p.1,p.2.1,H7 p.2.2.1 p.2.2.1.length,p.2.2.2)
abbrev ahi:eE:=.pair (.aC (.list Aa)) (.pair (.aC (.list z8)) (.pair (.row 44 rN) (.aC (.pair (.list wO) (.pair I (.pair I (.pair I (.pair I .bool))))))))
def QG:eG where args:=[];outs:=[ahi];pre:=fun(x:Unit)=>True;fn:=fun(x:Unit)=>(Cy,())
def W7:bo where args:=[];out:=.data [.bool];pre:=fun(x:Unit)=>True;fn:=fun(x:Unit)=>(true,())
def c3:bo:=Uf [PlanT,.list LifeT,.list .bool]
def a4(x:ab×List vz×Unit):eS:=bn [(6,fun S=>{σ:=Nat,ok:=fun k=>k<=x.1.2.2.1.length,mu:=fun k=>x.1.2.2.1.length-k,sl:=fun k=>[(6,.one (.aC I (k:Int)))],bl:=fun k=>[(5,DN S 5 [(2,.row rN 1000)]),(1000,.row false 44 rN (H7 x.1.2.2.1 k))],keep:=[1,2,5],cU:=[2]}),(16,fun S=>{σ:=Nat,ok:=fun k=>k<=x.2.1.length,mu:=fun k=>x.2.1.length-k,sl:=fun k=>[(11,.one (.aC I (k:Int))),(7,.one (.ptr 2000 0)),(9,.one (.ptr 3000 0))],bl:=fun k=>Og (XR (ada x.1) x.2.1 k) 2000++Og (XR (ada x.1) x.2.1 k) 3000,keep:=[1,5],cU:=[5,1000]})]
def abH(c:aQ)(out:List Int):Nat->Int|0=>-1|k+1=>(aE c (out.getD k 0)).1
def RY(x:ab×List bz×List Bool×Unit):List Int:=jQ (gl x.1) x.2.1 x.2.2.1
def a5(x:ab×List bz×List Bool×Unit):eS:=bn [(9,fun S=>{σ:=Nat,ok:=fun k=>k<=(RY x).length,mu:=fun k=>(RY x).length-k,sl:=fun k=>[(11,.one (.aC I (k:Int))),(10,.one (.aC I (abH (gl x.1) (RY x) k)))],bl:=fun k=>[],keep:=[1,3,7,9],cU:=[3]}),(17,fun S=>{σ:=Nat,ok:=fun k=>k<=(dC x.1).1.length,mu:=fun k=>(dC x.1).1.length-k,sl:=fun k=>[(13,.one (.aC I (k:Int)))],bl:=fun k=>[],keep:=[1,3,7,9,11,12],cU:=[3]})]
def runK(x:ab×Int×Unit):Int:=x.2.1.tmod ((dC x.1).1.length:Int)
def a6(x:ab×Int×Unit):eS:=bn [(17,fun S=>{σ:=Nat,ok:=fun k=>k<=(dC x.1).1.length,mu:=fun k=>(dC x.1).1.length-k,sl:=fun k=>[(13,.one (.aC I (k:Int))),(12,.one (.aC I (k6 (gl x.1) (aE (gl x.1) (runK x)).2.1 k)))],bl:=fun k=>[],keep:=[5,7,11],cU:=[]})]
def Z5(p:ab)(l:List vz)(k:Nat):List (Nat×dk):=Og (acZ p l k) 2000++Z3 (acY p l k) 3000
def a7(x:ab×List vz×Unit):eS:=bn [(9,fun S=>{σ:=Nat,ok:=fun k=>k<=x.2.1.length,mu:=fun k=>x.2.1.length-k,sl:=fun k=>[(7,.one (.aC I (k:Int))),(5,.one (.ptr 2000 0)),(6,.one (.ptr 3000 0))],bl:=fun k=>Z5 x.1 x.2.1 k,keep:=[1,2],cU:=[2]})]
theorem ai6(ls:List (Int×Int×Bool×List Bool))(i:Int):aq (ao aJ []) Tryz.f114 L2 ay (ls,i,())=( U (decide (i<(ls.length:Int))) fun(y2:Bool)=>(y2=true->aW i ls.length)/\(bif y2 then(ls.getD i.toNat ((0:Int),(0:Int),false,[])).1!=(0:Int)else false)=nw ls i/\True):=by kernel_rfl
theorem amx(ls:List bz)(i:Int)(h0:0<=i):aq (ao aJ []) Tryz.f114 L2 ay (ls,i,()):=by rw[ai6];refine U.mk fun y2 e2=>⟨fun h=>⟨h0,ai (e2.symm.trans h)⟩,?_,trivial⟩;unfold nw rE;have h1:decide (i<0)=false:=cY (by omega);rw[e2,h1,Bool.false_or];by_cases h:i<(ls.length:Int);rw[decide_eq_true h,cY (by omega:¬((ls.length:Int)<=i))];rfl;rw[cY h,decide_eq_true (by omega:(ls.length:Int)<=i)];rfl
theorem afA:aO Tryz.prog 114 L2:=aO.cE (l:=[]) (A:=fun _=>ay) aL trivial Tryz.func114 (by rfl) (by rfl) fun x hw hp=>amx x.1 x.2.1 hp
theorem X6(p:ab)(b8:List Bool)(e:Int):tE p b8 e=bif(bif(bif decide (e>=0)then decide (e<(b8.length:Int))else false)then b8.getD e.toNat false else false)then(bif decide (e>=(p.1.length:Int))then true else(p.1.getD e.toNat ([],0,0)).2.1!=4)else false:=by unfold tE ri bh;by_cases h0:0<=e;rw[decide_eq_true h0,cY (by omega:¬e<0)];by_cases h1:e<(b8.length:Int);rw[decide_eq_true h1];cases b8.getD e.toNat false;simp;by_cases h2:e>=(p.1.length:Int);rw[decide_eq_true h2];simp;rw[cY h2];show(!((p.1.getD e.toNat zE).2.1==4)&&true)=((p.1.getD e.toNat zE).2.1!=4);rw[Bool.and_true];rfl;rw[cY h1];simp;rw[cY h0];simp
theorem v61(c:(ab)×List (ah))(ls:List (Int×Int×Bool×List Bool))(b8:List Bool)(s:Int):aq (ao aJ [(114,L2)]) Tryz.f61 W2 (a61 (c,ls,b8,s,())) (c,ls,b8,s,())=( U (c.1.2.2.1.getD s.toNat ([],((0:Int),(0:Int)),false)).2.1.1 fun(y4:Int)=>U (bif decide (y4>=(0:Int))then decide (y4<(b8.length:Int))else false) fun(y5:Bool)=>U (bif y5 then b8.getD y4.toNat false else false) fun(y6:Bool)=>U (decide (y4>=(c.1.1.length:Int))) fun(y7:Bool)=>U ((0:Int),(0:Int),(0:Int),[],[],[],[],[],false) fun(y8:ah)=>aW s c.1.2.2.1.length/\(y5=true->aW y4 b8.length)/\(y6=true->y7=false->aW y4 c.1.1.length)/\(∃(wu:Nat),(wu<=c.2.length/\cr (oF c ls s) wu=false)/\(wu:Int)=(0:Int)/\(Bc c ls b8 s wu=bif y6 then bif y7 then true else(c.1.1.getD y4.toNat ([],(0:Int),(0:Int))).2.1!=(4:Int)else false)/\ls=ls/\b8=b8/\s=s/\y4=y4/\c.2=c.2/\(c.2.length:Int)=(c.2.length:Int)/\aG c.1 (c.2=c.2/\True))/\∀(s9:Nat),U (decide ((s9:Int)<(c.2.length:Int))) fun(bL:Bool)=>U (Bc c ls b8 s s9) fun(bN:Bool)=>U (c.2.getD (s9:Int).toNat y8) fun(bw:ah)=>s9<=c.2.length/\cr (oF c ls s) s9=false->(bL=true->aW (s9:Int) c.2.length/\(0:Int)<=(s9:Int)/\((!nw ls (s9:Int))=true->bD IntKind.i64 ((s9:Int)+(1:Int))/\∃(fg:Nat),(fg<=c.2.length/\cr (oF c ls s) fg=false)/\c.2.length-fg<c.2.length-s9/\(fg:Int)=(s9:Int)+(1:Int)/\Bc c ls b8 s fg=bN/\ls=ls/\b8=b8/\s=s/\y4=y4/\c.2=c.2/\(c.2.length:Int)=(c.2.length:Int)/\aG c.1 (c.2=c.2/\True))/\((!nw ls (s9:Int))=false->((bw.1==s)=true->false=lP c ls b8 s/\True)/\((bw.1==s)=false->bD IntKind.i64 ((s9:Int)+(1:Int))/\∃(fg:Nat),(fg<=c.2.length/\cr (oF c ls s) fg=false)/\c.2.length-fg<c.2.length-s9/\(fg:Int)=(s9:Int)+(1:Int)/\(Bc c ls b8 s fg=bif bN then true else bif bw.2.2.1==(1:Int)then bw.2.1==s else false)/\ls=ls/\b8=b8/\s=s/\y4=y4/\c.2=c.2/\(c.2.length:Int)=(c.2.length:Int)/\aG c.1 (c.2=c.2/\True))))/\(bL=false->bN=lP c ls b8 s/\True)):=by kernel_rfl
theorem b61(c:aQ)(ls:List bz)(b8:List Bool)(s:Int)(hs:0<=s/\s<(c.1.2.2.1.length:Int))(hl:c.2.length<=br):aq (ao aJ [(114,L2)]) Tryz.f61 W2 (a61 (c,ls,b8,s,())) (c,ls,b8,s,()):=by
 rw[v61];simp only[dX,az,au,bx];refine U.mk fun y4 e4=>U.mk fun y5 e5=>U.mk fun y6 e6=>U.mk fun y7 e7=>U.mk fun y8 e8=>⟨hs,fun h=>?_,fun h h'=>?_,⟨0,⟨c7 _,rfl⟩,rfl,?_⟩,fun k=>U.mk fun bL fl=>U.mk fun bN gg=>U.mk fun bw gb=>?_⟩;obtain⟨q1,q2⟩:=vw (e5.symm.trans h);exact⟨ai q1,ai q2⟩;have:=av (e7.symm.trans h');obtain⟨q1,q2⟩:=vw (e5.symm.trans (vw (e6.symm.trans h)).1);have:=ai q1;exact⟨this,by omega⟩;unfold Bc;rw[X6,e6,e5,e7,e4];show(_||false)=_;rw[Bool.or_false];rfl;rw[ak]at gb;rintro⟨hk,hn⟩;have hb:oF c ls s k=((bw.1==s)&&nw ls (k:Int)):=by rw[gb,e8];rfl
 have hd:wH c ls s k=(bw.2.2.1==1&&(bw.2.1==s&&nw ls (k:Int))):=by rw[gb,e8];rfl
 have hup:Bc c ls b8 s (k+1)=(bN||wH c ls s k):=by rw[gg];unfold Bc;show(_||(_||_))=_;rw[Bool.or_assoc]
 refine⟨fun h=>?_,fun h=>?_⟩;have iN:k<c.2.length:=by have:=ai (fl.symm.trans h);omega
 refine⟨⟨by omega,by omega⟩,by omega,fun ha=>?_,fun ha=>⟨fun hf=>?_,fun hf=>?_⟩⟩;have ha:nw ls (k:Int)=false:=by simpa using ha
 refine⟨dB (by omega) hl,k+1,⟨by omega,gX hn (by rw[hb,ha,Bool.and_false])⟩,by omega,by omega,?_⟩;rw[hup,hd,ha];simp;have ha:nw ls (k:Int)=true:=by simpa using ha
 unfold lP;rw[mV iN (by rw[hb,hf,ha];rfl)];rfl;have ha:nw ls (k:Int)=true:=by simpa using ha
 refine⟨dB (by omega) hl,k+1,⟨by omega,gX hn (by rw[hb,hf];rfl)⟩,by omega,by omega,?_⟩;rw[hup,hd,ha,Bool.and_true];cases bN<;>cases(bw.2.2.1==1)<;>rfl;have hge:k=c.2.length:=by have:=av (fl.symm.trans h);omega
 unfold lP;rw[<-hge,hn,gg];rfl
theorem ajC:aO Tryz.prog 61 W2:=aO.cE (l:=[(114,L2)]) (A:=a61) aL ⟨afA,trivial⟩ Tryz.func61 (by rfl) (by rfl) fun x hw hp=>b61 x.1 x.2.1 x.2.2.1 x.2.2.2.1 hp hw.1.2.1
theorem Jr{c:aQ}{ls:List bz}{b8:List Bool}{s:Nat}(h:((c.1.2.2.1.getD s zS).2.2&&lP c ls b8 (s:Int))=false):rK c ls b8 s=[]:=by unfold rK;rw[h];rfl
theorem Gi{c:aQ}{ls:List bz}{b8:List Bool}{s:Nat}(h:((c.1.2.2.1.getD s zS).2.2&&lP c ls b8 (s:Int))=true):rK c ls b8 s=sS c (s:Int):=by unfold rK;rw[h];rfl
theorem py(c:aQ)(ls:List bz)(b8:List Bool)(s:Nat):fT c ls b8 (s+1)=fT c ls b8 s++rK c ls b8 s:=rfl
theorem v17(c:(ab)×List (ah))(ls:List (Int×Int×Bool×List Bool))(b8:List Bool):aq (ao aJ [(61,W2)]) Tryz.f17 c17 (a17 (c,ls,b8,())) (c,ls,b8,())=((∃(fZ:Nat),fZ<=c.1.2.2.1.length/\(fZ:Int)=(0:Int)/\ls=ls/\b8=b8/\c.1.2.2.1=c.1.2.2.1/\(c.1.2.2.1.length:Int)=(c.1.2.2.1.length:Int)/\fT c ls b8 fZ=[]/\aG c.1 (c.2=c.2/\True))/\∀(s3:Nat),U (decide ((s3:Int)<(c.1.2.2.1.length:Int))) fun(y4:Bool)=>U (!(c.1.2.2.1.getD (s3:Int).toNat ([],((0:Int),(0:Int)),false)).2.2) fun(y5:Bool)=>U (bif y5 then true else !lP c ls b8 (s3:Int)) fun(y6:Bool)=>s3<=c.1.2.2.1.length->(y4=true->aW (s3:Int) c.1.2.2.1.length/\(y5=false->(0:Int)<=(s3:Int)/\(s3:Int)<(c.1.2.2.1.length:Int))/\(y6=true->bD IntKind.i64 ((s3:Int)+(1:Int))/\∃(ld:Nat),ld<=c.1.2.2.1.length/\c.1.2.2.1.length-ld<c.1.2.2.1.length-s3/\(ld:Int)=(s3:Int)+(1:Int)/\ls=ls/\b8=b8/\c.1.2.2.1=c.1.2.2.1/\(c.1.2.2.1.length:Int)=(c.1.2.2.1.length:Int)/\fT c ls b8 ld=fT c ls b8 s3/\aG c.1 (c.2=c.2/\True))/\(y6=false->(∃(jD:Nat),(jD<=c.2.length/\cr (kz c (s3:Int)) jD=false)/\(jD:Int)=(0:Int)/\ls=ls/\b8=b8/\(s3:Int)=(s3:Int)/\c.1.2.2.1=c.1.2.2.1/\(c.1.2.2.1.length:Int)=(c.1.2.2.1.length:Int)/\(s3:Int)=(s3:Int)/\c.2=c.2/\(c.2.length:Int)=(c.2.length:Int)/\aG c.1 (c.2=c.2/\fT c ls b8 s3=fT c ls b8 s3/\True))/\∀(s7:Nat),U (decide ((s7:Int)<(c.2.length:Int))) fun(y8:Bool)=>U (c.2.getD (s7:Int).toNat ((0:Int),(0:Int),(0:Int),[],[],[],[],[],false)) fun(y9:ah)=>U (bif y9.1==(s3:Int)then !y9.2.2.2.2.2.2.2.2 else false) fun(bL:Bool)=>U ((List.replicate (1:Nat) (0:Int)).set (0:Nat) (s7:Int)) fun(bN:List Int)=>s7<=c.2.length/\cr (kz c (s3:Int)) s7=false->(y8=true->aW (s7:Int) c.2.length/\(bL=true->roomFor ((fT c ls b8 s3).length+bN.length) (8:Nat)/\bD IntKind.i64 ((s3:Int)+(1:Int))/\∃(iW:Nat),iW<=c.1.2.2.1.length/\c.1.2.2.1.length-iW<c.1.2.2.1.length-s3/\(iW:Int)=(s3:Int)+(1:Int)/\ls=ls/\b8=b8/\c.1.2.2.1=c.1.2.2.1/\(c.1.2.2.1.length:Int)=(c.1.2.2.1.length:Int)/\fT c ls b8 iW=fT c ls b8 s3++bN/\aG c.1 (c.2=c.2/\True))/\(bL=false->bD IntKind.i64 ((s7:Int)+(1:Int))/\∃(iW:Nat),(iW<=c.2.length/\cr (kz c (s3:Int)) iW=false)/\c.2.length-iW<c.2.length-s7/\(iW:Int)=(s7:Int)+(1:Int)/\ls=ls/\b8=b8/\(s3:Int)=(s3:Int)/\c.1.2.2.1=c.1.2.2.1/\(c.1.2.2.1.length:Int)=(c.1.2.2.1.length:Int)/\(s3:Int)=(s3:Int)/\c.2=c.2/\(c.2.length:Int)=(c.2.length:Int)/\aG c.1 (c.2=c.2/\fT c ls b8 s3=fT c ls b8 s3/\True)))/\(y8=false->bD IntKind.i64 ((s3:Int)+(1:Int))/\∃(iW:Nat),iW<=c.1.2.2.1.length/\c.1.2.2.1.length-iW<c.1.2.2.1.length-s3/\(iW:Int)=(s3:Int)+(1:Int)/\ls=ls/\b8=b8/\c.1.2.2.1=c.1.2.2.1/\(c.1.2.2.1.length:Int)=(c.1.2.2.1.length:Int)/\fT c ls b8 iW=fT c ls b8 s3/\aG c.1 (c.2=c.2/\True))))/\(y4=false->fT c ls b8 s3=jQ c ls b8/\True)):=by kernel_rfl
theorem b17(c:aQ)(ls:List bz)(b8:List Bool)(hs:c.1.2.2.1.length<=1000)(hl:c.2.length<=br):aq (ao aJ [(61,W2)]) Tryz.f17 c17 (a17 (c,ls,b8,())) (c,ls,b8,()):=by
 rw[v17];simp only[dX,az,au,bx];refine⟨⟨0,c7 _,rfl,rfl⟩,fun s=>U.mk fun y4 e4=>U.mk fun y5 e5=>U.mk fun y6 e6=>fun hk=>⟨fun h=>?_,fun h=>?_⟩⟩;have iN:s<c.1.2.2.1.length:=by have:=ai (e4.symm.trans h);omega
 rw[ak]at e5;have P4:(c.1.2.2.1.getD s zS).2.2=!y5:=by rw[e5,ji];rfl
 have po:=wb c ls b8 s;refine⟨⟨by omega,by omega⟩,fun _=>⟨by omega,by omega⟩,fun h6=>?_,fun h6=>⟨⟨0,⟨c7 _,rfl⟩,rfl⟩,fun k=>U.mk fun y8 e8=>U.mk fun y9 e9=>U.mk fun bL fl=>U.mk fun bN gg=>?_⟩⟩;refine⟨bB (by omega) (by omega),s+1,by omega,by omega,by omega,?_⟩;rw[py,Jr (by rw[P4];have h7:=e6.symm.trans h6;clear e5 e6 P4;generalize lP c ls b8 (s:Int)=w at h7⊢;revert h7;cases y5<;>cases w<;>decide),List.append_nil];have hY:((c.1.2.2.1.getD s zS).2.2&&lP c ls b8 (s:Int))=true:=by rw[P4];have h7:=e6.symm.trans h6;clear e5 e6 P4;generalize lP c ls b8 (s:Int)=w at h7⊢;revert h7;cases y5<;>cases w<;>decide
 rw[ak]at e9;rintro⟨hk,hn⟩;have hfa:kz c (s:Int) k=bL:=by have h9:c.2.getD k zR=y9:=e9.symm;unfold kz;rw[fl,h9];cases(y9.1==(s:Int))<;>rfl
 refine⟨fun h8=>?_,fun h8=>?_⟩;have PZ:k<c.2.length:=by have:=ai (e8.symm.trans h8);omega
 refine⟨⟨by omega,by omega⟩,fun pX=>⟨dq (by rw[gg];show _+1<=_;omega) (by omega),bB (by omega) (by omega),s+1,by omega,by omega,by omega,?_⟩,fun pX=>⟨dB (by omega) hl,k+1,⟨by omega,gX hn (hfa.trans pX)⟩,by omega,by omega⟩⟩;rw[py,Gi hY,Te PZ hn (hfa.trans pX),gg];rfl;have PZ:k=c.2.length:=by have:=av (e8.symm.trans h8);omega
 refine⟨bB (by omega) (by omega),s+1,by omega,by omega,by omega,?_⟩;rw[py,Gi hY,Td (by rw[<-PZ];exact hn),List.append_nil];have:s=c.1.2.2.1.length:=by have:=av (e4.symm.trans h);omega
 unfold jQ;rw[this]
theorem ajO:aO Tryz.prog 17 c17:=aO.cE (l:=[(61,W2)]) (A:=a17) aL ⟨ajC,trivial⟩ Tryz.func17 (by rfl) (by rfl) fun x hw hp=>b17 x.1 x.2.1 x.2.2.1 hp hw.1.2.1
theorem Sb:aO Tryz.prog 17 Bz:=ajO.DV rfl
theorem Qj(f:Nat->Bool)(k:Nat):oj (dU f (k+1))=bif decide (oj (dU f k)<0)&&f k then(k:Int)else oj (dU f k):=by unfold dU;rw[gC,List.find?_append];cases h:(List.range k).find? f with|some i=>show(i:Int)=bif decide ((i:Int)<0)&&f k then(k:Int)else(i:Int);rw[cY (by omega:¬(i:Int)<0)];rfl|none=>show oj (List.find? f [k])=bif decide ((-1:Int)<0)&&f k then(k:Int)else-1;cases hf:f k<;>simp[hf,oj]
theorem Tc(c:aQ)(s:Int):sS c s=bif decide (k6 c s c.2.length>=0)then[k6 c s c.2.length]else[]:=by unfold sS k6;cases dU (kz c s) c.2.length with|none=>rfl|some i=>show[(i:Int)]=bif decide ((i:Int)>=0)then[(i:Int)]else[];rw[decide_eq_true (by omega:(i:Int)>=0)];rfl
theorem v18(c:(ab)×List (ah))(ls:List (Int×Int×Bool×List Bool))(b8:List Bool):aq (ao aJ [(62,QF),(63,QE)]) Tryz.f18 c18 (a18 (c,ls,b8,())) (c,ls,b8,())=( U ([],((0:Int),(0:Int)),false) fun(y3:List UInt8×(Int×Int)×Bool)=>(∃(tQ:Nat),tQ<=c.1.2.2.1.length/\(tQ:Int)=(0:Int)/\ls=ls/\b8=b8/\fT c ls b8 tQ=[]/\aG c.1 (c.2=c.2/\True))/\∀(s4:Nat),U (decide ((s4:Int)<(c.1.2.2.1.length:Int))) fun(y5:Bool)=>U (c.1.2.2.1.getD (s4:Int).toNat y3).2 fun(y6:(Int×Int)×Bool)=>s4<=c.1.2.2.1.length->(y5=true->aW (s4:Int) c.1.2.2.1.length/\((!y6.2)=true->bD IntKind.i64 ((s4:Int)+(1:Int))/\∃(ld:Nat),ld<=c.1.2.2.1.length/\c.1.2.2.1.length-ld<c.1.2.2.1.length-s4/\(ld:Int)=(s4:Int)+(1:Int)/\ls=ls/\b8=b8/\fT c ls b8 ld=fT c ls b8 s4/\aG c.1 (c.2=c.2/\True))/\((!y6.2)=false->(∃(jD:Nat),jD<=c.2.length/\k6 c (s4:Int) jD=(-1:Int)/\cr (oF c ls (s4:Int)) jD=false/\cr (wH c ls (s4:Int)) jD=false/\(jD:Int)=(0:Int)/\ls=ls/\b8=b8/\(s4:Int)=(s4:Int)/\aG c.1 (c.2=c.2/\fT c ls b8 s4=fT c ls b8 s4/\True))/\∀(s7:Nat),U (decide ((s7:Int)<(c.2.length:Int))) fun(y8:Bool)=>U (cr (oF c ls (s4:Int)) s7) fun(y9:Bool)=>U (c.2.getD (s7:Int).toNat ((0:Int),(0:Int),(0:Int),[],[],[],[],[],false)) fun(bL:ah)=>U (cr (wH c ls (s4:Int)) s7) fun(bN:Bool)=>U (bif bL.2.2.1==(1:Int)then bL.2.1==(s4:Int)else false) fun(bw:Bool)=>U (rE ls (s7:Int)!=(0:Int)) fun(cD:Bool)=>U (bif decide (k6 c (s4:Int) s7>=(0:Int))then !y9 else false) fun(dy:Bool)=>U (bif dy then bif bN then true else tE c.1 b8 y6.1.1 else false) fun(bQ:Bool)=>U ((List.replicate (1:Nat) (0:Int)).set (0:Nat) (k6 c (s4:Int) s7)) fun(dt:List Int)=>s7<=c.2.length->(y8=true->aW (s7:Int) c.2.length/\(y9=false->(bL.1==(s4:Int))=true->True)/\(bN=false->bw=true->True)/\bD IntKind.i64 ((s7:Int)+(1:Int))/\∃(lG:Nat),lG<=c.2.length/\c.2.length-lG<c.2.length-s7/\(k6 c (s4:Int) lG=bif bif bif bL.1==(s4:Int)then decide (k6 c (s4:Int) s7<(0:Int))else false then !bL.2.2.2.2.2.2.2.2 else false then(s7:Int)else k6 c (s4:Int) s7)/\(cr (oF c ls (s4:Int)) lG=bif y9 then true else bif bL.1==(s4:Int)then cD else false)/\(cr (wH c ls (s4:Int)) lG=bif bN then true else bif bw then cD else false)/\(lG:Int)=(s7:Int)+(1:Int)/\ls=ls/\b8=b8/\(s4:Int)=(s4:Int)/\aG c.1 (c.2=c.2/\fT c ls b8 s4=fT c ls b8 s4/\True))/\(y8=false->(dy=true->bN=false->aW (s4:Int) c.1.2.2.1.length)/\(dy=true->bN=false->True)/\(bQ=true->roomFor ((fT c ls b8 s4).length+dt.length) (8:Nat)/\bD IntKind.i64 ((s4:Int)+(1:Int))/\∃(lG:Nat),lG<=c.1.2.2.1.length/\c.1.2.2.1.length-lG<c.1.2.2.1.length-s4/\(lG:Int)=(s4:Int)+(1:Int)/\ls=ls/\b8=b8/\fT c ls b8 lG=fT c ls b8 s4++dt/\aG c.1 (c.2=c.2/\True))/\(bQ=false->bD IntKind.i64 ((s4:Int)+(1:Int))/\∃(lG:Nat),lG<=c.1.2.2.1.length/\c.1.2.2.1.length-lG<c.1.2.2.1.length-s4/\(lG:Int)=(s4:Int)+(1:Int)/\ls=ls/\b8=b8/\fT c ls b8 lG=fT c ls b8 s4/\aG c.1 (c.2=c.2/\True)))))/\(y5=false->fT c ls b8 s4=jQ c ls b8/\True)):=by kernel_rfl
theorem b18(c:aQ)(ls:List bz)(b8:List Bool)(hs:c.1.2.2.1.length<=1000)(hl:c.2.length<=br):aq (ao aJ [(62,QF),(63,QE)]) Tryz.f18 c18 (a18 (c,ls,b8,())) (c,ls,b8,()):=by
 rw[v18];simp only[dX,az,au,bx,implies_true];refine U.mk fun y3 e3=>⟨⟨0,c7 _,rfl,rfl⟩,fun s=>U.mk fun y5 e5=>U.mk fun y6 e6=>fun hk=>⟨fun h=>?_,fun h=>?_⟩⟩;have iN:s<c.1.2.2.1.length:=by have:=ai (e5.symm.trans h);omega
 rw[ak]at e6;have P4:(c.1.2.2.1.getD s zS).2=y6:=by rw[e6,e3];rfl
 have po:=wb c ls b8 s;refine⟨⟨by omega,by omega⟩,fun h6=>?_,fun h6=>⟨⟨0,c7 _,rfl,rfl,rfl,rfl⟩,fun k=>U.mk fun y8 e8=>U.mk fun y9 e9=>U.mk fun bL fl=>U.mk fun bN gg=>U.mk fun bw gb=>U.mk fun cD jY=>U.mk fun dy mN=>U.mk fun bQ lB=>U.mk fun dt nH=>fun hk=>⟨fun h8=>?_,fun h8=>?_⟩⟩⟩;refine⟨bB (by omega) (by omega),s+1,by omega,by omega,by omega,?_⟩;rw[py,Jr (by rw[P4];cases h:y6.2<;>simp_all),List.append_nil];have PZ:k<c.2.length:=by have:=ai (e8.symm.trans h8);omega
 rw[ak]at fl;have adu:nw ls (k:Int)=cD:=by rw[jY];rfl
 refine⟨⟨by omega,by omega⟩,dB (by omega) hl,k+1,by omega,by omega,?_,?_,?_,by omega⟩;show oj (dU (kz c (s:Int)) (k+1))=_;rw[Qj];have:kz c (s:Int) k=((bL.1==(s:Int))&&!bL.2.2.2.2.2.2.2.2):=by rw[fl];rfl
 rw[this];show(bif decide (k6 c (s:Int) k<0)&&_ then(k:Int)else k6 c (s:Int) k)=_;cases decide (k6 c (s:Int) k<0)<;>cases(bL.1==(s:Int))<;>cases bL.2.2.2.2.2.2.2.2<;>rfl;show(cr (oF c ls (s:Int)) k||oF c ls (s:Int) k)=_;have:oF c ls (s:Int) k=((bL.1==(s:Int))&&cD):=by rw[<-adu,fl];rfl
 rw[this,<-e9];cases y9<;>cases(bL.1==(s:Int))<;>rfl;show(cr (wH c ls (s:Int)) k||wH c ls (s:Int) k)=_;have:wH c ls (s:Int) k=(bL.2.2.1==1&&(bL.2.1==(s:Int)&&cD)):=by rw[<-adu,fl];rfl
 rw[this,<-gg,gb];cases bN<;>cases(bL.2.2.1==(1:Int))<;>cases(bL.2.1==(s:Int))<;>rfl;have PZ:k=c.2.length:=by have:=av (e8.symm.trans h8);omega
 have akQ:(c.1.2.2.1.getD s zS).2.2=true:=by rw[P4];simpa using h6
 have hY:rK c ls b8 s=bif bQ then[k6 c (s:Int) k]else[]:=by unfold rK lP Bc;rw[akQ,Tc,<-PZ,<-e9,<-gg,lB,mN];(have hb:Oh c.1 (s:Int)=y6.1.1:=by unfold Oh;rw[ak,P4]);rw[hb];cases decide (k6 c (s:Int) k>=0)<;>cases y9<;>cases bN<;>cases tE c.1 b8 y6.1.1<;>rfl
 refine⟨fun _ _=>⟨by omega,by omega⟩,fun Qa=>⟨dq (by rw[nH];show _+1<=_;omega) (by omega),bB (by omega) (by omega),s+1,by omega,by omega,by omega,?_⟩,fun Qa=>⟨bB (by omega) (by omega),s+1,by omega,by omega,by omega,?_⟩⟩;rw[py,hY,Qa,nH];rfl;rw[py,hY,Qa];exact List.append_nil _;have:s=c.1.2.2.1.length:=by have:=av (e5.symm.trans h);omega
 unfold jQ;rw[this]
theorem ajN:aO Tryz.prog 18 c18:=aO.cE (l:=[(62,QF),(63,QE)]) (A:=a18) aL ⟨ajB,ajA,trivial⟩ Tryz.func18 (by rfl) (by rfl) fun x hw hp=>b18 x.1 x.2.1 x.2.2.1 hp hw.1.2.1
theorem aeY:aO Tryz.prog 18 UR:=ajN.DV rfl
theorem acB{o:xv×Int}(h:o.2=0)(n:Nat):yd o n=((o.1.1,o.1.2.1,o.1.2.2.take n),0):=by unfold yd;rw[h];rfl
theorem acC{o:xv×Int}(h:o.2=1)(n:Nat):yd o n=(([],[],[]),1):=by unfold yd;rw[h];rfl
theorem v23(W:((ab)×List (ah))×List (Int×Int×Bool×List Bool)×(aA)×(Option (bp)×List ((Int×Int)×Bool))×List Int)(inn:List Bool×List Int×List Bool×List Bool)(calls:List Int)(aH:List Int):cj (ao aJ [(28,Kg),(27,Jv),(17,Bz),(24,W5)]) Tryz.f23 W6 ay (W,inn,calls,aH,())=( U (jQ (c9 W.1.1).1 W.2.1 inn.1) fun(y4:List Int)=>U (kA W inn (calls++y4) aH) fun(y5:fv×xv×Int)=>U (o0 W inn calls aH).2 fun(y6:xv×Int)=>U (o0 W inn calls aH).1 fun(y7:fv)=>roomFor calls.length (8:Nat)/\c8 W.1.1/\mP W/\(c9 W.1.1).1.1.2.2.1.length<=(1000:Nat)/\roomFor (calls.length+y4.length) (8:Nat)/\Hy W inn (calls++y4) aH/\((y5.2.2!=(0:Int))=true->([],[],[])=y6.1/\y5.2.2=y6.2/\y5.1.1=y7.1/\y5.1.2.1=y7.2.1/\y5.1.2.2.1.1=y7.2.2.1.1/\y5.1.2.2.1.2.1.Perm y7.2.2.1.2.1/\y5.1.2.2.1.2.2.1.Perm y7.2.2.1.2.2.1/\y5.1.2.2.1.2.2.2.1.Perm y7.2.2.1.2.2.2.1/\y5.1.2.2.1.2.2.2.2.Perm y7.2.2.1.2.2.2.2/\y5.1.2.2.2.1.1=y7.2.2.2.1.1/\y5.1.2.2.2.1.2.Perm y7.2.2.2.1.2/\y5.1.2.2.2.2=y7.2.2.2.2/\True)/\((y5.2.2!=(0:Int))=false->((0:Int)<=(calls.length:Int)/\(calls.length:Int)<=(y5.2.1.2.2.length:Int))/\(y5.2.1.1,y5.2.1.2.1,List.take (calls.length:Int).toNat y5.2.1.2.2)=y6.1/\(0:Int)=y6.2/\y5.1.1=y7.1/\y5.1.2.1=y7.2.1/\y5.1.2.2.1.1=y7.2.2.1.1/\y5.1.2.2.1.2.1.Perm y7.2.2.1.2.1/\y5.1.2.2.1.2.2.1.Perm y7.2.2.1.2.2.1/\y5.1.2.2.1.2.2.2.1.Perm y7.2.2.1.2.2.2.1/\y5.1.2.2.1.2.2.2.2.Perm y7.2.2.1.2.2.2.2/\y5.1.2.2.2.1.1=y7.2.2.2.1.1/\y5.1.2.2.2.1.2.Perm y7.2.2.2.1.2/\y5.1.2.2.2.2=y7.2.2.2.2/\True)):=by kernel_rfl
theorem b23(W:fv)(inn:fK)(calls aH:List Int)(hp:DS W calls aH):cj (ao aJ [(28,Kg),(27,Jv),(17,Bz),(24,W5)]) Tryz.f23 W6 ay (W,inn,calls,aH,()):=by
 obtain⟨h,hc,hx⟩:=hp;rw[v23];refine U.mk fun y4 e4=>U.mk fun y5 e5=>U.mk fun y6 e6=>U.mk fun y7 e7=>?_;have ho:(c9 W.1.1).1=W.1:=by rw[h.own]
 rw[ho]at e4;have h5:y5=kA W inn (pf W inn calls) aH:=by rw[e5,e4];rfl
 have hlen:=h.calls inn hc;have hl4:calls.length+y4.length<=1000:=by(have:(pf W inn calls).length=calls.length+y4.length:=by rw[e4];exact cZ);omega
 have ha:=JV W inn (pf W inn calls) aH;rw[<-h5]at ha;have h6:y6=yd y5.2 calls.length:=by rw[e6,h5];unfold o0;rfl
 have h7:y7=y5.1:=by rw[e7,h5];unfold o0;rfl
 have hs:(c9 W.1.1).1.1.2.2.1.length<=1000:=by rw[ho];have:=h.inv.Dm.sigs;omega
 clear e4 e5 e6 e7 h5;subst h7;refine⟨dq (by omega) (by omega),h.short,h.inv,hs,dq (by omega) (by omega),⟨h.inv,by rw[cZ];omega,hx⟩,fun he=>?_,fun he=>?_⟩;rcases ha with⟨q1,q2⟩|⟨q1,q2⟩;rw[q1]at he;cases he;rw[h6,acC q1];exact⟨rfl,q1,rfl,rfl,rfl,.refl _,.refl _,.refl _,.refl _,rfl,.refl _,rfl,trivial⟩;rcases ha with⟨q1,q2⟩|⟨q1,q2⟩;rw[h6,acB q1];refine⟨⟨by omega,?_⟩,rfl,rfl,rfl,rfl,rfl,.refl _,.refl _,.refl _,.refl _,rfl,.refl _,rfl,trivial⟩;rw[q2];unfold pf;rw[cZ];omega;rw[q1]at he;cases he
theorem ajL:fz Tryz.prog 23 W6:=fz.cE (l:=[(28,Kg),(27,Jv),(17,Bz),(24,W5)]) (A:=fun _=>ay) aL ⟨ac6,ac7,Sb,ajK,trivial⟩ Tryz.func23 (by rfl) (by rfl) fun x hw hp=>b23 x.1 x.2.1 x.2.2.1 x.2.2.2.1 hp
theorem ahJ:cj (ao aJ [(110,UY)]) Tryz.f57 QG ay (())=( U ((10:Int),(5:Int),(15:Int),(2:Int),false) fun(y0:Int×Int×Int×Int×Bool)=>True/\True/\True/\True/\True/\((((((List.replicate (6:Nat) ([],(0:Int),(0:Int))).set (0:Nat) ([(87:UInt8)],(4:Int),(0:Int))).set (1:Nat) ([(65:UInt8)],(1:Int),(20:Int))).set (2:Nat) ([(80:UInt8)],(2:Int),(10:Int))).set (3:Nat) ([(66:UInt8)],(1:Int),(20:Int))).set (4:Nat) ([(67:UInt8)],(1:Int),(30:Int))).set (5:Nat) ([(69:UInt8)],(4:Int),(0:Int))=[([(87:UInt8)],(4:Int),(0:Int)),([(65:UInt8)],(1:Int),(20:Int)),([(80:UInt8)],(2:Int),(10:Int)),([(66:UInt8)],(1:Int),(20:Int)),([(67:UInt8)],(1:Int),(30:Int)),([(69:UInt8)],(4:Int),(0:Int))]/\(((((List.replicate (5:Nat) (((0:Int),(0:Int)),(0:Int),(0:Int))).set (0:Nat) (((0:Int),(0:Int)),(1:Int),(0:Int))).set (1:Nat) (((1:Int),(1:Int)),(2:Int),(0:Int))).set (2:Nat) (((2:Int),(1:Int)),(3:Int),(0:Int))).set (3:Nat) (((3:Int),(1:Int)),(5:Int),(0:Int))).set (4:Nat) (((2:Int),(2:Int)),(4:Int),(0:Int))=[(((0:Int),(0:Int)),(1:Int),(0:Int)),(((1:Int),(1:Int)),(2:Int),(0:Int)),(((2:Int),(1:Int)),(3:Int),(0:Int)),(((3:Int),(1:Int)),(5:Int),(0:Int)),(((2:Int),(2:Int)),(4:Int),(0:Int))]/\(((((List.replicate (5:Nat) ([],((0:Int),(0:Int)),false)).set (0:Nat) ([(119:UInt8)],((0:Int),(0:Int)),false)).set (1:Nat) ([(97:UInt8)],((1:Int),(1:Int)),false)).set (2:Nat) ([(101:UInt8)],((5:Int),(0:Int)),false)).set (3:Nat) ([(98:UInt8)],((3:Int),(0:Int)),false)).set (4:Nat) ([(99:UInt8)],((4:Int),(0:Int)),false)=[([(119:UInt8)],((0:Int),(0:Int)),false),([(97:UInt8)],((1:Int),(1:Int)),false),([(101:UInt8)],((5:Int),(0:Int)),false),([(98:UInt8)],((3:Int),(0:Int)),false),([(99:UInt8)],((4:Int),(0:Int)),false)]/\(([]:List lp),y0)=([],y0)/\True):=by kernel_rfl
theorem aea:fz Tryz.prog 57 QG:=fz.cE (l:=[(110,UY)]) (A:=fun _=>ay) aL ⟨afD,trivial⟩ Tryz.func57 (by rfl) (by rfl) fun x _ hp=>by obtain⟨⟩:=x;rw[ahJ];exact U.mk fun y0 e0=>⟨trivial,trivial,trivial,trivial,trivial,rfl,rfl,rfl,rfl,trivial⟩
def xH:ab:=(Cy.1,Cy.2.1,Cy.2.2.1.set 1 ([97],(1,1),true),Cy.2.2.2)
theorem BJ:(dC xH).2=true:=by kernel_rfl
def Xn:fv:=Gq (gl xH)
def aIn:fK:=(List.replicate 6 false,[0,0,1,0,0,0],List.replicate 5 false,List.replicate 5 false)
def Rh:=o0 Xn aIn [0] []
def GV:=o0 Rh.1 aIn [] []
def aac:Bool:=(jQ (gl xH) Xn.2.1 [false,true]==[1])&&((Rh.2.2==0)&&((GV.2.2==0)&&((Rh.2.1.2.2==[0])&&(((GV.2.1.2.2.length:Int)==0)&&(((GV.1.2.1.length:Int)==6)&&(((GV.1.2.1.getD 1 iw).1==1)&&((GV.1.2.1.getD 0 iw).1==2)))))))
theorem TL:aac=true:=by kernel_rfl
theorem Ra{W:fv}(h:vy W)(inn:fK)(calls aH:List Int):vy (o0 W inn calls aH).1:=X8 h inn calls aH
theorem v14:aq (ao aJ [(57,QG),(21,Tx),(28,Kg),(27,Jv),(17,Bz),(23,W6),(16,N9),(58,W3)]) Tryz.f14 W7 ay (())=( U [([(119:UInt8)],((0:Int),(0:Int)),false),([(97:UInt8)],((1:Int),(1:Int)),false),([(101:UInt8)],((5:Int),(0:Int)),false),([(98:UInt8)],((3:Int),(0:Int)),false),([(99:UInt8)],((4:Int),(0:Int)),false)] fun(y0:List gz)=>U [([(87:UInt8)],(4:Int),(0:Int)),([(65:UInt8)],(1:Int),(20:Int)),([(80:UInt8)],(2:Int),(10:Int)),([(66:UInt8)],(1:Int),(20:Int)),([(67:UInt8)],(1:Int),(30:Int)),([(69:UInt8)],(4:Int),(0:Int))] fun(y1:List mW)=>U (y0.set (Int.toNat (1:Int)) ([(97:UInt8)],((1:Int),(1:Int)),true)) fun(y2:List (List UInt8×(Int×Int)×Bool))=>U (y1,[(((0:Int),(0:Int)),(1:Int),(0:Int)),(((1:Int),(1:Int)),(2:Int),(0:Int)),(((2:Int),(1:Int)),(3:Int),(0:Int)),(((3:Int),(1:Int)),(5:Int),(0:Int)),(((2:Int),(2:Int)),(4:Int),(0:Int))],y2,[],(10:Int),(5:Int),(15:Int),(2:Int),false) fun(y3:ab)=>U (List.replicate (dC y3).1.length iw) fun(y4:List bz)=>U ((y3,(dC y3).1),y4,(max (0:Int) (min (y1.length:Int) (40:Int)),[],[],[],[]),(some (mL y3),[]),List.replicate y2.length (0:Int)) fun(y5:((ab)×List (ah))×List (Int×Int×Bool×List Bool)×(aA)×(Option (bp)×List ((Int×Int)×Bool))×List Int)=>U ((List.replicate (1:Nat) (0:Int)).set (0:Nat) (0:Int)) fun(y6:List Int)=>U (List.replicate (Int.toNat (6:Int)) false,((((((List.replicate (6:Nat) (0:Int)).set (0:Nat) (0:Int)).set (1:Nat) (0:Int)).set (2:Nat) (1:Int)).set (3:Nat) (0:Int)).set (4:Nat) (0:Int)).set (5:Nat) (0:Int),List.replicate (Int.toNat (5:Int)) false,List.replicate (Int.toNat (5:Int)) false) fun(y7:List Bool×List Int×List Bool×List Bool)=>U (o0 y5 y7 y6 []).1 fun(y8:fv)=>U (o0 y8 y7 [] []).1 fun(y9:fv)=>U (o0 y5 y7 y6 []).2 fun(bL:xv×Int)=>U (o0 y8 y7 [] []).2 fun(bN:xv×Int)=>U (bif bif jQ (c9 y3).1 y4 (((List.replicate (2:Nat) false).set (0:Nat) false).set (1:Nat) true)==(List.replicate (1:Nat) (0:Int)).set (0:Nat) (1:Int)then bL.2==(0:Int)else false then bN.2==(0:Int)else false) fun(bw:Bool)=>U (bif bif bif bw then bL.1.2.2==y6 else false then(bN.1.2.2.length:Int)==(0:Int)else false then(y9.2.1.length:Int)==(6:Int)else false) fun(cD:Bool)=>U ((0:Int),(0:Int),false,[]) fun(dy:Int×Int×Bool×List Bool)=>U (bif cD then(y9.2.1.getD (Int.toNat (1:Int)) dy).1==(1:Int)else false) fun(bQ:Bool)=>True/\aW (1:Int) y0.length/\(dC y3).2=true/\(false=true->false=true/\True)/\(false=false->((0:Int)<=(6:Int)/\(6:Int)<=(6:Int))/\(roomFor (Int.toNat (6:Int)) (1:Nat)/\(6:Int)<=(br:Int))/\((0:Int)<=(5:Int)/\(5:Int)<=(5:Int))/\(roomFor (Int.toNat (5:Int)) (1:Nat)/\(5:Int)<=(br:Int))/\((0:Int)<=(5:Int)/\(5:Int)<=(5:Int))/\(roomFor (Int.toNat (5:Int)) (1:Nat)/\(5:Int)<=(br:Int))/\c8 y3/\mP y5/\(c9 y3).1.1.2.2.1.length<=(1000:Nat)/\DS y5 y6 []/\DS y8 [] []/\mP y9/\True/\(bw=true->True)/\(cD=true->aW (1:Int) y9.2.1.length)/\(bQ=true->aW (0:Int) y9.2.1.length)/\(bif bQ then(y9.2.1.getD (Int.toNat (0:Int)) dy).1==(2:Int)else false)=true/\True)):=by kernel_rfl
theorem b14:aq (ao aJ [(57,QG),(21,Tx),(28,Kg),(27,Jv),(17,Bz),(23,W6),(16,N9),(58,W3)]) Tryz.f14 W7 ay ():=by
 rw[v14];refine U.mk fun y0 e0=>U.mk fun y1 e1=>U.mk fun y2 e2=>U.mk fun y3 e3=>U.mk fun y4 e4=>U.mk fun y5 e5=>U.mk fun y6 e6=>U.mk fun y7 e7=>U.mk fun y8 e8=>U.mk fun y9 e9=>U.mk fun bL fl=>U.mk fun bN gg=>U.mk fun bw gb=>U.mk fun cD jY=>U.mk fun dy mN=>U.mk fun bQ lB=>?_;have hs:=TL;unfold aac at hs;rw[ag,ag,ag,ag,ag,ag,ag]at hs;obtain⟨q1,q2,q3,q4,q5,q6,q7,q8⟩:=hs;have h0:vy Xn:=Q7 BJ;have h1:vy Rh.1:=Ra h0 _ _ _;have h2:vy GV.1:=Ra h1 _ _ _;have hb:c9 xH=(gl xH,0):=Jp BJ;have E0:y0.length=5:=by rw[e0];rfl
 have E3:y3=xH:=by rw[e3,e2,e1,e0];rfl
 have E5:y5=Xn:=by rw[e5,e4,E3,e2,e1,e0];rfl
 have E4:y4=Xn.2.1:=by rw[e4,E3];rfl
 have E6:y6=[0]:=by rw[e6];rfl
 have E7:y7=aIn:=by rw[e7];rfl
 have E8:y8=Rh.1:=by rw[e8,E5,E7,E6];rfl
 have E9:y9=GV.1:=by rw[e9,E8,E7];rfl
 have E10:bL=Rh.2:=by rw[fl,E5,E7,E6];rfl
 have E11:bN=GV.2:=by rw[gg,E8,E7];rfl
 have E12:bw=true:=by rw[gb,E3,E4,E10,E11,hb];show(bif bif(jQ (gl xH) Xn.2.1 [false,true]==[1])then Rh.2.2==0 else false then GV.2.2==0 else false)=true;rw[q1,q2,q3];rfl
 have E13:cD=true:=by rw[jY,E12,E10,E11,E9,E6];show(bif bif(Rh.2.1.2.2==[0])then(GV.2.1.2.2.length:Int)==0 else false then(GV.1.2.1.length:Int)==6 else false)=true;rw[q4,q5,q6];rfl
 have E15:bQ=true:=by rw[lB,E13,E9,mN];exact q7
 have hlen:GV.1.2.1.length=6:=by have:=eq_of_beq q6;omega
 clear e0 e1 e2 e3 e4 e5 e6 e7 e8 e9 fl gg gb jY lB;subst E3 E5 E6 E7 E8 E9 E12 E13 E15;rw[hb,E0,hlen,mN];refine⟨trivial,⟨by decide,by decide⟩,BJ,fun h=>(by cases h),fun _=>⟨⟨by decide,by decide⟩,⟨dq (by decide) (by decide),by decide⟩,⟨by decide,by decide⟩,⟨dq (by decide) (by decide),by decide⟩,⟨by decide,by decide⟩,⟨dq (by decide) (by decide),by decide⟩,h0.short,h0.inv,by decide,⟨h0,by decide,by decide⟩,⟨h1,by decide,by decide⟩,h2.inv,trivial,fun _=>trivial,fun _=>⟨by decide,by decide⟩,fun _=>⟨by decide,by decide⟩,?_,trivial⟩⟩;exact q8
theorem ajP:aO Tryz.prog 14 W7:=aO.cE (l:=[(57,QG),(21,Tx),(28,Kg),(27,Jv),(17,Bz),(23,W6),(16,N9),(58,W3)]) (A:=fun _=>ay) aL ⟨aea,ajM,ac6,ac7,Sb,ajL,ac8,ajF,trivial⟩ Tryz.func14 (by rfl) (by rfl) fun _ _ _=>b14
theorem v3(p:ab)(l:List (Int×Int×Bool×List Bool))(b8:List Bool):aq (ao aJ [(14,W7),(15,Tz),(17,Bz),(18,UR),(16,N9)]) Tryz.f3 c3 ay (p,l,b8,())=( U (bif bif !(dC p).2 then true else decide ((l.length:Int)>(100:Int))then true else decide ((b8.length:Int)>(60:Int))) fun(y3:Bool)=>U (jQ (p,(dC p).1) l b8) fun(y4:List Int)=>True/\((!true)=true->false=true/\True)/\((!true)=false->True/\(y3=true->true=true/\True)/\(y3=false->p.2.2.1.length<=(1000:Nat)/\p.2.2.1.length<=(1000:Nat)/\True/\(y4==y4)=true/\True))):=by kernel_rfl
theorem b3(p:ab)(l:List bz)(b8:List Bool):aq (ao aJ [(14,W7),(15,Tz),(17,Bz),(18,UR),(16,N9)]) Tryz.f3 c3 ay (p,l,b8,()):=by rw[v3];refine U.mk fun y3 e3=>U.mk fun y4 e4=>⟨trivial,fun h=>(by cases h),fun _=>⟨trivial,fun _=>⟨rfl,trivial⟩,fun h=>?_⟩⟩;(have hR:(dC p).2=true:=by cases hr:(dC p).2 with|true=>rfl|false=>rw[e3,hr]at h;cases h);have:=qA (wZ hR).check;exact⟨by omega,by omega,trivial,by simp,trivial⟩
theorem ok3:aO Tryz.prog 3 c3:=aO.cE (l:=[(14,W7),(15,Tz),(17,Bz),(18,UR),(16,N9)]) (A:=fun _=>ay) aL ⟨ajP,ac9,Sb,aeY,ac8,trivial⟩ Tryz.func3 (by rfl) (by rfl) fun x hw hp=>b3 x.1 x.2.1 x.2.2.1
end YtklcddahddbjcaaGreat
end Go.Proofs
namespace Go.Proofs.YtklcddahddbjcaaGreat
open Go Go.Vc
open Go.ChangeShapes Go.WideShapes Go.ChangeAt Go.RowKit
open Go.ChangeMaps (open_string shut_string)
theorem own:ownKnob Tryz.prog.godebug=none:=by kernel_rfl
theorem laidOut:laidOutB Tryz.prog=true:=by kernel_rfl
theorem law_calls{P:Program}{f:Nat}{ts:List Ty}(h:aO P f (Uf ts)){W:World}{x:kf ts}{vs:List Value}(hv:lU (tA W) ts x vs):Calls P f vs.toArray W fun e w'=>e=.returned (.bool true)/\Below W.heap.size W w':=by refine(h.calls (tA W) W x vs (fun b o h=>h) hv trivial).mono fun e w'=>?_;rintro⟨v,F',rfl,_,_,_,hk,xe⟩;have xe:[v]=[Value.bool true]:=xe;simp only[fe,au]at xe;exact⟨by rw[xe],⟨hk.os,hk.tape,hk.output,hk.size,fun k AW=>hk.block k AW (fun h=>h)⟩⟩
end Go.Proofs.YtklcddahddbjcaaGreat
