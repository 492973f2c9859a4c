/-
  The program's call and the reference's Why: proofs; What a road needs and what guards it: each element one way; the points that a road moves (plain); Contracts of what the program asks of a net, of its search for roads, of the ports at a road's sides and of its search for a flank; Contracts of the program's lives of roads (stage), with annotations; The program's search for roads as a machine of frames, and what it comes to: the document's roads (plain); The program's search for a flank, with a stack of ports, comes to the document's (plain); What the program asks of a net, and its searches among steps: proofs; Contracts of the program's search for roads, with annotations; The program's search for roads: proofs; Contracts of the program's search for a flank and of its chart, with annotations; What could come in from a road's sides, the zone of a flank, what a search puts on its stack: proofs; The program's search for a flank, and its chart: proofs; The program's chart: proof; Contracts of comparisons of plans, roads and charts, and of New, with annotations; Comparisons of plans, roads and charts: proofs; Contracts of what is freed and dropped in the program's book of locks, of its owners and its copy, with annotations; What is freed and dropped in the program's book of locks, its owners and its copy: proofs; Contracts of the reference's lives of roads, with annotations; Lives of roads: the program's and the reference's step do what their contracts say; Contracts of the program's lamps, with annotations; The program's lamps: proofs; What holds of every road of a chart (plain); The program's book of locks as what each owner has (plain).
-/
import Derived.Test.YtjnappfomhkeeaaGreatM4

section
set_option maxRecDepth 100000
set_option linter.unusedVariables false
set_option linter.unusedSimpArgs false
set_option maxHeartbeats 16000000
namespace Go.Proofs
open Go Go.Vc
namespace YtjnappfomhkeeaaGreat
theorem I4 {a b:Bool} (h:(bif a then b else false)=true):a=true∧b=true:=by
 cases a
 ·cases h
 ·exact⟨rfl,h⟩
theorem ahE {y b:Bool} (e:y= !b) (h:y=false):b=true:=by
 rw[h] at e
 cases b
 ·cases e
 ·rfl
theorem v131 (p:ab) (o:List Bool) (e:Int):ai (ah ay [(207,ya),(130,ajd)]) Tryz.f131 ajc aq (p,o,e,())=(
True∧((aI p e !=(4:Int))=true→True)∧(bif aI p e !=(4:Int) then vO o e else false)=Yg p o e∧True):=by kernel_rfl
theorem QN (c:bP) (k:Int):(bif decide (k<0) then true else decide (k≥(c.2.length:Int)))= !rR c k:=by
 unfold rR
 rw[Ga,xC,Ga k (c.2.length:Int)]
 cases decide (0≤k)<;>cases decide ((c.2.length:Int)≤k)<;>rfl
theorem OB {c:bP} {k:Int} (h:rR c k=true):aQ k c.2.length∧aF c k∈c.2:=by
 unfold rR at h
 rw[Bool.and_eq_true] at h
 have h1:=of_decide_eq_true h.1
 have h2:=of_decide_eq_true h.2
 exact⟨⟨h1,h2⟩,fw zR (by omega)⟩
theorem agK (l:List (Int×Int×Bool×List Bool)) (i:Int):ai (ah ay []) Tryz.f119 LJ aq (l,i,())=(
U (decide (i≥(↑l.length:Int))) fun(y2:Bool)=>(y2=false→aQ i l.length)∧(bif y2 then true else(l.getD i.toNat ((0:Int),(0:Int),false,[])).1==(0:Int))=zn l i∧True):=by kernel_rfl
theorem aj8 (l:List cM) (i:Int) (h:0≤i):ai (ah ay []) Tryz.f119 LJ aq (l,i,()):=by
 rw[agK]
 refine U.mk fun y2 e2=>⟨fun h2=> ?_,?_,trivial⟩
 ·rw[h2] at e2
  have:=of_decide_eq_false e2.symm
  exact⟨by omega,by omega⟩
 ·rw[e2,xC]
  unfold zn
  cases decide ((l.length:Int)≤i)<;>rfl
theorem adn:aM Tryz.prog 119 LJ:=
 aM.bZ (l:=[]) (A:=fun _=>aq) aH trivial Tryz.func119 (by kernel_rfl) (by kernel_rfl) fun x hw hp=>aj8 x.1 x.2.1 hp
theorem agJ (c:(ab)×List (af)) (i:List Bool×List Int×List Bool×List Bool) (e:Int):ai (ah ay []) Tryz.f120 LI aq (c,i,e,())=(
U (bif decide (e≥(0:Int)) then decide (e<(↑i.1.length:Int)) else false) fun(y3:Bool)=>
U (bif y3 then i.1.getD e.toNat false else false) fun(y4:Bool)=>
U (decide (e≥(↑c.1.1.length:Int))) fun(y5:Bool)=>
(y3=true→aQ e i.1.length)∧
(y4=true→y5=false→aQ e c.1.1.length)∧
(bif y4 then bif y5 then true else(c.1.1.getD e.toNat ([],(0:Int),(0:Int))).2.1 !=(4:Int) else false)=lf c.1 i.1 e∧True):=by kernel_rfl
theorem aj7 (c:bP) (i:iO) (e:Int):ai (ah ay []) Tryz.f120 LI aq (c,i,e,()):=by
 rw[agJ]
 refine U.mk fun y3 e3=>U.mk fun y4 e4=>U.mk fun y5 e5=> ?_
 have oE:y3=true→aQ e i.1.length:=fun h=>by
  rw[e3] at h
  obtain⟨k1,k2⟩:=I4 h
  exact⟨of_decide_eq_true k1,of_decide_eq_true k2⟩
 have h4:y4=vO i.1 e:=by
  rw[e4,e3]
  unfold vO
  show(bif(bif decide (0≤e) then decide (e<(i.1.length:Int)) else false) then _ else false)=_
  cases decide (0≤e)<;>cases decide (e<(i.1.length:Int))<;>rfl
 refine⟨oE,fun k4 k5=> ?_,?_,trivial⟩
 ·rw[e4] at k4
  have:=(oE (I4 k4).1).1
  rw[k5] at e5
  have:=of_decide_eq_false e5.symm
  exact⟨by omega,by omega⟩
 ·unfold lf
  rw[h4,e5,xC,iH]
  show(bif vO i.1 e then bif decide ((c.1.1.length:Int)≤e) then true else !((c.1.1.getD e.toNat zE).2.1==4) else false)=_
  cases vO i.1 e<;>cases decide ((c.1.1.length:Int)≤e)<;>rfl
theorem adm:aM Tryz.prog 120 LI:=
 aM.bZ (l:=[]) (A:=fun _=>aq) aH trivial Tryz.func120 (by kernel_rfl) (by kernel_rfl) fun x hw hp=>aj7 x.1 x.2.1 x.2.2.1
theorem agH (i:List Bool×List Int×List Bool×List Bool) (n:Int×Int):ai (ah ay []) Tryz.f122 LH aq (i,n,())=(
U (bif decide (n.1≥(0:Int)) then decide (n.1<(↑i.2.1.length:Int)) else false) fun(y2:Bool)=>
(y2=true→aQ n.1 i.2.1.length)∧(bif bif y2 then i.2.1.getD n.1.toNat (0:Int)==n.2 else false then n.2 !=(0:Int) else false)=xF i.2.1 n∧True):=by kernel_rfl
theorem aj5 (i:iO) (n:aY):ai (ah ay []) Tryz.f122 LH aq (i,n,()):=by
 rw[agH]
 refine U.mk fun y2 e2=>⟨fun h=> ?_,?_,trivial⟩
 ·rw[e2] at h
  obtain⟨k1,k2⟩:=I4 h
  exact⟨of_decide_eq_true k1,of_decide_eq_true k2⟩
 ·rw[e2,iH]
  unfold xF
  show(bif(bif(bif decide (0≤n.1) then decide (n.1<(i.2.1.length:Int)) else false) then i.2.1.getD n.1.toNat 0==n.2 else false) then !(n.2==0) else false)=_
  cases decide (0≤n.1)<;>cases decide (n.1<(i.2.1.length:Int))<;>cases (i.2.1.getD n.1.toNat 0==n.2)<;>rfl
theorem adl:aM Tryz.prog 122 LH:=
 aM.bZ (l:=[]) (A:=fun _=>aq) aH trivial Tryz.func122 (by kernel_rfl) (by kernel_rfl) fun x hw hp=>aj5 x.1 x.2.1
theorem v69 (c:(ab)×List (af)) (l:List (Int×Int×Bool×List Bool)) (b:av) (t:Option (aX)×List ((Int×Int)×Bool)) (i:List Bool×List Int×List Bool×List Bool) (k:Int):ai (ah ay [(119,LJ),(120,LI),(121,Dv),(76,BR),(122,LH),(123,Du)]) Tryz.f69 VQ (a69 (c,l,b,t,i,k,())) (c,l,b,t,i,k,())=(
U (bif decide (k<(0:Int)) then true else decide (k≥(↑c.2.length:Int))) fun(y6:Bool)=>
U (zj c l b t i k) fun(y7:Int)=>
U ((0:Int),(0:Int),(0:Int),[],[],[],[],[],false) fun(y8:af)=>
U (c.2.getD k.toNat y8) fun(y9:af)=>
U (aF c k).2.2.2 fun(bp:List cv×List aY×List aY×List Int×List Int×Bool)=>
U (jv b k y9 !=(0:Int)) fun(bI:Bool)=>
U (y9.2.2.2.2.1++y9.2.2.2.2.2.1) fun(aw:List (Int×Int))=>
(y6=true→(10:Int)=y7∧True)∧
(y6=false→
aQ k c.2.length∧
(y9.2.2.2.2.2.2.2.2=true→(11:Int)=y7∧True)∧
(y9.2.2.2.2.2.2.2.2=false→
(∃(iy:Nat),
(iy≤c.2.length∧dZ (uh c l k (aF c k)) iy)∧
(↑iy:Int)=(0:Int)∧
l=l∧
[b]=[b]∧
(0:Nat)=(0:Nat)∧
[t]=[t]∧
(0:Nat)=(0:Nat)∧
k=k∧
c.2=c.2∧
(↑c.2.length:Int)=(↑c.2.length:Int)∧
c.1.1=c.1.1∧
c.1.2.1=c.1.2.1∧
c.1.2.2.1=c.1.2.2.1∧
c.1.2.2.2.1=c.1.2.2.2.1∧
c.1.2.2.2.2.1=c.1.2.2.2.2.1∧
c.1.2.2.2.2.2.1=c.1.2.2.2.2.2.1∧
c.1.2.2.2.2.2.2.1=c.1.2.2.2.2.2.2.1∧
c.1.2.2.2.2.2.2.2.1=c.1.2.2.2.2.2.2.2.1∧
c.1.2.2.2.2.2.2.2.2=c.1.2.2.2.2.2.2.2.2∧
c.2=c.2∧
i.1=i.1∧
i.2.1=i.2.1∧
i.2.2.1=i.2.2.1∧
i.2.2.2=i.2.2.2∧
aE y9 (True))∧
∀(bM:Nat),
U (decide ((↑bM:Int)<(↑c.2.length:Int))) fun(cW:Bool)=>
U (bif(↑bM:Int)==k then true else(c.2.getD (↑bM:Int).toNat y8).1==y9.1) fun(bz:Bool)=>
U (bif bz then !zn l (↑bM:Int) else false) fun(cT:Bool)=>
bM≤c.2.length∧dZ (uh c l k (aF c k)) bM→
(cW=true→
aQ (↑bM:Int) c.2.length∧
(bz=true→(0:Int)≤(↑bM:Int))∧
(cT=true→(12:Int)=y7∧True)∧
(cT=false→
bq IntKind.i64 ((↑bM:Int)+(1:Int))∧
∃(vi:Nat),
(vi≤c.2.length∧dZ (uh c l k (aF c k)) vi)∧
c.2.length - vi<c.2.length - bM∧
(↑vi:Int)=(↑bM:Int)+(1:Int)∧
l=l∧
[b]=[b]∧
(0:Nat)=(0:Nat)∧
[t]=[t]∧
(0:Nat)=(0:Nat)∧
k=k∧
c.2=c.2∧
(↑c.2.length:Int)=(↑c.2.length:Int)∧
c.1.1=c.1.1∧
c.1.2.1=c.1.2.1∧
c.1.2.2.1=c.1.2.2.1∧
c.1.2.2.2.1=c.1.2.2.2.1∧
c.1.2.2.2.2.1=c.1.2.2.2.2.1∧
c.1.2.2.2.2.2.1=c.1.2.2.2.2.2.1∧
c.1.2.2.2.2.2.2.1=c.1.2.2.2.2.2.2.1∧
c.1.2.2.2.2.2.2.2.1=c.1.2.2.2.2.2.2.2.1∧
c.1.2.2.2.2.2.2.2.2=c.1.2.2.2.2.2.2.2.2∧
c.2=c.2∧
i.1=i.1∧
i.2.1=i.2.1∧
i.2.2.1=i.2.2.1∧
i.2.2.2=i.2.2.2∧
aE y9 (True)))∧
(cW=false→
(∃(Wz:Nat),
(Wz≤bp.1.length∧(List.take Wz bp.1).any (sc c.1 i.1)=false)∧
(↑Wz:Int)=(0:Int)∧
[b]=[b]∧
(0:Nat)=(0:Nat)∧
[t]=[t]∧
(0:Nat)=(0:Nat)∧
k=k∧
y9.2.2.2.1=y9.2.2.2.1∧
(↑y9.2.2.2.1.length:Int)=(↑y9.2.2.2.1.length:Int)∧
c.1.1=c.1.1∧
c.1.2.1=c.1.2.1∧
c.1.2.2.1=c.1.2.2.1∧
c.1.2.2.2.1=c.1.2.2.2.1∧
c.1.2.2.2.2.1=c.1.2.2.2.2.1∧
c.1.2.2.2.2.2.1=c.1.2.2.2.2.2.1∧
c.1.2.2.2.2.2.2.1=c.1.2.2.2.2.2.2.1∧
c.1.2.2.2.2.2.2.2.1=c.1.2.2.2.2.2.2.2.1∧
c.1.2.2.2.2.2.2.2.2=c.1.2.2.2.2.2.2.2.2∧
c.2=c.2∧
i.1=i.1∧
i.2.1=i.2.1∧
i.2.2.1=i.2.2.1∧
i.2.2.2=i.2.2.2∧
aE y9 (True))∧
∀(Oo:Nat),
U (decide ((↑Oo:Int)<(↑y9.2.2.2.1.length:Int))) fun(dI:Bool)=>
U (lf c.1 i.1 (y9.2.2.2.1.getD (↑Oo:Int).toNat ((0:Int),(0:Int),(0:Int))).1) fun(fC:Bool)=>
Oo≤bp.1.length∧(List.take Oo bp.1).any (sc c.1 i.1)=false→
(dI=true→
aQ (↑Oo:Int) y9.2.2.2.1.length∧
True∧
(fC=true→(13:Int)=y7∧True)∧
(fC=false→
bq IntKind.i64 ((↑Oo:Int)+(1:Int))∧
∃(dq:Nat),
(dq≤bp.1.length∧(List.take dq bp.1).any (sc c.1 i.1)=false)∧
bp.1.length - dq<bp.1.length - Oo∧
(↑dq:Int)=(↑Oo:Int)+(1:Int)∧
[b]=[b]∧
(0:Nat)=(0:Nat)∧
[t]=[t]∧
(0:Nat)=(0:Nat)∧
k=k∧
y9.2.2.2.1=y9.2.2.2.1∧
(↑y9.2.2.2.1.length:Int)=(↑y9.2.2.2.1.length:Int)∧
c.1.1=c.1.1∧
c.1.2.1=c.1.2.1∧
c.1.2.2.1=c.1.2.2.1∧
c.1.2.2.2.1=c.1.2.2.2.1∧
c.1.2.2.2.2.1=c.1.2.2.2.2.1∧
c.1.2.2.2.2.2.1=c.1.2.2.2.2.2.1∧
c.1.2.2.2.2.2.2.1=c.1.2.2.2.2.2.2.1∧
c.1.2.2.2.2.2.2.2.1=c.1.2.2.2.2.2.2.2.1∧
c.1.2.2.2.2.2.2.2.2=c.1.2.2.2.2.2.2.2.2∧
c.2=c.2∧
i.1=i.1∧
i.2.1=i.2.1∧
i.2.2.1=i.2.2.1∧
i.2.2.2=i.2.2.2∧
aE y9 (True)))∧
(dI=false→
(∃(Wy:Nat),
(Wy≤bp.2.2.2.1.length∧(List.take Wy bp.2.2.2.1).any (lf c.1 i.1)=false)∧
(↑Wy:Int)=(0:Int)∧
[b]=[b]∧
(0:Nat)=(0:Nat)∧
[t]=[t]∧
(0:Nat)=(0:Nat)∧
k=k∧
y9.2.2.2.2.2.2.1=y9.2.2.2.2.2.2.1∧
(↑y9.2.2.2.2.2.2.1.length:Int)=(↑y9.2.2.2.2.2.2.1.length:Int)∧
c.1.1=c.1.1∧
c.1.2.1=c.1.2.1∧
c.1.2.2.1=c.1.2.2.1∧
c.1.2.2.2.1=c.1.2.2.2.1∧
c.1.2.2.2.2.1=c.1.2.2.2.2.1∧
c.1.2.2.2.2.2.1=c.1.2.2.2.2.2.1∧
c.1.2.2.2.2.2.2.1=c.1.2.2.2.2.2.2.1∧
c.1.2.2.2.2.2.2.2.1=c.1.2.2.2.2.2.2.2.1∧
c.1.2.2.2.2.2.2.2.2=c.1.2.2.2.2.2.2.2.2∧
c.2=c.2∧
i.1=i.1∧
i.2.1=i.2.1∧
i.2.2.1=i.2.2.1∧
i.2.2.2=i.2.2.2∧
aE y9 (True))∧
∀(On:Nat),
U (decide ((↑On:Int)<(↑y9.2.2.2.2.2.2.1.length:Int))) fun(fo:Bool)=>
U (lf c.1 i.1 (y9.2.2.2.2.2.2.1.getD (↑On:Int).toNat (0:Int))) fun(dG:Bool)=>
On≤bp.2.2.2.1.length∧(List.take On bp.2.2.2.1).any (lf c.1 i.1)=false→
(fo=true→
aQ (↑On:Int) y9.2.2.2.2.2.2.1.length∧
True∧
(dG=true→(13:Int)=y7∧True)∧
(dG=false→
bq IntKind.i64 ((↑On:Int)+(1:Int))∧
∃(vh:Nat),
(vh≤bp.2.2.2.1.length∧(List.take vh bp.2.2.2.1).any (lf c.1 i.1)=false)∧
bp.2.2.2.1.length - vh<bp.2.2.2.1.length - On∧
(↑vh:Int)=(↑On:Int)+(1:Int)∧
[b]=[b]∧
(0:Nat)=(0:Nat)∧
[t]=[t]∧
(0:Nat)=(0:Nat)∧
k=k∧
y9.2.2.2.2.2.2.1=y9.2.2.2.2.2.2.1∧
(↑y9.2.2.2.2.2.2.1.length:Int)=(↑y9.2.2.2.2.2.2.1.length:Int)∧
c.1.1=c.1.1∧
c.1.2.1=c.1.2.1∧
c.1.2.2.1=c.1.2.2.1∧
c.1.2.2.2.1=c.1.2.2.2.1∧
c.1.2.2.2.2.1=c.1.2.2.2.2.1∧
c.1.2.2.2.2.2.1=c.1.2.2.2.2.2.1∧
c.1.2.2.2.2.2.2.1=c.1.2.2.2.2.2.2.1∧
c.1.2.2.2.2.2.2.2.1=c.1.2.2.2.2.2.2.2.1∧
c.1.2.2.2.2.2.2.2.2=c.1.2.2.2.2.2.2.2.2∧
c.2=c.2∧
i.1=i.1∧
i.2.1=i.2.1∧
i.2.2.1=i.2.2.1∧
i.2.2.2=i.2.2.2∧
aE y9 (True)))∧
(fo=false→
(pT b∧ki y9)∧
(bI=true→jv b k y9=y7∧True)∧
(bI=false→
cQ y9.2.2.2.2.1∧
roomFor (y9.2.2.2.2.1.length+y9.2.2.2.2.2.1.length) (16:Nat)∧
(∃(Ww:Nat),
(Ww≤(bC (aF c k)).length∧(List.take Ww (bC (aF c k))).any (nz c.1 i)=false)∧
(↑Ww:Int)=(0:Int)∧
[b]=[b]∧
(0:Nat)=(0:Nat)∧
[t]=[t]∧
(0:Nat)=(0:Nat)∧
(↑aw.length:Int)=(↑aw.length:Int)∧
c.1.1=c.1.1∧
c.1.2.1=c.1.2.1∧
c.1.2.2.1=c.1.2.2.1∧
c.1.2.2.2.1=c.1.2.2.2.1∧
c.1.2.2.2.2.1=c.1.2.2.2.2.1∧
c.1.2.2.2.2.2.1=c.1.2.2.2.2.2.1∧
c.1.2.2.2.2.2.2.1=c.1.2.2.2.2.2.2.1∧
c.1.2.2.2.2.2.2.2.1=c.1.2.2.2.2.2.2.2.1∧
c.1.2.2.2.2.2.2.2.2=c.1.2.2.2.2.2.2.2.2∧
c.2=c.2∧
i.1=i.1∧
i.2.1=i.2.1∧
i.2.2.1=i.2.2.1∧
i.2.2.2=i.2.2.2∧
aE y9 (aw=aw∧True))∧
∀(G9:Nat),
U (decide ((↑G9:Int)<(↑aw.length:Int))) fun(gS:Bool)=>
U (aw.getD (↑G9:Int).toNat ((0:Int),(0:Int))) fun(kE:Int×Int)=>
U (lf c.1 i.1 kE.1) fun(lK:Bool)=>
G9≤(bC (aF c k)).length∧
(List.take G9 (bC (aF c k))).any (nz c.1 i)=false→
(gS=true→
aQ (↑G9:Int) aw.length∧
True∧
(xF i.2.1 kE=true→
bq IntKind.i64 ((↑G9:Int)+(1:Int))∧
∃(Cn:Nat),
(Cn≤(bC (aF c k)).length∧
(List.take Cn (bC (aF c k))).any (nz c.1 i)=false)∧
(bC (aF c k)).length - Cn<(bC (aF c k)).length - G9∧
(↑Cn:Int)=(↑G9:Int)+(1:Int)∧
[b]=[b]∧
(0:Nat)=(0:Nat)∧
[t]=[t]∧
(0:Nat)=(0:Nat)∧
(↑aw.length:Int)=(↑aw.length:Int)∧
c.1.1=c.1.1∧
c.1.2.1=c.1.2.1∧
c.1.2.2.1=c.1.2.2.1∧
c.1.2.2.2.1=c.1.2.2.2.1∧
c.1.2.2.2.2.1=c.1.2.2.2.2.1∧
c.1.2.2.2.2.2.1=c.1.2.2.2.2.2.1∧
c.1.2.2.2.2.2.2.1=
c.1.2.2.2.2.2.2.1∧
c.1.2.2.2.2.2.2.2.1=
c.1.2.2.2.2.2.2.2.1∧
c.1.2.2.2.2.2.2.2.2=
c.1.2.2.2.2.2.2.2.2∧
c.2=c.2∧
i.1=i.1∧
i.2.1=i.2.1∧
i.2.2.1=i.2.2.1∧
i.2.2.2=i.2.2.2∧
aE y9 (aw=aw∧True))∧
(xF i.2.1 kE=false→
True∧
(lK=true→(15:Int)=y7∧True)∧
(lK=false→
bq IntKind.i64 ((↑G9:Int)+(1:Int))∧
∃(Cn:Nat),
(Cn≤(bC (aF c k)).length∧
(List.take Cn (bC (aF c k))).any (nz c.1 i)=false)∧
(bC (aF c k)).length - Cn<(bC (aF c k)).length - G9∧
(↑Cn:Int)=(↑G9:Int)+(1:Int)∧
[b]=[b]∧
(0:Nat)=(0:Nat)∧
[t]=[t]∧
(0:Nat)=(0:Nat)∧
(↑aw.length:Int)=(↑aw.length:Int)∧
c.1.1=c.1.1∧
c.1.2.1=c.1.2.1∧
c.1.2.2.1=c.1.2.2.1∧
c.1.2.2.2.1=c.1.2.2.2.1∧
c.1.2.2.2.2.1=c.1.2.2.2.2.1∧
c.1.2.2.2.2.2.1=
c.1.2.2.2.2.2.1∧
c.1.2.2.2.2.2.2.1=
c.1.2.2.2.2.2.2.1∧
c.1.2.2.2.2.2.2.2.1=
c.1.2.2.2.2.2.2.2.1∧
c.1.2.2.2.2.2.2.2.2=
c.1.2.2.2.2.2.2.2.2∧
c.2=c.2∧
i.1=i.1∧
i.2.1=i.2.1∧
i.2.2.1=i.2.2.1∧
i.2.2.2=i.2.2.2∧
aE y9 (aw=aw∧True))))∧
(gS=false→
((gL t.1∧y9.2.2.2.1.length≤(1000:Nat))∧kj b)∧
mh t y9 i.1 b=y7∧True)))))))):=by kernel_rfl
theorem b69 (c:bP) (l:List cM) (b:av) (t:eG) (i:iO) (k:Int) (hc:Dk c) (hb:pT b) (ht:gL t.1) (hlen:c.2.length≤aK):
  ai (ah ay [(119,LJ),(120,LI),(121,Dv),(76,BR),(122,LH),(123,Du)]) Tryz.f69 VQ (a69 (c,l,b,t,i,k,())) (c,l,b,t,i,k,()):=by
 rw[v69]
 refine U.mk fun y6 e6=>U.mk fun y7 e7=>U.mk fun y8 e8=>U.mk fun y9 e9=>U.mk fun bp du=>U.mk fun bI eH=>U.mk fun aw dM=> ?_
 rw[QN] at e6
 have e7:y7=bif !y6 then zF c l b t i k (aF c k) else 10:=by rw[e7,e6];unfold zj;cases rR c k<;>rfl
 have e9:aF c k=y9:=by rw[e9,e8];rfl
 rw[e9] at e7 du ⊢
 have dM:aw=bC y9:=by rw[dM];unfold bC;rfl
 rw[dM,du]
 simp only[dz,true_and,and_true,eq_self]
 refine⟨fun h=>by rw[e7,h];rfl,fun h=> ?_⟩
 have hri:rR c k=true:=ahE e6 h
 obtain⟨oE,FF⟩:=OB hri
 rw[e9] at FF
 have hf:=hc.2 _ FF
 obtain⟨l1,l2,l3⟩:=hf.1
 have hz:y9.2.2.2.2.2.2.1.length≤1000:=hf.2
 have HW:=An y9
 have e7:y7=zF c l b t i k y9:=by rw[e7,h];rfl
 rw[e7]
 unfold zF
 refine⟨oE,fun h9=>by rw[h9];rfl,fun h9=>⟨⟨0,⟨by omega,rfl⟩,by omega⟩,fun s=>U.mk fun cW jG=>U.mk fun bz gJ=>U.mk fun cT kT=> ?_⟩⟩
 rw[h9]
 rintro⟨h1,h2⟩
 have h2:cd (uh c l k y9) s=false:=h2
 rw[Int.toNat_natCast,e8] at gJ
 refine⟨fun hs=> ?_,fun hs=> ?_⟩
 ·have hs:=ba jG hs
  have sK:uh c l k y9 s=cT:=by
   rw[kT,gJ]
   unfold uh
   show(((s:Int)==k||(c.2.getD s zR).1==y9.1)&& !zn l (s:Int))=bif(bif(s:Int)==k then true else(c.2.getD s zR).1==y9.1) then !zn l (s:Int) else false
   cases ((s:Int)==k)<;>cases ((c.2.getD s zR).1==y9.1)<;>rfl
  refine⟨⟨by omega,by omega⟩,fun _=>by omega,fun hy=> ?_,fun hy=>⟨dr hs hlen,s+1,⟨by omega,jV h2 (by rw[sK];exact hy)⟩,by omega,by omega⟩⟩
  rw[nL hs (by rw[sK];exact hy)]
  rfl
 ·have hs:=br jG hs
  have:s=c.2.length:=by omega
  subst this
  rw[h2]
  refine⟨⟨0,⟨by omega,by simp⟩,by omega⟩,fun s=>U.mk fun dI m8=>U.mk fun fC nH=> ?_⟩
  rintro⟨h3,h4⟩
  rw[Int.toNat_natCast] at nH
  have nH:fC=sc c.1 i.1 (y9.2.2.2.1.getD s iq):=nH
  refine⟨fun hs=> ?_,fun hs=> ?_⟩
  ·have hs:=ba m8 hs
   refine⟨⟨by omega,by omega⟩,fun hy=> ?_,fun hy=>⟨bg (by omega) (by omega),s+1,⟨by show s+1≤y9.2.2.2.1.length;omega,any_succ iq hs h4 (by rw[←nH];exact hy)⟩,by show y9.2.2.2.1.length - (s+1)<y9.2.2.2.1.length - s;omega,by omega⟩⟩
   rw[pK (s:=s) iq hs (by rw[←nH];exact hy)]
   rfl
  ·have hs:=br m8 hs
   rw[n4 hs h4]
   refine⟨⟨0,⟨by omega,by simp⟩,by omega⟩,fun s=>U.mk fun fo qZ=>U.mk fun dG sB=> ?_⟩
   rintro⟨h5,h6⟩
   rw[Int.toNat_natCast] at sB
   refine⟨fun hs=> ?_,fun hs=> ?_⟩
   ·have hs:=ba qZ hs
    refine⟨⟨by omega,by omega⟩,fun hy=> ?_,fun hy=>⟨bg (by omega) (by omega),s+1,⟨by show s+1≤y9.2.2.2.2.2.2.1.length;omega,any_succ 0 hs h6 (by rw[←sB];exact hy)⟩,by show y9.2.2.2.2.2.2.1.length - (s+1)<y9.2.2.2.2.2.2.1.length - s;omega,by omega⟩⟩
    rw[pK (s:=s) 0 hs (by rw[←sB];exact hy)]
    rfl
   ·have hs:=br qZ hs
    rw[n4 hs h6]
    rw[iH] at eH
    rw[←eH]
    refine⟨⟨hb,hf.1⟩,fun mC=>by rw[mC];rfl,fun mC=> ?_⟩
    rw[mC]
    refine⟨l2,c6 (by omega) (by omega),⟨0,⟨by omega,by simp⟩,by omega⟩,fun s=>U.mk fun gS wQ=>U.mk fun kE BO=>U.mk fun lK BN=> ?_⟩
    rintro⟨h7,h8⟩
    rw[Int.toNat_natCast] at BO
    refine⟨fun hs=> ?_,fun hs=> ?_⟩
    ·have hs:=ba wQ hs
     have hp:nz c.1 i ((bC y9).getD s (0,0))=(!xF i.2.1 kE&&lK):=by rw[←BO,BN];rfl
     refine⟨⟨by omega,by omega⟩,fun hy=>⟨bg (by omega) (by omega),s+1,⟨by omega,any_succ (0,0) hs h8 (by rw[hp,hy];rfl)⟩,by omega,by omega⟩,fun hy=>⟨fun hx=> ?_,fun hx=>⟨bg (by omega) (by omega),s+1,⟨by omega,any_succ (0,0) hs h8 (by rw[hp,hx];simp)⟩,by omega,by omega⟩⟩⟩
     rw[pK (s:=s) (0,0) hs (by rw[hp,hy,hx];rfl)]
     rfl
    ·rw[n4 (br wQ hs) h8]
     exact⟨⟨⟨ht,l1⟩,hb.rU⟩,rfl⟩
theorem aha:aM Tryz.prog 69 VQ:=
 aM.bZ (l:=[(119,LJ),(120,LI),(121,Dv),(76,BR),(122,LH),(123,Du)]) (A:=a69) aH ⟨adn,adm,W6,OM,adl,W5,trivial⟩ Tryz.func69 (by kernel_rfl) (by kernel_rfl)
  fun x hw hp=>b69 x.1 x.2.1 x.2.2.1 x.2.2.2.1 x.2.2.2.2.1 x.2.2.2.2.2.1 hp.1 hp.2.1 hp.2.2 hw.1.2.1
structure tW (p:ab) (r:af) (s:au):Prop where
 still:still p r s
 each:∀g∈aP s,(g.2=1∨g.2=2)∧aI p g.1=2∧kD r g.1=false
 one:∀g∈aP s,∀h∈aP s,g.1=h.1→g.2=h.2
theorem Ho {p:ab} {r:af} {s:au} (h:still p r s) (e:Int):kD (iT s) e=kD r e:=by
 have h5:eL s=r.2.2.2.1:=h.2.2.2.2.1
 unfold kD cm
 have:(iT s).2.2.2.1=eL s:=by unfold iT;rfl
 rw[this,h5]
theorem Fh {p:ab} {y:ak} (hh:dx p y=true) (hk:aI p y.1=2) (h0:(y.2==0)=false):y.2=1∨y.2=2:=by
 unfold dx at hh
 rw[hk,show cO 2=3 by unfold cO;rfl] at hh
 simp only[Bool.and_eq_true,decide_eq_true_eq] at hh
 have:y.2≠0:=fun e=>by rw[e] at h0;cases h0
 omega
theorem Cx {l:List aY} {x:aY} (h:bn l x=false):x∉l:=fun hx=>by
 unfold bn at h
 have:=List.any_eq_false.1 h x hx
 simp at this
theorem nE {p:ab} (hJ:bR p=true) (r:af):Kept p (tW p r) where
 qG s h:=h.still.1
 bare s h:=⟨h.still,h.each,h.one⟩
 nk s y h _ _ _ _:=⟨h.still,h.each,h.one⟩
 hold s z h:=⟨h.still,h.each,h.one⟩
 met s m h:=⟨h.still,h.each,h.one⟩
 guard s y h hn ho hk h0 n1 n2:=by
  have hh:dx p y=true:=by
   obtain⟨x,hx,rfl⟩:=hn
   exact xo hJ (x:=x) (by rw[mP,hx];rfl)
  have hy:=Fh hh hk h0
  rw[Ho h.still] at ho
  have fresh:∀g∈aP s,g.1≠y.1:=fun g hg e=>by
   have hg2:=(h.each g hg).1
   have:g=(y.1,y.2)∨g=(y.1,3 - y.2):=by
    have e2:g.2=y.2∨g.2=3 - y.2:=by omega
    rcases e2 with e2|e2
    ·exact .inl (by rw[←e,←e2])
    ·exact .inr (by rw[←e,←e2])
   rcases this with e'|e'
   ·exact Cx n1 (by rw[←e'];exact hg)
   ·exact Cx n2 (by rw[←e'];exact hg)
  refine⟨h.still,fun g hg=> ?_,fun g hg k u9 e=> ?_⟩
  ·rcases List.mem_append.1 (show g∈aP s++[(y.1,3 - y.2)] from hg) with hg|hg
   ·exact h.each g hg
   ·rw[List.mem_singleton.1 hg]
    exact⟨by show 3 - y.2=1∨3 - y.2=2;omega,hk,ho⟩
  ·rcases List.mem_append.1 (show g∈aP s++[(y.1,3 - y.2)] from hg) with hg|hg
   ·rcases List.mem_append.1 (show k∈aP s++[(y.1,3 - y.2)] from u9) with u9|u9
    ·exact h.one g hg k u9 e
    ·rw[List.mem_singleton.1 u9] at e
     exact(fresh g hg e).elim
   ·rcases List.mem_append.1 (show k∈aP s++[(y.1,3 - y.2)] from u9) with u9|u9
    ·rw[List.mem_singleton.1 hg] at e
     exact(fresh k u9 e.symm).elim
    ·rw[List.mem_singleton.1 hg,List.mem_singleton.1 u9]
structure Qj (p:ab) (l:List aY):Prop where
 each:∀n∈l,(n.2=1∨n.2=2)∧0≤n.1∧n.1<(p.1.length:Int)
 one:∀m∈l,∀n∈l,m.1=n.1→m.2=n.2
theorem qi {p:ab} {e:Int} (h:aI p e≠0):0≤e∧e<(p.1.length:Int):=by
 unfold aI at h
 cases hb:(decide (e<0)||decide ((p.1.length:Int)≤e)) with
 |true=>rw[hb] at h;exact absurd rfl h
 |false=>
  rw[Bool.or_eq_false_iff] at hb
  have h1:=of_decide_eq_false hb.1
  have h2:=of_decide_eq_false hb.2
  omega
theorem PH:∀{l:List aY},(l.map Prod.fst).Nodup→∀m∈l,∀n∈l,m.1=n.1→m=n
 |[],_,m,hm,_,_,_=>absurd hm List.not_mem_nil
 |x::l,h,m,hm,n,hn,e=>by
  rw[List.map_cons,List.nodup_cons] at h
  rcases List.mem_cons.1 hm with em|mm
  ·rcases List.mem_cons.1 hn with en|mn
   ·rw[em,en]
   ·rw[em] at e
    exact(h.1 (by rw[e];exact List.mem_map_of_mem mn)).elim
  ·rcases List.mem_cons.1 hn with en|mn
   ·rw[en] at e
    exact(h.1 (by rw[←e];exact List.mem_map_of_mem mm)).elim
   ·exact PH h.2 m mm n mn e
theorem OA {p:ab} (h:pL p) {r:af} (hr:r∈(ct p).1):Qj p (bC r):=by
 obtain⟨_,_,hJ,_,_⟩:=gr h.check
 have dA:=J2 h hr
 obtain⟨q,hq,rfl⟩:=h.qF r hr
 have hs:=th p q
 have hg:tW p q (bE p q (bA p q).length):=
  qm (nE hJ q) ⟨⟨rfl,rfl,rfl,rfl,rfl,rfl⟩,fun g hg=>absurd hg List.not_mem_nil,fun g hg=>absurd hg List.not_mem_nil⟩ _
 have eg:(dT p q).2.2.2.2.2.1=aP (bE p q (bA p q).length):=by unfold dT iT;rfl
 have rm:∀n∈(dT p q).2.2.2.2.1,kD q n.1=true:=fun n hn=>by
  obtain⟨⟨s,nC,e⟩,_⟩:=dA.Kg n hn
  rw[hs.2.2.2.1] at nC
  unfold kD bG cm
  exact List.any_eq_true.2 ⟨n.1,List.mem_map.2 ⟨s,nC,e⟩,by simp⟩
 have aea:∀n∈(dT p q).2.2.2.2.1,(n.2=1∨n.2=2)∧0≤n.1∧n.1<(p.1.length:Int):=fun n hn=>by
  obtain⟨⟨s,nC,e⟩,h2⟩:=dA.Kg n hn
  refine⟨h2,?_⟩
  rw[←e]
  rcases dA.pass s nC with hk|⟨w,hw,_⟩
  ·exact qi (by rw[hk];decide)
  ·have hh:dx p (s.1,s.2.1)=true:=by
    cases hh:dx p (s.1,s.2.1) with
    |true=>rfl
    |false=>unfold bF at hw;rw[hh] at hw;cases hw
   have:=lT hh
   exact⟨this.1,this.2.1⟩
 unfold bC
 refine⟨fun n hn=> ?_,fun m hm n hn e=> ?_⟩
 ·rcases List.mem_append.1 hn with hn|hn
  ·exact aea n hn
  ·rw[eg] at hn
   have:=hg.each n hn
   exact⟨this.1,qi (by rw[this.2.1];decide)⟩
 ·rcases List.mem_append.1 hm with hm|hm
  ·rcases List.mem_append.1 hn with hn|hn
   ·rw[PH dA.once m hm n hn e]
   ·rw[eg] at hn
    have h1:=rm m hm
    have h2:=(hg.each n hn).2.2
    rw[e,h2] at h1
    cases h1
  ·rw[eg] at hm
   rcases List.mem_append.1 hn with hn|hn
   ·have h1:=rm n hn
    have h2:=(hg.each m hm).2.2
    rw[←e,h2] at h1
    cases h1
   ·rw[eg] at hn
    exact hg.one m hm n hn e
theorem UR (l:List Int) (x e:Int):bG (l++[x]) e=(bG l e||x==e):=by
 unfold bG
 rw[List.any_append]
 simp
@[irreducible] def fi (n:aX) (x:ak):ak×Bool:=((aT aL n.2.1 x).getD (0,0),(aT aL n.2.1 x).isSome)
@[irreducible] def kL (n:aX) (x:ak):Int:=bif(aT aL n.2.2.1 x).isSome then(aT aL n.2.2.1 x).getD 0 else -1
@[irreducible] def BH (n:aX) (e:Int):mq:=bif decide (e<0)||decide ((n.1.1.length:Int)≤e) then([],0,0) else n.1.1.getD e.toNat ([],0,0)
def uY:bh where
 args:=[.ref jn,aL]
 out:= .data [aL,.bool]
 pre:=fun(x:aX×ak×Unit)=>True
 fn:=fun(x:aX×ak×Unit)=>((fi x.1 x.2.1).1,(fi x.1 x.2.1).2,())
def Ds:bh where
 args:=[.ref jn,aL]
 out:= .data [I]
 pre:=fun(x:aX×ak×Unit)=>True
 fn:=fun(x:aX×ak×Unit)=>(kL x.1 x.2.1,())
def K0:bh where
 args:=[.ref jn,I]
 out:= .data [B5]
 pre:=fun(x:aX×Int×Unit)=>True
 fn:=fun(x:aX×Int×Unit)=>(BH x.1 x.2.1,())
def uX:bh where
 args:=[.ref jn,I]
 out:= .data [I]
 pre:=fun(x:aX×Int×Unit)=>True
 fn:=fun(x:aX×Int×Unit)=>(aI x.1.1 x.2.1,())
def Dp:bh where
 args:=[.ref jn,I,I]
 out:= .data [.list F0]
 pre:=fun(x:aX×Int×Int×Unit)=>True
 fn:=fun(x:aX×Int×Int×Unit)=>(bF x.1.1 x.2.1 x.2.2.1,())
def KY:bh where
 args:=[.ref jn,I,I,I]
 out:= .data [I,.bool]
 pre:=fun(x:aX×Int×Int×Int×Unit)=>True
 fn:=fun(x:aX×Int×Int×Int×Unit)=>((cw x.1.1 x.2.1 x.2.2.1 x.2.2.2.1).1,(cw x.1.1 x.2.1 x.2.2.1 x.2.2.2.1).2,())
def YY (x:aX×Int×Int×Int×Unit):eC:=bj [(2,fun _=>dE (bF x.1.1 x.2.1 x.2.2.1).length (kI (jf x.2.2.2.1) (bF x.1.1 x.2.1 x.2.2.1)) 17 [3,15,16] [])]
def Lz:bh where
 args:=[.ref jn,I,I,I]
 out:= .data [I,.bool]
 pre:=fun(x:aX×Int×Int×Int×Unit)=>True
 fn:=fun(x:aX×Int×Int×Int×Unit)=>((cw x.1.1 x.2.1 x.2.2.1 x.2.2.2.1).1,(cw x.1.1 x.2.1 x.2.2.1 x.2.2.2.1).2,())
def c54:bh where
 args:=[.ref jn]
 out:= .data [I]
 pre:=fun(x:aX×Unit)=>True
 fn:=fun(x:aX×Unit)=>((x.1.1.2.2.1.length:Int),())
def VK:bh where
 args:=[.ref jn]
 out:= .data [PlanT]
 pre:=fun(x:aX×Unit)=>kG x.1.1
 fn:=fun(x:aX×Unit)=>(x.1.1,())
abbrev T2:Ty:= .lD 250 (.pair (.ref I) .unit)
abbrev T3:Ty:= .lD 220 (.pair (.ref I) .unit)
def IQ:bh where
 args:=[kz,.ref I]
 out:= .data [.bool]
 pre:=fun(x:cv×Int×Unit)=>True
 fn:=fun(x:cv×Int×Unit)=>(x.1.1==x.2.1,())
def K1:bh:=IQ
def eE (e:Int) (s:cv):Bool:=s.1==e
def tI:bh where
 args:=[.list kz,T2]
 out:= .data [I]
 pre:=fun(x:List cv×(Int×Unit)×Unit)=>x.1.length≤1000
 fn:=fun(x:List cv×(Int×Unit)×Unit)=>(fj (eE x.2.1.1) x.1,())
def EF (x:List cv×(Int×Unit)×Unit):eC:=bj [(2,fun _=>tH (eE x.2.1.1) x.1 8 [0,1,7])]
def tJ:bh where
 args:=[.list kz,T2]
 out:= .data [.bool]
 pre:=fun(x:List cv×(Int×Unit)×Unit)=>x.1.length≤1000
 fn:=fun(x:List cv×(Int×Unit)×Unit)=>(x.1.any (eE x.2.1.1),())
def tK:bh where
 args:=[.list kz,T3]
 out:= .data [I]
 pre:=fun(x:List cv×(Int×Unit)×Unit)=>x.1.length≤1000
 fn:=fun(x:List cv×(Int×Unit)×Unit)=>(fj (eE x.2.1.1) x.1,())
def EG (x:List cv×(Int×Unit)×Unit):eC:=bj [(2,fun _=>tH (eE x.2.1.1) x.1 8 [0,1,7])]
def tL:bh where
 args:=[.list kz,T3]
 out:= .data [.bool]
 pre:=fun(x:List cv×(Int×Unit)×Unit)=>x.1.length≤1000
 fn:=fun(x:List cv×(Int×Unit)×Unit)=>(x.1.any (eE x.2.1.1),())
def LD:bh where
 args:=[eP,I]
 out:= .data [.bool]
 pre:=fun(x:af×Int×Unit)=>x.1.2.2.2.1.length≤1000
 fn:=fun(x:af×Int×Unit)=>(kD x.1 x.2.1,())
def Dt:bh where
 args:=[.list kz]
 out:= .row 76 kz
 pre:=fun(x:List cv×Unit)=>cQ x.1
 fn:=fun(x:List cv×Unit)=>(x.1,())
abbrev afd:Ty:= .pair I (.pair (.list kz) (.pair (.list I) (.list (.list F0))))
abbrev kA:=Int×List cv×List Int×List (List (Int×Int))
abbrev SB:eQ:= .cells true (.pair (.aC I) (.pair (.row 76 kz) (.pair (.row 3 I) (.row 289 (.list F0)))))
@[irreducible] def KA (p:kA) (e:Int):Bool:=decide (p.2.1.length<12)&&(!(e==p.1)&& !p.2.1.any (eE e))
def K5:bh where
 args:=[.ref afd,I]
 out:= .data [.bool]
 pre:=fun(x:kA×Int×Unit)=>x.1.2.1.length≤1000
 fn:=fun(x:kA×Int×Unit)=>(KA x.1 x.2.1,())
def mR (p:kA) (i:Nat):List aY:=bif p.2.2.1.getD i 0 !=0 then[((p.2.1.getD i iq).1,p.2.2.1.getD i 0)] else[]
def fR (p:kA):Nat→List aY
 |0=>[]
 |k+1=>fR p k++mR p k
@[irreducible] def iG (p:kA) (s to stop:Int):af:=(s,to,stop,p.2.1,fR p p.2.1.length,[],[],[],false)
def j7 (p:kA):Prop:=p.2.1.length≤1000∧p.2.2.1.length=p.2.1.length∧p.2.2.2.length=p.2.1.length
def K3:fq where
 args:=[SB,.aC I,.aC I,.aC I]
 outs:=[.aC eP]
 pre:=fun(x:kA×Int×Int×Int×Unit)=>j7 x.1
 fn:=fun(x:kA×Int×Int×Int×Unit)=>(iG x.1 x.2.1 x.2.2.1 x.2.2.2.1,())
 fO:=fun(x:kA×Int×Int×Int×Unit)=>x
def YZ (x:kA×Int×Int×Int×Unit):eC:=bj [(3,fun _=>{
 σ:=Nat
 ok:=fun k=>k≤x.1.2.1.length
 mu:=fun k=>x.1.2.1.length - k
 sl:=fun k=>[(26,.one (.aC I (k:Int)))]
 bl:=fun k=>[(9,.cells [.aC I x.2.1,.aC I x.2.2.1,.aC I x.2.2.2.1,.row kz 1001,.row ek 1000,.km,.km,.km,.aC .bool false]),
  (1001,.row false 76 kz x.1.2.1),(1000,.row false 90 ek (fR x.1 k))]
 keep:=[0,8,9,24,25]
 cy:=[8,1000000,1000001,1000002,1000003]})]
@[irreducible] def zm (p:kA) (n:aX) (x:ak):kA:=(p.1,p.2.1++[(x.1,x.2, -1)],p.2.2.1++[0],p.2.2.2++[bF n.1 x.1 x.2])
def K4:fq where
 args:=[SB,.aC (.ref jn),.aC aL]
 outs:=[]
 pre:=fun(x:kA×aX×ak×Unit)=>j7 x.1
 fn:=fun(x:kA×aX×ak×Unit)=>()
 fO:=fun(x:kA×aX×ak×Unit)=>(zm x.1 x.2.1 x.2.2.1,x.2)
@[irreducible] def oi (p:kA):kA:=(p.1,p.2.1.take (p.2.1.length - 1),p.2.2.1.take (p.2.1.length - 1),p.2.2.2.take (p.2.1.length - 1))
def K2:fq where
 args:=[SB]
 outs:=[]
 pre:=fun(x:kA×Unit)=>j7 x.1∧0<x.1.2.1.length
 fn:=fun(x:kA×Unit)=>()
 fO:=fun(x:kA×Unit)=>(oi x.1,x.2)
abbrev SA:Ty:= .pair (.list .bool) (.pair .bool (.pair .bool (.pair .bool (.pair .bool (.pair .bool .bool)))))
abbrev kN:=List Bool×Bool×Bool×Bool×Bool×Bool×Bool
def aaV (S:St) (b i:Nat) (c:C):c5:=
 match find S.bl b with
 |some (.cells cs)=> .cells (cs.set i c)
 |_=> .cells []
def IM:bh where
 args:=[.list .bool]
 out:= .row 4 .bool
 pre:=fun(x:List Bool×Unit)=>cQ x.1
 fn:=fun(x:List Bool×Unit)=>(x.1,())
def CQ (v y:Bool):Bool:=y==v
def TE:bh where
 args:=[.list .bool,.bool]
 out:= .data [I]
 pre:=fun(x:List Bool×Bool×Unit)=>cQ x.1
 fn:=fun(x:List Bool×Bool×Unit)=>(fj (CQ x.2.1) x.1,())
def abG (x:List Bool×Bool×Unit):eC:=bj [(2,fun _=>tH (CQ x.2.1) x.1 8 [0,1,7])]
def TG:bh where
 args:=[.list .bool,.bool]
 out:= .data [.bool]
 pre:=fun(x:List Bool×Bool×Unit)=>cQ x.1
 fn:=fun(x:List Bool×Bool×Unit)=>(x.1.any (CQ x.2.1),())
def gp (a b:Int):List Int:=(List.range (b - a).toNat).map fun(k:Nat)=>a+(k:Int)
def P9:bh where
 args:=[I,I]
 out:= .row 3 I
 pre:=fun(x:Int×Int×Unit)=>0≤x.1∧x.2.1≤1000
 fn:=fun(x:Int×Int×Unit)=>(gp x.1 x.2.1,())
def a116 (x:Int×Int×Unit):eC:=bj [(3,fun _=>{
 σ:=Nat
 ok:=fun k=>x.1+k≤x.2.1∨k=0
 mu:=fun k=>(x.2.1 - x.1).toNat - k
 sl:=fun k=>[(6,.one (.aC I (x.1+k:Int))),(5,.one (.row I 1000))]
 bl:=fun k=>[(1000,.row false 3 I (gp x.1 (x.1+k)))]
 keep:=[1]
 cy:=[]})]
@[irreducible] def vU (iC:List Bool) (v:kN):Bool:= !iC.any (CQ true)&&(!v.2.2.2.2.1||v.2.2.2.2.2.1)
def Qa:bh where
 args:=[.list .bool,SA]
 out:= .data [.bool]
 pre:=fun(x:List Bool×kN×Unit)=>cQ x.1
 fn:=fun(x:List Bool×kN×Unit)=>(vU x.1 x.2.1,())
def lV (v:kN):List Bool:=bif v.2.1 then v.1.set (v.1.length - 1) false else v.1
def lg (seen iC:List Bool) (k:Nat):List Bool:=List.zipWith (fun a b=>a||b) (seen.take k) (iC.take k)++seen.drop k
def m7 (seen iC:List Bool) (gate:Bool) (last:Nat):Nat→Nat→Nat
 |0,f=>f
 |k+1,f=>if seen.getD f false&&(!iC.getD f false&&(iC.getD (f+1) false||gate&&f+1==last)) then m7 seen iC gate last k (f+1) else f
def sP (l:cM) (v:kN):Prop:=l.1<0∨l.1>3∨v.1.length=0∨l.2.2.2.length≠v.1.length∨l.2.1<0∨l.2.1≥v.1.length
instance (l:cM) (v:kN):Decidable (sP l v):=by unfold sP;infer_instance
def xq (st:Int) (fr:Nat) (off:Bool) (seen o:List Bool) (n:Nat) (v:kN):cM×List Int:=
 if st≠3∧o.getD 0 false=false then
  if off=true∧vU (o.drop fr) v=true then(gR,gp fr n)
  else if off=false∧v.2.2.1=true∧v.2.2.2.1=true then((2,fr,off,seen),[])
  else((1,fr,off,seen),[])
 else
  let f:=m7 seen o v.2.1 (n - 1) (n - 1 - fr) fr
  if(f=n - 1∧(v.2.1=true∨o.getD (n - 1) false=true))∨(off=true∧vU (o.drop f) v=true) then(gR,gp fr n)
  else((3,f,off,seen),gp fr f)
@[irreducible] def da (l:cM) (v:kN):cM×List Int:=
 if l.1=0 then(l,[]) else
 if sP l v then(gR,[]) else xq l.1 l.2.1.toNat (l.2.2.1||v.2.2.2.2.2.2) (lg l.2.2.2 (lV v) v.1.length) (lV v) v.1.length v
def VS:bh where
 args:=[ml,SA]
 out:= .data [ml,.list I]
 pre:=fun(x:cM×kN×Unit)=>cQ x.1.2.2.2∧cQ x.2.1.1
 fn:=fun(x:cM×kN×Unit)=>((da x.1 x.2.1).1,(da x.1 x.2.1).2,())
def a66 (x:cM×kN×Unit):eC:=bj [
 (13,fun S=>{
  σ:=Nat
  ok:=fun k=>k≤x.2.1.1.length
  mu:=fun k=>x.2.1.1.length - k
  sl:=fun k=>[(74,.one (.aC I (k:Int)))]
  bl:=fun k=>[(14,.row false 4 .bool (lg x.1.2.2.2 (lV x.2.1) k))]
  keep:=[2,3,4,5,6,7,8,73]
  cy:=[2,3,4,56]}),
 (27,fun S=>{
  σ:=Nat
  ok:=fun f=>x.1.2.1.toNat≤f∧f≤x.2.1.1.length - 1∧m7 (lg x.1.2.2.2 (lV x.2.1) x.2.1.1.length) (lV x.2.1) x.2.1.2.1 (x.2.1.1.length - 1) (x.2.1.1.length - 1 - x.1.2.1.toNat) x.1.2.1.toNat=
   m7 (lg x.1.2.2.2 (lV x.2.1) x.2.1.1.length) (lV x.2.1) x.2.1.2.1 (x.2.1.1.length - 1) (x.2.1.1.length - 1 - f) f
  mu:=fun f=>x.2.1.1.length - f
  sl:=fun _=>[]
  bl:=fun f=>[(2,aaV S 2 1 (.aC I (f:Int)))]
  keep:=[2,3,4,5,6,7,8,10]
  cy:=[3,4,14,56]})]
abbrev dg:=cv×Int×List (Int×Int)
def Nq (f:dg):List aY:=bif f.2.1==0 then[] else[(f.1.1,f.2.1)]
def bf (gs:List dg):List cv:=gs.reverse.map fun f=>f.1
def wy (gs:List dg):List aY:=gs.reverse.flatMap Nq
def oC (b:Int) (gs:List dg):List Int:=b::gs.reverse.map fun f=>f.1.1
def oS (s:Int) (gs:List dg) (stop to:Int):af:=(s,to,stop,bf gs,wy gs,[],[],[],false)
def sS (s:Int) (gs:List dg):af:=(s,bif gs.isEmpty then 0 else -1,0,bf gs,wy gs,[],[],[],false)
theorem jL (f:dg) (gs:List dg):bf (f::gs)=bf gs++[f.1]:=by
 unfold bf;rw[List.reverse_cons,List.map_append];rfl
theorem rX (f:dg) (gs:List dg):wy (f::gs)=wy gs++Nq f:=by
 unfold wy;rw[List.reverse_cons,List.flatMap_append,List.flatMap_singleton]
theorem UQ (b:Int) (f:dg) (gs:List dg):oC b (f::gs)=oC b gs++[f.1.1]:=by
 unfold oC;rw[List.reverse_cons,List.map_append];rfl
theorem fG (gs:List dg):(bf gs).length=gs.length:=by unfold bf;simp
theorem w3 (s:Int) (gs:List dg) (st:cv) (pos:Int) (l:List (Int×Int)) (stop to:Int):eK (sS s gs) st pos stop to=oS s ((st,pos,l)::gs) stop to:=by
 unfold eK oS
 rw[jL,rX]
 rfl
theorem Qz (s:Int) (gs:List dg) (st:cv) (pos:Int) (l:List (Int×Int)):eK (sS s gs) st pos 0 (-1)=sS s ((st,pos,l)::gs):=by
 rw[w3 s gs st pos l]
 rfl
def ua (p:ab) (s b:Int) (gs:List dg) (f:dg):List af:=f.2.2.flatMap (qJ p (mZ p (12 - gs.length)) (sS s gs) (f.1.1,f.1.2.1) (oC b gs++[f.1.1]))
def nw (p:ab) (s b:Int):List dg→List af
 |[]=>[]
 |f::gs=>ua p s b gs f++nw p s b gs
def r6 (p:ab) (s b:Int) (x:ak) (gs:List dg):List af:=mZ p (13 - gs.length) (sS s gs) x (oC b gs)++nw p s b gs
def AQ (b:Int) (gs:List dg) (x:ak):Bool:=decide (gs.length<12)&& !bG (oC b gs) x.1
theorem QV {p:ab} {e i:Int} (h:aI p e=4):bF p e i=[]:=by
 unfold bF
 cases !dx p (e,i) with
 |true=>rfl
 |false=>rw[h];rfl
theorem VB {p:ab} {s b:Int} {x:ak} {gs:List dg} (hl:gs.length≤12) (h:AQ b gs x=false):r6 p s b x gs=nw p s b gs:=by
 unfold r6
 have:mZ p (13 - gs.length) (sS s gs) x (oC b gs)=[]:=by
  obtain⟨n,hn⟩:∃n,13 - gs.length=n+1:=⟨12 - gs.length,by omega⟩
  rw[hn]
  show nA p (mZ p n) (sS s gs) x (oC b gs)=[]
  unfold nA
  have hc:(bG (oC b gs) x.1||decide ((sS s gs).2.2.2.1.length=12))=true:=by
   have e:(sS s gs).2.2.2.1.length=gs.length:=fG gs
   rw[e]
   unfold AQ at h
   rcases Bool.and_eq_false_iff.1 h with h|h
   ·have:=of_decide_eq_false h
    rw[decide_eq_true (show gs.length=12 by omega),Bool.or_true]
   ·have:bG (oC b gs) x.1=true:=by simpa using h
    rw[this,Bool.true_or]
  rw[hc]
  rfl
 rw[this,List.nil_append]
theorem PS {p:ab} {s b:Int} {x:ak} {gs:List dg} (h:AQ b gs x=true):
  r6 p s b x gs=(bif aI p x.1==4 then[oS s (((x.1,x.2, -1),0,[])::gs) 2 (-1)] else[])++nw p s b (((x.1,x.2, -1),0,bF p x.1 x.2)::gs):=by
 unfold AQ at h
 rw[Bool.and_eq_true] at h
 have hl:=of_decide_eq_true h.1
 have hm:bG (oC b gs) x.1=false:=by simpa using h.2
 unfold r6
 obtain⟨n,hn⟩:∃n,13 - gs.length=n+1:=⟨12 - gs.length,by omega⟩
 have hn2:n=12 - gs.length:=by omega
 rw[hn]
 have e1:mZ p (n+1) (sS s gs) x (oC b gs)=nA p (mZ p n) (sS s gs) x (oC b gs):=rfl
 have e:(sS s gs).2.2.2.1.length=gs.length:=fG gs
 rw[e1]
 unfold nA
 rw[e,hm,decide_eq_false (show ¬gs.length=12 by omega)]
 cases hk:(aI p x.1==4) with
 |true=>
  rw[QV (eq_of_beq hk)]
  show[eK (sS s gs) (x.1,x.2, -1) 0 2 (-1)]++nw p s b gs=[_]++(ua p s b gs ((x.1,x.2, -1),0,[])++nw p s b gs)
  rw[w3 s gs _ _ []]
  rfl
 |false=>
  show jc p (mZ p n) (sS s gs) x (oC b gs++[x.1]) (bF p x.1 x.2).length++nw p s b gs=[]++(ua p s b gs ((x.1,x.2, -1),0,bF p x.1 x.2)++nw p s b gs)
  rw[List.nil_append]
  congr 1
  unfold jc ua
  rw[List.take_length,hn2]
theorem D5 {p:ab} {s b:Int} {e i o pos:Int} {w:Int×Int} {ws:List (Int×Int)} {gs:List dg}:
  nw p s b (((e,i,o),pos,w::ws)::gs)=qJ p (mZ p (12 - gs.length)) (sS s gs) (e,i) (oC b gs++[e]) w++nw p s b (((e,i,w.1),w.2,ws)::gs):=by
 show ua p s b gs ((e,i,o),pos,w::ws)++nw p s b gs=_++(ua p s b gs ((e,i,w.1),w.2,ws)++nw p s b gs)
 unfold ua
 rw[List.flatMap_cons,List.append_assoc]
theorem Mf {p:ab} {s b:Int} {e i o pos:Int} {w:Int×Int} {ws:List (Int×Int)} {gs:List dg} (h:decide (0≤b8 p (e,w.1))=true):
  nw p s b (((e,i,o),pos,w::ws)::gs)=[oS s (((e,i,w.1),w.2,ws)::gs) 1 (b8 p (e,w.1))]++nw p s b (((e,i,w.1),w.2,ws)::gs):=by
 rw[D5]
 unfold qJ
 rw[h,w3 s gs _ _ ws]
 rfl
theorem Mg {p:ab} {s b:Int} {e i o pos:Int} {w:Int×Int} {ws:List (Int×Int)} {gs:List dg} (h:decide (0≤b8 p (e,w.1))=false) (hn:(bu p (e,w.1)).2=false):
  nw p s b (((e,i,o),pos,w::ws)::gs)=[oS s (((e,i,w.1),w.2,ws)::gs) 3 (-1)]++nw p s b (((e,i,w.1),w.2,ws)::gs):=by
 rw[D5]
 unfold qJ
 rw[h,hn]
 show[eK (sS s gs) (e,i,w.1) w.2 3 (-1)]++_=_
 rw[w3 s gs _ _ ws]
theorem WC {p:ab} {s b:Int} {e i o pos:Int} {w:Int×Int} {ws:List (Int×Int)} {gs:List dg} (h:decide (0≤b8 p (e,w.1))=false) (hn:(bu p (e,w.1)).2=true):
  nw p s b (((e,i,o),pos,w::ws)::gs)=r6 p s b (bu p (e,w.1)).1 (((e,i,w.1),w.2,ws)::gs):=by
 rw[D5]
 unfold qJ r6
 rw[h,hn,Qz s gs _ _ ws,UQ]
 show mZ p (12 - gs.length) _ _ _++_=mZ p (13 - (gs.length+1)) _ _ _++_
 rw[show 13 - (gs.length+1)=12 - gs.length by omega]
def wB:Nat→Nat
 |0=>1
 |n+1=>2+2*(1+wB n)
def wF:List dg→Nat
 |[]=>0
 |f::gs=>1+f.2.2.length*(1+wB (12 - gs.length))+wF gs
def wE (gs:List dg):Nat:=wB (13 - gs.length)+wF gs
theorem ZL (n:Nat):1≤wB n:=by cases n<;>simp only[wB]<;>omega
theorem UH (p:ab) (e i:Int):(bF p e i).length≤2:=by
 unfold bF
 cases !dx p (e,i) with
 |true=>exact Nat.zero_le _
 |false=>
  cases aI p e==1 with
  |true=>exact(by decide:1≤2)
  |false=>
   cases aI p e==3 with
   |true=>exact(by decide:1≤2)
   |false=>
    cases aI p e==2 with
    |true=>cases i==0<;>simp
    |false=>exact Nat.zero_le _
theorem ZK {p:ab} {e i:Int} {st:cv} {pos:Int} {gs:List dg} (hl:gs.length<12):wF ((st,pos,bF p e i)::gs)<wE gs:=by
 have h2:=UH p e i
 unfold wE
 obtain⟨n,hn⟩:∃n,13 - gs.length=n+1:=⟨12 - gs.length,by omega⟩
 have hn2:12 - gs.length=n:=by omega
 rw[hn]
 show 1+(bF p e i).length*(1+wB (12 - gs.length))+wF gs<(2+2*(1+wB n))+wF gs
 rw[hn2]
 have:=Nat.mul_le_mul_right (1+wB n) h2
 omega
theorem afC (gs:List dg):wF gs<wE gs:=by
 have:=ZL (13 - gs.length)
 unfold wE
 omega
theorem Wj (st:cv) (pos:Int) (l:List (Int×Int)) (gs:List dg):wF gs<wF ((st,pos,l)::gs):=by
 show wF gs<1+_+wF gs
 omega
theorem abQ (st st':cv) (pos pos':Int) (w:Int×Int) (ws:List (Int×Int)) (gs:List dg):wF ((st',pos',ws)::gs)<wF ((st,pos,w::ws)::gs):=by
 show 1+ws.length*_+wF gs<1+(ws.length+1)*_+wF gs
 rw[Nat.succ_mul]
 omega
theorem afB (st st':cv) (pos pos':Int) (w:Int×Int) (ws:List (Int×Int)) (gs:List dg):wE ((st',pos',ws)::gs)<wF ((st,pos,w::ws)::gs):=by
 show wB (13 - (gs.length+1))+(1+ws.length*(1+wB (12 - gs.length))+wF gs)<1+(ws.length+1)*(1+wB (12 - gs.length))+wF gs
 rw[Nat.succ_mul,show 13 - (gs.length+1)=12 - gs.length by omega]
 omega
def Cl (n m:Nat):Prop:=∀y s,pc n y s→pc m y s→dQ n y s=dQ m y s
theorem Cu {n m:Nat} (ih:Cl n m) (e stop:Int) {s:au} (h:gk n s) (k:gk m s):px (dQ n) e stop s=px (dQ m) e stop s:=by
 unfold px
 cases hn:(bu s.1 (e,stop)).2 with
 |true=>exact ih _ _ ⟨h,o0 hn⟩ ⟨k,o0 hn⟩
 |false=>rfl
theorem Mk {n m:Nat} (ih:Cl n m) {y:ak} {s:au} (h:lH n y s) (k:lH m y s):jg (dQ n) y s=jg (dQ m) y s:=by
 obtain⟨⟨h1,h2⟩,h3⟩:=h
 obtain⟨⟨k1,k2⟩,k3⟩:=k
 obtain⟨hz,_⟩:=nj h1.1 y.1
 unfold jg
 cases y.2==0 with
 |true=>
  cases (bL s y.1).1 with
  |true=>
   have e1:=Cu ih y.1 1 (hz.gk h1) (hz.gk k1)
   have q1:=qf (sC n) y.1 1 (hz.gk h1)
   have e2:=Cu ih y.1 2 (q1.gk (hz.gk h1)) (q1.gk (hz.gk k1))
   show px (dQ n) y.1 2 (px (dQ n) y.1 1 (bL s y.1).2)=px (dQ m) y.1 2 (px (dQ m) y.1 1 (bL s y.1).2)
   rw[e2,e1]
  |false=>rfl
 |false=>
  cases !bn (cY s) (y.1,y.2)&& !bn (aP s) (y.1,y.2) with
  |true=>rfl
  |false=>
   cases (bL s y.1).1 with
   |true=>exact Cu ih y.1 0 (hz.gk h1) (hz.gk k1)
   |false=>rfl
theorem UO {n m:Nat} (ih:Cl n m) {y:ak} {s:au} (h:lH n y s) (k:lH m y s):vf (dQ n) y s=vf (dQ m) y s:=by
 have h1:=h.1.1
 have k1:=k.1.1
 obtain⟨hz,_⟩:=nj h1.1 y.1
 unfold vf
 cases decide (0≤b8 s.1 y)&& !s.1.2.2.2.2.2.2.2.2 with
 |true=>rfl
 |false=>
  cases aI s.1 y.1==4 with
  |true=>rfl
  |false=>
   cases aI s.1 y.1==2 with
   |true=>exact Mk ih h k
   |false=>
    cases (bL s y.1).1 with
    |true=>exact Cu ih _ _ (hz.gk h1) (hz.gk k1)
    |false=>rfl
theorem IH:∀n m,Cl n m
 |0,_=>fun y s h _=>absurd h xL
 |_+1,0=>fun y s _ k=>absurd k xL
 |n+1,m+1=>fun y s h k=>by
  show sG (dQ n) y s=sG (dQ m) y s
  unfold sG
  cases hc:kD (iT s) y.1||fS (cr s) y with
  |true=>rfl
  |false=>
   rw[Bool.or_eq_false_iff] at hc
   exact UO (IH n m) (wA h hc.2).1 (wA k hc.2).1
def mO (p:ab) (e stop:Int):List ak:=bif(bu p (e,stop)).2 then[(bu p (e,stop)).1] else[]
def fin (ts:List ak) (s:au):au:=ts.foldl (fun s y=>dQ 161 y s) s
theorem zh (a b:List ak) (s:au):fin (a++b) s=fin b (fin a s):=List.foldl_append
def jP (y:ak) (s:au):List ak×au:=
 bif y.2==0 then(bif(bL s y.1).1 then(mO s.1 y.1 1++mO s.1 y.1 2,(bL s y.1).2) else([],(bL s y.1).2)) else
 bif !bn (cY s) (y.1,y.2)&& !bn (aP s) (y.1,y.2) then([],bif bn (aP s) (y.1,3 - y.2) then s else zO s (aP s++[(y.1,3 - y.2)])) else
 (bif(bL s y.1).1 then(mO s.1 y.1 0,(bL s y.1).2) else([],(bL s y.1).2))
def xW (y:ak) (s:au):List ak×au:=
 bif decide (0≤b8 s.1 y)&& !s.1.2.2.2.2.2.2.2.2 then([],bif bG (cD s) (b8 s.1 y) then s else Bg s (cD s++[b8 s.1 y])) else
 bif aI s.1 y.1==4 then([],ui s) else bif aI s.1 y.1==2 then jP y s else
 (bif(bL s y.1).1 then(mO s.1 y.1 (mi s.1 y.1 y.2 0).1,(bL s y.1).2) else([],(bL s y.1).2))
def iV (y:ak) (s:au):List ak×au:=
 bif kD (iT s) y.1||fS (cr s) y then([],s) else xW y (eN s (cr s++[y]))
theorem Gq {s:au} (e stop:Int) (h:gk 160 s):px (dQ 160) e stop s=fin (mO s.1 e stop) s:=by
 unfold px mO
 cases hn:(bu s.1 (e,stop)).2 with
 |true=>exact IH 160 161 _ _ ⟨h,o0 hn⟩ ⟨⟨h.1,by have:=h.2;omega⟩,o0 hn⟩
 |false=>rfl
theorem Hn {p:ab} {e stop:Int} {x:ak} (h:x∈mO p e stop):x∈bT p:=by
 unfold mO at h
 cases hn:(bu p (e,stop)).2 with
 |true=>
  rw[hn] at h
  have:x=(bu p (e,stop)).1:=List.mem_singleton.1 h
  rw[this]
  exact o0 hn
 |false=>rw[hn] at h;exact absurd h List.not_mem_nil
theorem yE (p:ab) (e stop:Int):(mO p e stop).length≤1:=by
 unfold mO
 cases (bu p (e,stop)).2<;>simp
structure Stepped (s s':au) (ys:List ak) (out:au):Prop where
 keeps:ln s s'
 QS:∀y∈ys,y∈bT s.1
 two:ys.length≤2
 same:out=fin ys s'
theorem F9 {y:ak} {s:au} (h:lH 160 y s):Stepped s (jP y s).2 (jP y s).1 (jg (dQ 160) y s):=by
 obtain⟨⟨h1,h2⟩,h3⟩:=h
 obtain⟨hz,_⟩:=nj h1.1 y.1
 have none:∀{s':au},ln s s'→Stepped s s' [] s':=fun k=>⟨k,fun y hy=>absurd hy List.not_mem_nil,Nat.zero_le _,rfl⟩
 unfold jg jP
 cases y.2==0 with
 |true=>
  cases (bL s y.1).1 with
  |true=>
   refine⟨hz,fun x hx=> ?_,?_,?_⟩
   ·rcases List.mem_append.1 hx with hx|hx<;>exact Hn hx
   ·show(mO s.1 y.1 1++mO s.1 y.1 2).length≤2
    rw[List.length_append]
    have:=yE s.1 y.1 1
    have:=yE s.1 y.1 2
    omega
   ·have q1:=qf (sC 160) y.1 1 (hz.gk h1)
    show px (dQ 160) y.1 2 (px (dQ 160) y.1 1 (bL s y.1).2)=fin (mO s.1 y.1 1++mO s.1 y.1 2) (bL s y.1).2
    rw[Gq _ _ (q1.gk (hz.gk h1)),q1.qG,Gq _ _ (hz.gk h1),zh,hz.qG]
  |false=>exact none hz
 |false=>
  cases !bn (cY s) (y.1,y.2)&& !bn (aP s) (y.1,y.2) with
  |true=>
   cases bn (aP s) (y.1,3 - y.2) with
   |true=>exact none (.refl h1.1)
   |false=>
    refine none ⟨⟨h1.1.vt,h1.1.yT,h1.1.nodup,h1.1.sub,?_,h1.1.holds,h1.1.nk,h1.1.steps⟩,rfl,Nat.le_refl _⟩
    show(aP s++[(y.1,3 - y.2)]).length≤(cr s).length
    rw[List.length_append]
    show(aP s).length+1≤_
    omega
  |false=>
   cases (bL s y.1).1 with
   |true=>
    refine⟨hz,fun x hx=>Hn hx,?_,?_⟩
    ·show(mO s.1 y.1 0).length≤2
     have:=yE s.1 y.1 0
     omega
    ·show px (dQ 160) y.1 0 (bL s y.1).2=fin (mO s.1 y.1 0) (bL s y.1).2
     rw[Gq _ _ (hz.gk h1),hz.qG]
   |false=>exact none hz
theorem Mw {y:ak} {s:au} (h:lH 160 y s) (hh:(cD s).length<(cr s).length):Stepped s (xW y s).2 (xW y s).1 (vf (dQ 160) y s):=by
 have h1:=h.1.1
 obtain⟨hz,_⟩:=nj h1.1 y.1
 have none:∀{s':au},ln s s'→Stepped s s' [] s':=fun k=>⟨k,fun y hy=>absurd hy List.not_mem_nil,Nat.zero_le _,rfl⟩
 unfold vf xW
 cases decide (0≤b8 s.1 y)&& !s.1.2.2.2.2.2.2.2.2 with
 |true=>
  cases bG (cD s) (b8 s.1 y) with
  |true=>exact none (.refl h1.1)
  |false=>
   refine none ⟨⟨h1.1.vt,h1.1.yT,h1.1.nodup,h1.1.sub,h1.1.guards,?_,h1.1.nk,h1.1.steps⟩,rfl,Nat.le_refl _⟩
   show(cD s++[b8 s.1 y]).length≤(cr s).length
   rw[List.length_append]
   show(cD s).length+1≤_
   omega
 |false=>
  cases aI s.1 y.1==4 with
  |true=>exact none (zw h1.1)
  |false=>
   cases aI s.1 y.1==2 with
   |true=>exact F9 h
   |false=>
    cases (bL s y.1).1 with
    |true=>
     refine⟨hz,fun x hx=>Hn hx,?_,?_⟩
     ·show(mO s.1 y.1 _).length≤2
      have:=yE s.1 y.1 (mi s.1 y.1 y.2 0).1
      omega
     ·show px (dQ 160) y.1 _ (bL s y.1).2=fin (mO s.1 y.1 _) (bL s y.1).2
      rw[Gq _ _ (hz.gk h1),hz.qG]
    |false=>exact none hz
def eU (ts:List ak) (s:au):Nat:=3*((bT s.1).length - (cr s).length)+ts.length
theorem Vs {y:ak} {ts:List ak} {s:au} (h:pc 161 y s):
  fin (y::ts) s=fin ((iV y s).1++ts) (iV y s).2∧ln s (iV y s).2∧(∀x∈(iV y s).1,x∈bT s.1)∧eU ((iV y s).1++ts) (iV y s).2<eU (y::ts) s:=by
 have e0:fin (y::ts) s=fin ts (sG (dQ 160) y s):=rfl
 rw[e0]
 unfold sG iV
 cases hc:kD (iT s) y.1||fS (cr s) y with
 |true=>
  refine⟨rfl,.refl h.1.1,fun x hx=>absurd hx List.not_mem_nil,?_⟩
  show eU ([]++ts) s<eU (y::ts) s
  unfold eU
  rw[List.nil_append,List.length_cons]
  omega
 |false=>
  rw[Bool.or_eq_false_iff] at hc
  obtain⟨m1,m2,m3⟩:=wA h hc.2
  have k:=Mw m1 m2
  refine⟨?_,m3.trans k.keeps,fun x hx=>k.QS x hx,?_⟩
  ·show fin ts (vf (dQ 160) y (eN s (cr s++[y])))=fin ((xW y (eN s (cr s++[y]))).1++ts) (xW y (eN s (cr s++[y]))).2
   rw[k.same,zh]
  ·show eU ((xW y (eN s (cr s++[y]))).1++ts) (xW y (eN s (cr s++[y]))).2<eU (y::ts) s
   have h1:=k.keeps.met
   have h2:=k.keeps.qG
   have h3:=pX k.keeps.inv.nodup k.keeps.inv.sub
   have h4:=k.two
   have hl:(cr (eN s (cr s++[y]))).length=(cr s).length+1:=by
    show(cr s++[y]).length=_
    rw[List.length_append]
    rfl
   have h6:bT (xW y (eN s (cr s++[y]))).2.1=bT s.1:=by rw[h2];rfl
   rw[h6] at h3
   unfold eU
   rw[List.length_append,List.length_cons,h6]
   omega
theorem AO {p:ab} {r:af} {x:ak} (h:x∈bA p r):(bu p x).2=true:=by
 unfold bA c7 at h
 obtain⟨s,_,hx⟩:=List.mem_flatMap.1 h
 unfold cB at hx
 exact(List.mem_filter.1 hx).2
theorem Iq {p:ab} {r:af} (h:o6 p r):∀k,k≤(bA p r).length→bE p r k=fin (((bA p r).take k).map fun x=>(bu p x).1) (s0 p r)
 |0,_=>rfl
 |k+1,hk=>by
  have ih:=Iq h k (by omega)
  have hp:=(wM h k).2
  have hj:=AO (fw zP (show k<(bA p r).length by omega))
  rw[List.take_succ_eq_append_getElem (by omega),List.map_append,zh,←ih]
  show px (dQ 161) ((bA p r).getD k zP).1 ((bA p r).getD k zP).2 (bE p r k)=_
  have e:(bA p r)[k]'(by omega)=(bA p r).getD k zP:=by simp[List.getD_eq_getElem?_getD,show k<(bA p r).length by omega]
  unfold px
  rw[hp,show(((bA p r).getD k zP).1,((bA p r).getD k zP).2)=(bA p r).getD k zP from rfl,hj,e]
  rfl
theorem agE (n:aX) (x:Int×Int):ai (ah ay []) Tryz.f144 uY aq (n,x,())=(
U (aT aL n.2.1 x) fun(y2:Option (Int×Int))=>y2.getD ((0:Int),(0:Int))=(fi n x).1∧y2.isSome=(fi n x).2∧True):=by kernel_rfl
theorem Mq:aM Tryz.prog 144 uY:=
 aM.bZ (l:=[]) (A:=fun _=>aq) aH trivial Tryz.func144 (by kernel_rfl) (by kernel_rfl) fun x _ hp=>by
  obtain⟨n,y,u⟩:=x
  show ai (ah ay []) Tryz.f144 uY aq (n,y,())
  rw[agE]
  refine U.mk fun y2 e2=> ?_
  unfold fi
  rw[e2]
  exact⟨rfl,rfl,trivial⟩
theorem agD (n:aX) (x:Int×Int):ai (ah ay []) Tryz.f147 Ds aq (n,x,())=(
U (aT aL n.2.2.1 x) fun(y2:Option Int)=>
(y2.isSome=true→y2.getD (0:Int)=kL n x∧True)∧(y2.isSome=false→(-1:Int)=kL n x∧True)):=by kernel_rfl
theorem W3:aM Tryz.prog 147 Ds:=
 aM.bZ (l:=[]) (A:=fun _=>aq) aH trivial Tryz.func147 (by kernel_rfl) (by kernel_rfl) fun x _ hp=>by
  obtain⟨n,y,u⟩:=x
  show ai (ah ay []) Tryz.f147 Ds aq (n,y,())
  rw[agD]
  refine U.mk fun y2 e2=> ?_
  unfold kL
  have e2:y2=aT aL n.2.2.1 y:=e2
  rw[←e2]
  refine⟨fun h=> ?_,fun h=> ?_⟩
  ·rw[h];exact⟨rfl,trivial⟩
  ·rw[h];exact⟨rfl,trivial⟩
theorem Se (n:aX) (e:Int):(BH n e).2.1=aI n.1 e:=by
 unfold BH aI
 cases (decide (e<0)||decide ((n.1.1.length:Int)≤e))<;>rfl
theorem af4 (n:aX) (e:Int):ai (ah ay []) Tryz.f221 K0 aq (n,e,())=(
U (bif decide (e<(0:Int)) then true else decide (e≥(↑n.1.1.length:Int))) fun(y2:Bool)=>
(y2=true→([],(0:Int),(0:Int))=BH n e∧True)∧(y2=false→aQ e n.1.1.length∧n.1.1.getD e.toNat ([],(0:Int),(0:Int))=BH n e∧True)):=by kernel_rfl
theorem ajA (n:aX) (e:Int):ai (ah ay []) Tryz.f221 K0 aq (n,e,()):=by
 rw[af4]
 refine U.mk fun y2 e2=> ?_
 have key:y2=(decide (e<0)||decide ((n.1.1.length:Int)≤e)):=by
  rw[e2]
  cases decide (e<0)<;>rfl
 unfold BH
 rw[←key]
 refine⟨fun h=> ?_,fun h=> ?_⟩
 ·rw[h];exact⟨rfl,trivial⟩
 ·rw[h]
  rw[h] at key
  have:=Bool.or_eq_false_iff.1 key.symm
  have h1:¬e<0:=of_decide_eq_false this.1
  have h2:¬(n.1.1.length:Int)≤e:=of_decide_eq_false this.2
  exact⟨⟨by omega,by omega⟩,rfl,trivial⟩
theorem acs:aM Tryz.prog 221 K0:=
 aM.bZ (l:=[]) (A:=fun _=>aq) aH trivial Tryz.func221 (by kernel_rfl) (by kernel_rfl) fun x _ hp=>ajA x.1 x.2.1
theorem v148 (n:aX) (e:Int):ai (ah ay [(221,K0)]) Tryz.f148 uX aq (n,e,())=(
True∧(BH n e).2.1=aI n.1 e∧True):=by kernel_rfl
theorem Mp:aM Tryz.prog 148 uX:=
 aM.bZ (l:=[(221,K0)]) (A:=fun _=>aq) aH ⟨acs,trivial⟩ Tryz.func148 (by kernel_rfl) (by kernel_rfl) fun x _ hp=>by
  obtain⟨n,e,u⟩:=x
  show ai (ah ay [(221,K0)]) Tryz.f148 uX aq (n,e,())
  rw[v148]
  exact⟨trivial,Se n e,trivial⟩
theorem afS (n:aX) (e:Int) (i:Int):ai (ah ay [(148,uX),(235,x8)]) Tryz.f251 Dp aq (n,e,i,())=(
U (bif decide (i<(0:Int)) then true else decide (i≥cO (aI n.1 e))) fun(y3:Bool)=>
U (aI n.1 e==(1:Int)) fun(y4:Bool)=>
U (aI n.1 e==(3:Int)) fun(y5:Bool)=>
U [(1:Int),(0:Int),(3:Int),(2:Int)] fun(y6:List Int)=>
U (aI n.1 e==(2:Int)) fun(y7:Bool)=>
U [(0:Int),(1:Int),(2:Int)] fun(y8:List Int)=>
(decide (i<(0:Int))=false→True)∧
(decide (i<(0:Int))=false→True)∧
(y3=true→[]=bF n.1 e i∧True)∧
(y3=false→
True∧
(y4=true→bq IntKind.i64 ((1:Int) - i)∧(List.replicate (1:Nat) ((0:Int),(0:Int))).set (0:Nat) ((1:Int) - i,(0:Int))=bF n.1 e i∧True)∧
(y4=false→
(y5=true→
[(0:Int),(0:Int),(0:Int),(0:Int)].length=(4:Nat)∧
(aQ i (4:Nat)∧y6.length=(4:Nat))∧
(List.replicate (1:Nat) ((0:Int),(0:Int))).set (0:Nat) (y6.getD i.toNat (0:Int),(0:Int))=bF n.1 e i∧True)∧
(y5=false→
(y7=true→
((i==(0:Int))=true→
((List.replicate (2:Nat) ((0:Int),(0:Int))).set (0:Nat) ((1:Int),(1:Int))).set (1:Nat) ((2:Int),(2:Int))=bF n.1 e i∧True)∧
((i==(0:Int))=false→
aQ i y8.length∧(List.replicate (1:Nat) ((0:Int),(0:Int))).set (0:Nat) ((0:Int),y8.getD i.toNat (0:Int))=bF n.1 e i∧True))∧
(y7=false→[]=bF n.1 e i∧True))))):=by kernel_rfl
theorem UJ {p:ab} {e i:Int} (h:(bif decide (i<0) then true else decide (i≥cO (aI p e)))=true):bF p e i=[]:=by
 have hh:dx p (e,i)=false:=by
  cases hc:dx p (e,i) with
  |false=>rfl
  |true=>
   obtain⟨⟨h1,h2⟩,h3,h4⟩:=xB hc
   have h3:0≤i:=h3
   have h4:i<cO (aI p e):=h4
   rw[decide_eq_false (show ¬i<0 by omega),show decide (i≥cO (aI p e))=false from decide_eq_false (by show ¬i≥_;omega)] at h
   cases h
 unfold bF
 rw[hh]
 rfl
theorem UG {p:ab} {e i:Int} (h:(bif decide (i<0) then true else decide (i≥cO (aI p e)))=false):dx p (e,i)=true∧0≤i∧i<cO (aI p e):=by
 obtain⟨h1,h2⟩:=vF h
 have h1:¬i<0:=of_decide_eq_false h1
 have h2:¬i≥cO (aI p e):=of_decide_eq_false h2
 have hk:aI p e≠0:=fun h0=>by
  rw[h0] at h2
  exact h2 (by show i≥cO 0;rw[show cO 0=0 by unfold cO;rfl];omega)
 have hr:=qi hk
 refine⟨?_,by omega,by omega⟩
 unfold dx
 rw[decide_eq_true (show 0≤(e,i).1 from hr.1),decide_eq_true (show(e,i).1<_ from hr.2),decide_eq_true (show 0≤(e,i).2 by show 0≤i;omega),decide_eq_true (show(e,i).2<_ by show i<cO (aI p e);omega)]
 rfl
theorem ajn (n:aX) (e i:Int):ai (ah ay [(148,uX),(235,x8)]) Tryz.f251 Dp aq (n,e,i,()):=by
 rw[afS]
 refine U.mk fun y3 e3=>U.mk fun y4 e4=>U.mk fun y5 e5=>U.mk fun y6 e6=>U.mk fun y7 e7=>U.mk fun y8 e8=>⟨fun _=>trivial,fun _=>trivial,fun h=>⟨?_,trivial⟩,fun h=> ?_⟩
 ·exact(UJ (by rw[←e3];exact h)).symm
 obtain⟨hh,h0,hE⟩:=UG (by rw[←e3];exact h)
 have e1:cO 1=2:=by unfold cO;rfl
 have e2:cO 2=3:=by unfold cO;rfl
 have e3':cO 3=4:=by unfold cO;rfl
 refine⟨trivial,fun h1=> ?_,fun h1=>⟨fun h3=> ?_,fun h3=>⟨fun h2=>⟨fun hi=> ?_,fun hi=> ?_⟩,fun h2=> ?_⟩⟩⟩
 ·rw[e4] at h1
  have hk:=eq_of_beq h1
  rw[hk,e1] at hE
  refine⟨bg (by omega) (by omega),?_,trivial⟩
  unfold bF
  rw[hh,h1]
  rfl
 ·rw[e4] at h1
  rw[e5] at h3
  have hk:=eq_of_beq h3
  rw[hk,e3'] at hE
  refine⟨rfl,⟨⟨by omega,by omega⟩,by rw[e6];rfl⟩,?_,trivial⟩
  unfold bF
  rw[hh,h1,h3,e6]
  have hi:i=0∨i=1∨i=2∨i=3:=by omega
  rcases hi with rfl|rfl|rfl|rfl<;>rfl
 ·rw[e4] at h1
  rw[e5] at h3
  rw[e7] at h2
  refine⟨?_,trivial⟩
  unfold bF
  rw[hh,h1,h3,h2,hi]
  rfl
 ·rw[e4] at h1
  rw[e5] at h3
  rw[e7] at h2
  have hk:=eq_of_beq h2
  rw[hk,e2] at hE
  have Va:i≠0:=fun h=>by rw[h] at hi;cases hi
  refine⟨⟨by omega,by rw[e8];show i<3;omega⟩,?_,trivial⟩
  unfold bF
  rw[hh,h1,h3,h2,hi,e8]
  have hi:i=1∨i=2:=by omega
  rcases hi with rfl|rfl<;>rfl
 ·rw[e4] at h1
  rw[e5] at h3
  rw[e7] at h2
  refine⟨?_,trivial⟩
  unfold bF
  rw[hh,h1,h3,h2]
  rfl
theorem WW:aM Tryz.prog 251 Dp:=
 aM.bZ (l:=[(148,uX),(235,x8)]) (A:=fun _=>aq) aH ⟨Mp,Q2,trivial⟩ Tryz.func251 (by kernel_rfl) (by kernel_rfl) fun x hw hp=>ajn x.1 x.2.1 x.2.2.1
theorem af3 (n:aX) (e:Int) (i:Int) (pos:Int):ai (ah ay [(251,Dp)]) Tryz.f223 KY (YY (n,e,i,pos,())) (n,e,i,pos,())=(
U (bF n.1 e i).length fun(y4:Nat)=>
U (cw n.1 e i pos) fun(y5:Int×Bool)=>
True∧
(∃(lx:Nat),(lx≤y4∧kI (jf pos) (bF n.1 e i) lx)∧(↑lx:Int)=(0:Int)∧pos=pos∧bF n.1 e i=bF n.1 e i∧(↑y4:Int)=(↑y4:Int)∧True)∧
∀(s6:Nat),
U (decide ((↑s6:Int)<(↑y4:Int))) fun(y7:Bool)=>
U ((bF n.1 e i).getD (↑s6:Int).toNat ((0:Int),(0:Int))) fun(y8:Int×Int)=>
U (bif y8.2==(0:Int) then true else y8.2==pos) fun(y9:Bool)=>
s6≤y4∧kI (jf pos) (bF n.1 e i) s6→
(y7=true→
aQ (↑s6:Int) y4∧
(y9=true→y8.1=y5.1∧true=y5.2∧True)∧
(y9=false→
bq IntKind.i64 ((↑s6:Int)+(1:Int))∧
∃(cU:Nat),
(cU≤y4∧kI (jf pos) (bF n.1 e i) cU)∧
y4 - cU<y4 - s6∧(↑cU:Int)=(↑s6:Int)+(1:Int)∧pos=pos∧bF n.1 e i=bF n.1 e i∧(↑y4:Int)=(↑y4:Int)∧True))∧
(y7=false→(0:Int)=y5.1∧false=y5.2∧True)):=by kernel_rfl
theorem ajy (n:aX) (e i pos:Int):ai (ah ay [(251,Dp)]) Tryz.f223 KY (YY (n,e,i,pos,())) (n,e,i,pos,()):=by
 have hl:=zV n.1 e i
 rw[af3]
 refine U.mk fun y4 e4=>U.mk fun y5 e5=> ?_
 simp only[true_and,and_true,eq_self,Int.toNat_natCast]
 refine⟨⟨0,⟨by omega,rfl⟩,rfl⟩,fun s=>U.mk fun y7 e7=>U.mk fun y8 e8=>U.mk fun y9 e9=> ?_⟩
 rintro⟨h1,h2⟩
 have h2:((bF n.1 e i).take s).any (jf pos)=false:=h2
 have e9:jf pos y8=y9:=by
  rw[e9]
  unfold jf
  have key:∀a b:Bool,(a||b)=(bif a then true else b):=by decide
  exact key _ _
 subst e4
 refine⟨fun hs=> ?_,fun hs=> ?_⟩
 ·have hs:=ba e7 hs
  refine⟨⟨by omega,by omega⟩,fun h=> ?_,fun h=>⟨bg (by omega) (by omega),s+1,⟨by omega,?_⟩,by omega,by omega⟩⟩
  ·have hf:(bF n.1 e i).find? (jf pos)=some y8:=by
    rw[e8]
    exact C6 (0,0) hs h2 (by rw[←e8,e9,h])
   have:cw n.1 e i pos=(y8.1,true):=by
    unfold cw
    exact congrArg GV hf
   rw[e5,this]
   exact⟨rfl,rfl⟩
  ·exact any_succ (0,0) hs h2 (by rw[←e8,e9,h])
 ·have hf:(bF n.1 e i).find? (jf pos)=none:=xE (br e7 hs) h2
  have:cw n.1 e i pos=(0,false):=by
   unfold cw
   exact congrArg GV hf
  rw[e5,this]
  exact⟨rfl,rfl⟩
theorem acq:aM Tryz.prog 223 KY:=
 aM.bZ (l:=[(251,Dp)]) (A:=YY) aH ⟨WW,trivial⟩ Tryz.func223 (by kernel_rfl) (by kernel_rfl) fun x _ _=>ajy x.1 x.2.1 x.2.2.1 x.2.2.2.1
theorem agz (n:aX) (e:Int) (i:Int) (pos:Int):ai (ah ay [(223,KY)]) Tryz.f151 Lz aq (n,e,i,pos,())=(
U (cw n.1 e i pos) fun(y4:Int×Bool)=>True∧y4.1=y4.1∧y4.2=y4.2∧True):=by kernel_rfl
theorem ada:aM Tryz.prog 151 Lz:=
 aM.bZ (l:=[(223,KY)]) (A:=fun _=>aq) aH ⟨acq,trivial⟩ Tryz.func151 (by kernel_rfl) (by kernel_rfl) fun x _ hp=>by
  obtain⟨n,e,i,pos,u⟩:=x
  show ai (ah ay [(223,KY)]) Tryz.f151 Lz aq (n,e,i,pos,())
  rw[agz]
  simp only[U,true_and,and_true,eq_self]
theorem v54 (n:aX):ai (ah ay []) Tryz.f54 c54 aq (n,())=(
(↑n.1.2.2.1.length:Int)=(↑n.1.2.2.1.length:Int)∧True):=by kernel_rfl
theorem ahj:aM Tryz.prog 54 c54:=
 aM.bZ (l:=[]) (A:=fun _=>aq) aH trivial Tryz.func54 (by kernel_rfl) (by kernel_rfl) fun x _ hp=>by
  obtain⟨n,u⟩:=x
  show ai (ah ay []) Tryz.f54 c54 aq (n,())
  rw[v54]
  simp only[true_and,and_true,eq_self]
theorem v99 (n:aX):ai (ah ay [(109,Dw)]) Tryz.f99 VK aq (n,())=(
kG n.1∧n.1=n.1∧True):=by kernel_rfl
theorem aa9:aM Tryz.prog 99 VK:=
 aM.bZ (l:=[(109,Dw)]) (A:=fun _=>aq) aH ⟨W8,trivial⟩ Tryz.func99 (by kernel_rfl) (by kernel_rfl) fun x _ hp=>by
  obtain⟨n,u⟩:=x
  show ai (ah ay [(109,Dw)]) Tryz.f99 VK aq (n,())
  rw[v99]
  exact⟨hp,rfl,trivial⟩
theorem afT (s:Int×Int×Int) (e:Int):ai (ah ay []) Tryz.f250 IQ aq (s,e,())=(
(s.1==e)=(s.1==e)∧True):=by kernel_rfl
theorem acf:aM Tryz.prog 250 IQ:=
 aM.bZ (l:=[]) (A:=fun _=>aq) aH trivial Tryz.func250 (by kernel_rfl) (by kernel_rfl) fun x _ hp=>by
  obtain⟨s,e,u⟩:=x
  show ai (ah ay []) Tryz.f250 IQ aq (s,e,())
  rw[afT]
  exact⟨rfl,trivial⟩
theorem af5 (s:Int×Int×Int) (e:Int):ai (ah ay []) Tryz.f220 K1 aq (s,e,())=(
(s.1==e)=(s.1==e)∧True):=by kernel_rfl
theorem acu:aM Tryz.prog 220 K1:=
 aM.bZ (l:=[]) (A:=fun _=>aq) aH trivial Tryz.func220 (by kernel_rfl) (by kernel_rfl) fun x _ hp=>by
  obtain⟨s,e,u⟩:=x
  show ai (ah ay []) Tryz.f220 K1 aq (s,e,())
  rw[af5]
  exact⟨rfl,trivial⟩
theorem T7 (l:List (Int×Int×Int)) (v:Int×Unit):ai (ah ay [(250,IQ)]) Tryz.f252 tI (EF (l,v,())) (l,v,())=(
(∃(dp:Nat),(dp≤l.length∧(List.take dp l).any (eE v.1)=false)∧(↑dp:Int)=(0:Int)∧l=l∧v=v∧(↑l.length:Int)=(↑l.length:Int)∧True)∧
∀(s2:Nat),
U (decide ((↑s2:Int)<(↑l.length:Int))) fun(y3:Bool)=>
U ((l.getD (↑s2:Int).toNat ((0:Int),(0:Int),(0:Int))).1==v.1) fun(y4:Bool)=>
s2≤l.length∧(List.take s2 l).any (eE v.1)=false→
(y3=true→
aQ (↑s2:Int) l.length∧
True∧
(y4=true→(↑s2:Int)=fj (eE v.1) l∧True)∧
(y4=false→
bq IntKind.i64 ((↑s2:Int)+(1:Int))∧
∃(fQ:Nat),
(fQ≤l.length∧(List.take fQ l).any (eE v.1)=false)∧
l.length - fQ<l.length - s2∧(↑fQ:Int)=(↑s2:Int)+(1:Int)∧l=l∧v=v∧(↑l.length:Int)=(↑l.length:Int)∧True))∧
(y3=false→(-1:Int)=fj (eE v.1) l∧True)):=by kernel_rfl
theorem V3 (l:List cv) (v:Int×Unit) (hw:l.length≤1000):ai (ah ay [(250,IQ)]) Tryz.f252 tI (EF (l,v,())) (l,v,()):=by
 rw[T7]
 simp only[true_and,and_true,eq_self]
 refine⟨⟨0,⟨by omega,by simp⟩,by omega⟩,fun s=>U.mk fun y4 e4=>U.mk fun y5 e5=> ?_⟩
 rintro⟨h1,h2⟩
 rw[Int.toNat_natCast] at e5
 refine⟨fun hs=> ?_,fun hs=> ?_⟩
 ·have hs:=ba e4 hs
  refine⟨⟨by omega,by omega⟩,fun e=> ?_,fun e=>⟨bg (by omega) (by omega),s+1,⟨by omega,?_⟩,by omega,by omega⟩⟩
  ·exact rJ iq hs h2 (by show((l.getD s iq).1==v.1)=true;rw[←e];exact e5.symm)
  ·exact any_succ iq hs h2 (by show((l.getD s iq).1==v.1)=false;rw[←e];exact e5.symm)
 ·exact qn (s:=s) (br e4 hs) h2
theorem Q0:aM Tryz.prog 252 tI:=
 aM.bZ (l:=[(250,IQ)]) (A:=EF) aH ⟨acf,trivial⟩ Tryz.func252 (by kernel_rfl) (by kernel_rfl) fun x hw hp=>V3 x.1 x.2.1 hp
theorem T8 (l:List (Int×Int×Int)) (v:Int×Unit):ai (ah ay [(2510252,tI)]) Tryz.f219 tJ aq (l,v,())=(
l.length≤(1000:Nat)∧decide (fj (eE v.1) l≥(0:Int))=l.any (eE v.1)∧True):=by kernel_rfl
theorem Q1:aM Tryz.prog 219 tJ:=
 aM.bZ (l:=[(2510252,tI)]) (A:=fun _=>aq) aH ⟨Q0,trivial⟩ Tryz.func219 (by kernel_rfl) (by kernel_rfl) fun x hw hp=>by
  obtain⟨l,v,u⟩:=x
  show ai (ah ay [(2510252,tI)]) Tryz.f219 tJ aq (l,v,())
  rw[T8]
  exact⟨hp,p6,trivial⟩
theorem T9 (l:List (Int×Int×Int)) (v:Int×Unit):ai (ah ay [(220,K1)]) Tryz.f252 tK (EG (l,v,())) (l,v,())=(
(∃(dp:Nat),(dp≤l.length∧(List.take dp l).any (eE v.1)=false)∧(↑dp:Int)=(0:Int)∧l=l∧v=v∧(↑l.length:Int)=(↑l.length:Int)∧True)∧
∀(s2:Nat),
U (decide ((↑s2:Int)<(↑l.length:Int))) fun(y3:Bool)=>
U ((l.getD (↑s2:Int).toNat ((0:Int),(0:Int),(0:Int))).1==v.1) fun(y4:Bool)=>
s2≤l.length∧(List.take s2 l).any (eE v.1)=false→
(y3=true→
aQ (↑s2:Int) l.length∧
True∧
(y4=true→(↑s2:Int)=fj (eE v.1) l∧True)∧
(y4=false→
bq IntKind.i64 ((↑s2:Int)+(1:Int))∧
∃(fQ:Nat),
(fQ≤l.length∧(List.take fQ l).any (eE v.1)=false)∧
l.length - fQ<l.length - s2∧(↑fQ:Int)=(↑s2:Int)+(1:Int)∧l=l∧v=v∧(↑l.length:Int)=(↑l.length:Int)∧True))∧
(y3=false→(-1:Int)=fj (eE v.1) l∧True)):=by kernel_rfl
theorem V4 (l:List cv) (v:Int×Unit) (hw:l.length≤1000):ai (ah ay [(220,K1)]) Tryz.f252 tK (EG (l,v,())) (l,v,()):=by
 rw[T9]
 simp only[true_and,and_true,eq_self]
 refine⟨⟨0,⟨by omega,by simp⟩,by omega⟩,fun s=>U.mk fun y4 e4=>U.mk fun y5 e5=> ?_⟩
 rintro⟨h1,h2⟩
 rw[Int.toNat_natCast] at e5
 refine⟨fun hs=> ?_,fun hs=> ?_⟩
 ·have hs:=ba e4 hs
  refine⟨⟨by omega,by omega⟩,fun e=> ?_,fun e=>⟨bg (by omega) (by omega),s+1,⟨by omega,?_⟩,by omega,by omega⟩⟩
  ·exact rJ iq hs h2 (by show((l.getD s iq).1==v.1)=true;rw[←e];exact e5.symm)
  ·exact any_succ iq hs h2 (by show((l.getD s iq).1==v.1)=false;rw[←e];exact e5.symm)
 ·exact qn (s:=s) (br e4 hs) h2
theorem Q5:aM Tryz.prog 252 tK:=
 aM.bZ (l:=[(220,K1)]) (A:=EG) aH ⟨acu,trivial⟩ Tryz.func252 (by kernel_rfl) (by kernel_rfl) fun x hw hp=>V4 x.1 x.2.1 hp
theorem Ua (l:List (Int×Int×Int)) (v:Int×Unit):ai (ah ay [(2210252,tK)]) Tryz.f219 tL aq (l,v,())=(
l.length≤(1000:Nat)∧decide (fj (eE v.1) l≥(0:Int))=l.any (eE v.1)∧True):=by kernel_rfl
theorem Q6:aM Tryz.prog 219 tL:=
 aM.bZ (l:=[(2210252,tK)]) (A:=fun _=>aq) aH ⟨Q5,trivial⟩ Tryz.func219 (by kernel_rfl) (by kernel_rfl) fun x hw hp=>by
  obtain⟨l,v,u⟩:=x
  show ai (ah ay [(2210252,tK)]) Tryz.f219 tL aq (l,v,())
  rw[Ua]
  exact⟨hp,p6,trivial⟩
theorem QU (r:af) (e:Int):r.2.2.2.1.any (eE e)=kD r e:=by
 unfold kD bG cm
 rw[List.any_map]
 rfl
theorem v146 (r:af) (e:Int):ai (ah ay [(2210219,tL)] [] [(220,.pair (.ref I) .unit)]) Tryz.f146 LD aq (r,e,())=(
r.2.2.2.1.length≤(1000:Nat)∧r.2.2.2.1.any (eE e)=kD r e∧True):=by kernel_rfl
theorem adg:aM Tryz.prog 146 LD:=
 aM.bZ (l:=[(2210219,tL)]) (wraps:=[]) (clos:=[(220,.pair (.ref I) .unit)]) (A:=fun _=>aq) aH ⟨Q6,trivial⟩ Tryz.func146 (by kernel_rfl) (by kernel_rfl) fun x hw hp=>by
  obtain⟨r,e,u⟩:=x
  show ai (ah ay [(2210219,tL)] [] [(220,.pair (.ref I) .unit)]) Tryz.f146 LD aq (r,e,())
  rw[v146]
  exact⟨hp,QU r e,trivial⟩
theorem agF (l:List (Int×Int×Int)):ai (ah ay []) Tryz.f142 Dt aq (l,())=(
U (List.replicate (0:Nat) ((0:Int),(0:Int),(0:Int))) fun(y1:List (Int×Int×Int))=>
∀(b2:Bool),(b2=true→l=[])→(b2=true→[]=l∧True)∧(b2=false→roomFor (y1.length+l.length) (24:Nat)∧y1++l=l∧True)):=by kernel_rfl
theorem W4:aM Tryz.prog 142 Dt:=
 aM.bZ (l:=[]) (A:=fun _=>aq) aH trivial Tryz.func142 (by kernel_rfl) (by kernel_rfl) fun x _ hp=>by
  obtain⟨l,u⟩:=x
  show ai (ah ay []) Tryz.f142 Dt aq (l,())
  rw[agF]
  refine U.mk fun y1 e1=>fun b hb=>⟨fun h=>⟨(hb h).symm,trivial⟩,fun h=>⟨rP hp (by rw[e1];rfl) (by decide),by rw[e1];rfl,trivial⟩⟩
theorem af8 (p:Int×List (Int×Int×Int)×List Int×List (List (Int×Int))) (e:Int):ai (ah ay [(2510219,tJ)] [] [(250,.pair (.ref I) .unit)]) Tryz.f215 K5 aq (p,e,())=(
U (bif decide ((↑p.2.1.length:Int)<(12:Int)) then e !=p.1 else false) fun(y2:Bool)=>
(y2=true→p.2.1.length≤(1000:Nat))∧(bif y2 then !p.2.1.any (eE e) else false)=KA p e∧True):=by kernel_rfl
theorem acy:aM Tryz.prog 215 K5:=
 aM.bZ (l:=[(2510219,tJ)]) (wraps:=[]) (clos:=[(250,.pair (.ref I) .unit)]) (A:=fun _=>aq) aH ⟨Q1,trivial⟩ Tryz.func215 (by kernel_rfl) (by kernel_rfl) fun x hw hp=>by
  obtain⟨p,e,u⟩:=x
  show ai (ah ay [(2510219,tJ)] [] [(250,.pair (.ref I) .unit)]) Tryz.f215 K5 aq (p,e,())
  rw[af8]
  refine U.mk fun y2 e2=>⟨fun _=>hp,?_,trivial⟩
  rw[e2,ltN _ 12 12 rfl]
  unfold KA
  rw[show decide (p.2.1.length<12)= !decide (12≤p.2.1.length) by by_cases h:12≤p.2.1.length<;>simp[h]<;>omega]
  rw[iH]
  cases decide (12≤p.2.1.length)<;>cases (e==p.1)<;>cases (p.2.1.any (eE e))<;>rfl
theorem af7 (p:Int×List (Int×Int×Int)×List Int×List (List (Int×Int))) (n:aX) (x:Int×Int):bN (ah ay [(251,Dp)]) Tryz.f216 K4 aq (p,n,x,())=(
U ((List.replicate (1:Nat) ((0:Int),(0:Int),(0:Int))).set (0:Nat) (x.1,x.2,(-1:Int))) fun(y3:List (Int×Int×Int))=>
U ((List.replicate (1:Nat) (0:Int)).set (0:Nat) (0:Int)) fun(y4:List Int)=>
U ((List.replicate (1:Nat) []).set (0:Nat) (bF n.1 x.1 x.2)) fun(y5:List (List (Int×Int)))=>
U (zm p n x).2.2 fun(y6:List Int×List (List (Int×Int)))=>
roomFor (p.2.1.length+y3.length) (24:Nat)∧
roomFor (p.2.2.1.length+y4.length) (8:Nat)∧
True∧
roomFor (p.2.2.2.length+y5.length) (24:Nat)∧
p.1=(zm p n x).1∧p.2.1++y3=(zm p n x).2.1∧p.2.2.1++y4=y6.1∧p.2.2.2++y5=y6.2∧True):=by kernel_rfl
theorem acx:ew Tryz.prog 216 K4:=
 ew.bZ (l:=[(251,Dp)]) (A:=fun _=>aq) aH ⟨WW,trivial⟩ Tryz.func216 (by kernel_rfl) (by kernel_rfl) fun x hw hp=>by
  obtain⟨p,n,y,u⟩:=x
  show bN (ah ay [(251,Dp)]) Tryz.f216 K4 aq (p,n,y,())
  obtain⟨h1,h2,h3⟩:=hp
  have h1:p.2.1.length≤1000:=h1
  have h2:p.2.2.1.length=p.2.1.length:=h2
  have h3:p.2.2.2.length=p.2.1.length:=h3
  rw[af7]
  refine U.mk fun y3 e3=>U.mk fun y4 e4=>U.mk fun y5 e5=>U.mk fun y6 e6=> ?_
  have l3:y3.length=1:=by rw[e3];rfl
  have l4:y4.length=1:=by rw[e4];rfl
  have l5:y5.length=1:=by rw[e5];rfl
  refine⟨c6 (by omega) (by decide),c6 (by omega) (by decide),trivial,c6 (by omega) (by decide),?_⟩
  rw[e6,e3,e4,e5]
  unfold zm
  exact⟨rfl,rfl,rfl,rfl,trivial⟩
theorem Hz (p:kA):∀k,(fR p k).length≤k
 |0=>Nat.le_refl _
 |k+1=>by
  have:=Hz p k
  show(fR p k++mR p k).length≤_
  rw[List.length_append]
  have:(mR p k).length≤1:=by unfold mR;cases (p.2.2.1.getD k 0 !=0)<;>simp
  omega
theorem af6 (p:Int×List (Int×Int×Int)×List Int×List (List (Int×Int))) (s:Int) (to:Int) (stop:Int):bN (ah ay [(142,Dt)]) Tryz.f217 K3 (YZ (p,s,to,stop,())) (p,s,to,stop,())=(
cQ p.2.1∧
(∃(wg:Nat),
wg≤p.2.1.length∧
(↑wg:Int)=(0:Int)∧
(↑p.2.1.length:Int)=(↑p.2.1.length:Int)∧
s=s∧
to=to∧
stop=stop∧
false=false∧
p.2.1=p.2.1∧
fR p wg=[]∧
(0:Int)=(0:Int)∧
(0:Int)=(0:Int)∧
(0:Int)=(0:Int)∧false=false∧p.1=p.1∧p.2.1=p.2.1∧p.2.2.1=p.2.2.1∧p.2.2.2=p.2.2.2∧True)∧
∀(s4:Nat),
U (decide ((↑s4:Int)<(↑p.2.1.length:Int))) fun(y5:Bool)=>
U (p.2.2.1.getD (↑s4:Int).toNat (0:Int)) fun(y6:Int)=>
U ((List.replicate (1:Nat) ((0:Int),(0:Int))).set (0:Nat) ((p.2.1.getD (↑s4:Int).toNat ((0:Int),(0:Int),(0:Int))).1,y6)) fun(y7:List (Int×Int))=>
s4≤p.2.1.length→
(y5=true→
aQ (↑s4:Int) p.2.1.length∧
aQ (↑s4:Int) p.2.2.1.length∧
((y6 !=(0:Int))=true→
aQ (↑s4:Int) p.2.2.1.length∧
roomFor ((fR p s4).length+y7.length) (16:Nat)∧
bq IntKind.i64 ((↑s4:Int)+(1:Int))∧
∃(kf:Nat),
kf≤p.2.1.length∧
p.2.1.length - kf<p.2.1.length - s4∧
(↑kf:Int)=(↑s4:Int)+(1:Int)∧
(↑p.2.1.length:Int)=(↑p.2.1.length:Int)∧
s=s∧
to=to∧
stop=stop∧
false=false∧
p.2.1=p.2.1∧
fR p kf=fR p s4++y7∧
(0:Int)=(0:Int)∧
(0:Int)=(0:Int)∧
(0:Int)=(0:Int)∧
false=false∧p.1=p.1∧p.2.1=p.2.1∧p.2.2.1=p.2.2.1∧p.2.2.2=p.2.2.2∧True)∧
((y6 !=(0:Int))=false→
bq IntKind.i64 ((↑s4:Int)+(1:Int))∧
∃(kf:Nat),
kf≤p.2.1.length∧
p.2.1.length - kf<p.2.1.length - s4∧
(↑kf:Int)=(↑s4:Int)+(1:Int)∧
(↑p.2.1.length:Int)=(↑p.2.1.length:Int)∧
s=s∧
to=to∧
stop=stop∧
false=false∧
p.2.1=p.2.1∧
fR p kf=fR p s4∧
(0:Int)=(0:Int)∧
(0:Int)=(0:Int)∧
(0:Int)=(0:Int)∧
false=false∧p.1=p.1∧p.2.1=p.2.1∧p.2.2.1=p.2.2.1∧p.2.2.2=p.2.2.2∧True))∧
(y5=false→
(s,to,stop,p.2.1,fR p s4,[],[],[],false)=iG p s to stop∧
p.1=p.1∧p.2.1=p.2.1∧p.2.2.1=p.2.2.1∧p.2.2.2=p.2.2.2∧True)):=by kernel_rfl
theorem ajB (p:kA) (s to stop:Int) (hp:j7 p):bN (ah ay [(142,Dt)]) Tryz.f217 K3 (YZ (p,s,to,stop,())) (p,s,to,stop,()):=by
 obtain⟨h1,h2,h3⟩:=hp
 rw[af6]
 simp only[true_and,and_true,eq_self]
 refine⟨h1,⟨0,by omega,rfl,rfl⟩,fun k=>U.mk fun y5 e5=>U.mk fun y6 e6=>U.mk fun y7 e7=>fun hk=>⟨fun h=> ?_,fun h=> ?_⟩⟩
 ·have u9:=ba e5 h
  have hn:=Hz p k
  have l7:y7.length=1:=by rw[e7];rfl
  rw[Int.toNat_natCast] at e6 e7
  refine⟨⟨by omega,by omega⟩,⟨by omega,by omega⟩,fun h6=>⟨⟨by omega,by omega⟩,c6 (by omega) (by decide),bg (by omega) (by omega),k+1,by omega,by omega,by omega,?_⟩,fun h6=>⟨bg (by omega) (by omega),k+1,by omega,by omega,by omega,?_⟩⟩
  ·show fR p k++mR p k=_
   unfold mR
   rw[←e6,h6,e7]
   rfl
  ·show fR p k++mR p k=_
   unfold mR
   rw[←e6,h6]
   exact List.append_nil _
 ·have u9:=br e5 h
  have:k=p.2.1.length:=by omega
  subst this
  unfold iG
  rfl
theorem acw:ew Tryz.prog 217 K3:=
 ew.bZ (l:=[(142,Dt)]) (A:=YZ) aH ⟨W4,trivial⟩ Tryz.func217 (by kernel_rfl) (by kernel_rfl) fun x hw hp=>ajB x.1 x.2.1 x.2.2.1 x.2.2.2.1 hp
theorem v218 (p:Int×List (Int×Int×Int)×List Int×List (List (Int×Int))):bN (ah ay []) Tryz.f218 K2 aq (p,())=(
U ((↑p.2.1.length:Int) - (1:Int)) fun(y1:Int)=>
bq IntKind.i64 y1∧
((0:Int)≤y1∧y1≤(↑p.2.1.length:Int))∧
((0:Int)≤y1∧y1≤(↑p.2.2.1.length:Int))∧
((0:Int)≤y1∧y1≤(↑p.2.2.2.length:Int))∧
(0:Nat)<p.2.1.length∧
(0:Nat)<p.2.2.1.length∧
(0:Nat)<p.2.2.2.length∧
p.1=(oi p).1∧
List.take y1.toNat p.2.1=(oi p).2.1∧List.take y1.toNat p.2.2.1=(oi p).2.2.1∧List.take y1.toNat p.2.2.2=(oi p).2.2.2∧True):=by kernel_rfl
theorem acv:ew Tryz.prog 218 K2:=
 ew.bZ (l:=[]) (A:=fun _=>aq) aH trivial Tryz.func218 (by kernel_rfl) (by kernel_rfl) fun x hw hp=>by
  obtain⟨p,u⟩:=x
  show bN (ah ay []) Tryz.f218 K2 aq (p,())
  obtain⟨⟨h1,h2,h3⟩,h4⟩:=hp
  have h1:p.2.1.length≤1000:=h1
  have h2:p.2.2.1.length=p.2.1.length:=h2
  have h3:p.2.2.2.length=p.2.1.length:=h3
  have h4:0<p.2.1.length:=h4
  rw[v218]
  refine U.mk fun y1 e1=> ?_
  have e:y1.toNat=p.2.1.length - 1:=by omega
  refine⟨bg (by omega) (by omega),⟨by omega,by omega⟩,⟨by omega,by omega⟩,⟨by omega,by omega⟩,by omega,by omega,by omega,?_⟩
  rw[e]
  unfold oi
  exact⟨rfl,rfl,rfl,rfl,trivial⟩
def dH (gs:List dg):List Int:=gs.reverse.map fun f=>f.2.1
def bS (gs:List dg):List (List (Int×Int)):=gs.reverse.map fun f=>f.2.2
def wL:List Nat→Nat
 |[]=>0
 |n::ns=>1+n*(1+wB (12 - ns.length))+wL ns
def YI (S:St):List Nat:=
 match find S.bl 35 with
 |some (.cells [_,_,_,.row _ id])=>(match find S.bl id with
  |some (.row _ _ (.list _) xs)=>(xs.map fun l=>(Ty.L l).length).reverse
  |_=>[])
 |_=>[]
def pj (n:aX):Prop:=n=np n.1∧bV n.1=0
def YB:bh where
 args:=[.ref jn,I]
 out:= .data [.list eP]
 pre:=fun(x:aX×Int×Unit)=>pj x.1
 fn:=fun(x:aX×Int×Unit)=>(pr x.1.1 x.2.1,())
def b9 (n:aX) (s:Int):Int:=(lB n.1 s).1.1
def zo (n:aX) (s:Int) (g:(List dg×ak)×List af):Prop:=g.2++r6 n.1 s (b9 n s) g.1.2 g.1.1=pr n.1 s∧g.1.1.length≤12
def jC (n:aX) (s:Int) (w:Nat) (g:List dg×List af):Prop:=g.2++nw n.1 s (b9 n s) g.1=pr n.1 s∧g.1.length≤12∧wF g.1≤w
def a141 (x:aX×Int×Unit):eC:=bj [
 (9,fun _=>{
  σ:=(List dg×ak)×List af
  ok:=fun g=>zo x.1 x.2.1 g
  mu:=fun g=>wE g.1.1
  sl:=fun g=>[(8,.one (.row eP 1000)),(9,.one (.ptr 35 0))]
  bl:=fun g=>[(7,.cells [.aC I g.1.2.1,.aC I g.1.2.2]),(35,.cells [.aC I (b9 x.1 x.2.1),.row kz 1001,.row I 1002,.row (.list F0) 1003]),
   (1001,.row false 76 kz (bf g.1.1)),(1002,.row false 3 I (dH g.1.1)),(1003,.row false 289 (.list F0) (bS g.1.1)),(1000,.row false 49 eP g.2)]
  keep:=[0,1,5,7]
  cy:=[5]}),
 (13,fun S=>{
  σ:=List dg×List af
  ok:=fun g=>jC x.1 x.2.1 (wL (YI S)) g
  mu:=fun g=>wF g.1
  sl:=fun g=>[(8,.one (.row eP 1000)),(9,.one (.ptr 35 0))]
  bl:=fun g=>[(35,.cells [.aC I (b9 x.1 x.2.1),.row kz 1001,.row I 1002,.row (.list F0) 1003]),
   (1001,.row false 76 kz (bf g.1)),(1002,.row false 3 I (dH g.1)),(1003,.row false 289 (.list F0) (bS g.1)),(1000,.row false 49 eP g.2)]
  keep:=[0,1,5,7]
  cy:=[5,7]})]
theorem Xb {p:ab} {x:ak} (h:(bu p x).2=false):(bu p x).1=(0,0):=by
 unfold bu at *
 generalize (p.2.1.find? fun j=>j.1==x||j.2==x)=o at *
 cases o with
 |none=>rfl
 |some j=>unfold xp at h;revert h;cases (j.1==x)<;>intro h<;>cases h
theorem tC {n:aX} (h:pj n) (x:ak):fi n x=bu n.1 x:=by
 have e:n.2.1=dS n.1:=(congrArg (fun m:aX=>m.2.1) h.1).trans (by unfold np;rfl)
 unfold fi
 rw[e,mP]
 cases hb:(bu n.1 x).2 with
 |true=>
  show((bu n.1 x).1,true)=bu n.1 x
  rw[←hb]
 |false=>
  show((0,0),false)=bu n.1 x
  rw[←hb,←Xb hb]
theorem CD (a:Ty) {β:Type} (k:a.den):∀(l m:List (a.den×β)),aT a (l++m) k=(aT a l k).or (aT a m k)
 |[],m=>by rfl
 |(x,v)::l,m=>by
  have ih:=CD a k l m
  show(bif a.iW k x then some v else aT a (l++m) k)=(bif a.iW k x then some v else aT a l k).or (aT a m k)
  cases a.iW k x with
  |true=>rfl
  |false=>exact ih
theorem Hl (p:ab) (x:ak):∀k,aT aL (gz p k) x=Option.map (fun(i:Nat)=>(i:Int)) (gA (fB p x) k)
 |0=>rfl
 |k+1=>by
  show aT aL (gz p k++[((p.2.2.1.getD k zS).2.1,(k:Int))]) x=_
  rw[CD,Hl p x k]
  unfold gA
  rw[List.range_succ,List.find?_append]
  cases (List.range k).find? (fB p x) with
  |some i=>rfl
  |none=>
   show(bif Ty.iW aL x (p.2.2.1.getD k zS).2.1 then some (k:Int) else none)=Option.map _ ([k].find? (fB p x))
   rw[Fx,fF]
   show(bif fB p x k then some (k:Int) else none)=Option.map _ ([k].find? (fB p x))
   rw[List.find?_singleton]
   cases fB p x k<;>rfl
theorem Hy {n:aX} (h:pj n) (x:ak):kL n x=b8 n.1 x:=by
 have e:n.2.2.1=gz n.1 n.1.2.2.1.length:=(congrArg (fun m:aX=>m.2.2.1) h.1).trans (by unfold np;show zl n.1=_;unfold zl;rfl)
 have e2:b8 n.1 x=vR (gA (fB n.1 x) n.1.2.2.1.length):=by unfold b8;rfl
 unfold kL
 rw[e,Hl,e2]
 cases gA (fB n.1 x) n.1.2.2.1.length<;>rfl
theorem tA (f:dg) (gs:List dg):dH (f::gs)=dH gs++[f.2.1]:=by
 unfold dH;rw[List.reverse_cons,List.map_append];rfl
theorem rC (f:dg) (gs:List dg):bS (f::gs)=bS gs++[f.2.2]:=by
 unfold bS;rw[List.reverse_cons,List.map_append];rfl
theorem wv (gs:List dg):(dH gs).length=gs.length:=by unfold dH;simp
theorem tE (gs:List dg):(bS gs).length=gs.length:=by unfold bS;simp
theorem rH {α:Type} (d x:α) (l:List α) {n:Nat} (h:n=l.length):(l++[x]).getD n d=x:=by
 subst h;simp[List.getD_eq_getElem?_getD]
theorem D0 {α:Type} (x y:α) (l:List α) {n:Nat} (h:n=l.length):(l++[x]).set n y=l++[y]:=by
 subst h;rw[List.set_append_right _ _ (Nat.le_refl _),Nat.sub_self];rfl
def lU (b:Int) (gs:List dg):kA:=(b,bf gs,dH gs,bS gs)
theorem Np (b:Int) {gs:List dg} (h:gs.length≤1000):j7 (lU b gs):=⟨by show(bf gs).length≤1000;rw[fG];exact h,by show(dH gs).length=(bf gs).length;rw[wv,fG],by show(bS gs).length=(bf gs).length;rw[tE,fG]⟩
theorem aaI (b:Int) (f:dg) (gs:List dg):oi (lU b (f::gs))=lU b gs:=by
 unfold oi
 show(b,(bf (f::gs)).take ((bf (f::gs)).length - 1),(dH (f::gs)).take ((bf (f::gs)).length - 1),(bS (f::gs)).take ((bf (f::gs)).length - 1))=(b,bf gs,dH gs,bS gs)
 rw[fG,jL,tA,rC]
 have t:∀{α:Type} (l:List α) (x:α),l.length=gs.length→(l++[x]).take ((f::gs).length - 1)=l:=fun l x h=>by
  rw[show(f::gs).length - 1=l.length by rw[h];rfl]
  exact List.take_left' rfl
 rw[t _ _ (fG gs),t _ _ (wv gs),t _ _ (tE gs)]
theorem Ye (b:Int) (n:aX) (x:ak) (gs:List dg):zm (lU b gs) n x=lU b (((x.1,x.2, -1),0,bF n.1 x.1 x.2)::gs):=by
 unfold zm
 show _=(b,bf (_::gs),dH (_::gs),bS (_::gs))
 rw[jL,tA,rC]
 rfl
theorem Kf (b:Int):∀(gs:List dg),fR (lU b gs) gs.length=wy gs
 |[]=>rfl
 |f::gs=>by
  have ih:=Kf b gs
  rw[rX,←ih]
  show fR (lU b (f::gs)) gs.length++mR (lU b (f::gs)) gs.length=_
  congr 1
  ·have:∀k,k≤gs.length→fR (lU b (f::gs)) k=fR (lU b gs) k:=fun k=>by
    induction k with
    |zero=>intro _;rfl
    |succ k ih=>
     intro hk
     show fR _ k++mR _ k=fR _ k++mR _ k
     rw[ih (by omega)]
     congr 1
     unfold mR
     show(bif(dH (f::gs)).getD k 0 !=0 then[(((bf (f::gs)).getD k iq).1,(dH (f::gs)).getD k 0)] else[])=(bif(dH gs).getD k 0 !=0 then[(((bf gs).getD k iq).1,(dH gs).getD k 0)] else[])
     have g:∀{α:Type} (l:List α) (x d:α),l.length=gs.length→(l++[x]).getD k d=l.getD k d:=fun l x d h=>by
      simp[List.getD_eq_getElem?_getD,List.getElem?_append_left (show k<l.length by omega)]
     rw[tA,jL,g _ _ _ (wv gs),g _ _ _ (fG gs)]
   exact this gs.length (Nat.le_refl _)
  ·unfold mR
   show(bif(dH (f::gs)).getD gs.length 0 !=0 then[(((bf (f::gs)).getD gs.length iq).1,(dH (f::gs)).getD gs.length 0)] else[])=_
   rw[tA,jL,rH 0 _ _ (wv gs).symm,rH iq _ _ (fG gs).symm]
   unfold Nq
   rw[iH]
   cases (f.2.1==0)<;>rfl
theorem Ip (b s to stop:Int) (gs:List dg):iG (lU b gs) s to stop=oS s gs stop to:=by
 unfold iG oS
 show(s,to,stop,bf gs,fR (lU b gs) (bf gs).length,_,_,_,_)=_
 rw[fG,Kf]
theorem QM (s stop to:Int) (st:cv) (pos:Int) (l l':List (Int×Int)) (gs:List dg):oS s ((st,pos,l)::gs) stop to=oS s ((st,pos,l')::gs) stop to:=by
 unfold oS
 rw[jL,jL,rX,rX]
 rfl
theorem aaJ (b:Int) (gs:List dg) (x:ak):KA (lU b gs) x.1=AQ b gs x:=by
 unfold KA AQ
 show(decide ((bf gs).length<12)&&(!(x.1==b)&& !(bf gs).any (eE x.1)))=_
 rw[fG]
 congr 1
 have:bG (oC b gs) x.1=((x.1==b)||(bf gs).any (eE x.1)):=by
  unfold bG oC bf
  rw[List.any_cons,List.any_map,List.any_map,fF b]
  rfl
 rw[this]
 cases (x.1==b)<;>rfl
theorem w4:∀(gs:List dg),wF gs=wL ((bS gs).map fun l=>l.length).reverse
 |[]=>rfl
 |f::gs=>by
  have ih:=w4 gs
  rw[rC,List.map_append,List.reverse_append]
  show 1+f.2.2.length*(1+wB (12 - gs.length))+wF gs=1+f.2.2.length*(1+wB (12 - (((bS gs).map fun l=>l.length).reverse).length))+wL (((bS gs).map fun l=>l.length).reverse)
  rw[←ih,List.length_reverse,List.length_map,tE]
theorem Uy {n:aX} {s:Int} {w:Nat} {g:List dg×List af} (h:jC n s w g):g.2.length≤8192:=by
 have h1:=congrArg List.length h.1
 rw[List.length_append] at h1
 have:=Cv n.1 s
 omega
theorem VD {n:aX} {s:Int} {g:(List dg×ak)×List af} (h:zo n s g):g.2.length≤8192:=by
 have h1:=congrArg List.length h.1
 rw[List.length_append] at h1
 have:=Cv n.1 s
 omega
theorem Ek (n:aX) (s:Int) (W:Nat) (y4 y5:Int) (y6:List af) (s7:(List dg×ak)×List af) (hn:pj n) (hW:W<wE s7.fst.fst) (e6:y6=List.replicate 1 (0,0,0,[],[],[],[],[],false)):
(∀(bM:List dg×List af),
U (decide ((↑(bf bM.fst).length:Int)>(0:Int))) fun(cW:Bool)=>
U ((↑(bf bM.fst).length:Int) - (1:Int)) fun(bz:Int)=>
U ((bS bM.fst).getD bz.toNat []) fun(cT:List (Int×Int))=>
U (b9 n s,bf bM.fst,dH bM.fst,bS bM.fst)
fun(cF:Int×List (Int×Int×Int)×List Int×List (List (Int×Int)))=>
U ((bf bM.fst).getD bz.toNat ((0:Int),(0:Int),(0:Int))) fun(dI:Int×Int×Int)=>
U (cT.getD (Int.toNat (0:Int)) ((0:Int),(0:Int))) fun(fC:Int×Int)=>
U ((bf bM.fst).set bz.toNat (dI.fst,dI.snd.fst,fC.fst)) fun(dJ:List (Int×Int×Int))=>
U ((dJ.getD bz.toNat ((0:Int),(0:Int),(0:Int))).fst,fC.fst) fun(fo:Int×Int)=>
U (decide (kL n fo≥(0:Int))) fun(dG:Bool)=>
U ((dH bM.fst).set bz.toNat fC.snd) fun(eX:List Int)=>
U ((bS bM.fst).set bz.toNat (List.drop (Int.toNat (1:Int)) cT)) fun(gS:List (List (Int×Int)))=>
U (b9 n s,dJ,eX,gS) fun(kE:Int×List (Int×Int×Int)×List Int×List (List (Int×Int)))=>
U (y6.set (0:Nat) (iG kE s (kL n fo) (1:Int)))
fun
(lK:
List (Int×Int×Int×List (Int×Int×Int)×List (Int×Int)×List (Int×Int)×List Int×List Int×Bool))=>
U (y6.set (0:Nat) (iG kE s (-1:Int) (3:Int)))
fun
(l8:
List (Int×Int×Int×List (Int×Int×Int)×List (Int×Int)×List (Int×Int)×List Int×List Int×Bool))=>
jC n s W bM→
(cW=true→
bq IntKind.i64 bz∧
aQ bz (bS bM.fst).length∧
(((↑cT.length:Int)==(0:Int))=true→
(j7 cF∧(0:Nat)<(bf bM.fst).length)∧
∃(ar:List dg×List af),
jC n s W ar∧
wF ar.fst<wF bM.fst∧
[n]=[n]∧
(0:Nat)=(0:Nat)∧
s=s∧
b9 n s=(oi cF).fst∧
bf ar.fst=(oi cF).snd.fst∧
dH ar.fst=(oi cF).snd.snd.fst∧
bS ar.fst=(oi cF).snd.snd.snd∧
ar.snd=bM.snd∧
y4=y4∧
y5=y5∧
s7.fst.snd.fst=s7.fst.snd.fst∧s7.fst.snd.snd=s7.fst.snd.snd∧True)∧
(((↑cT.length:Int)==(0:Int))=false→
aQ bz (bS bM.fst).length∧
aQ (0:Int) cT.length∧
aQ bz (bS bM.fst).length∧
((0:Int)≤(1:Int)∧(1:Int)≤(↑cT.length:Int))∧
aQ bz (bS bM.fst).length∧
aQ bz (bf bM.fst).length∧
aQ bz (dH bM.fst).length∧
aQ bz dJ.length∧
True∧
(dG=true→
j7 kE∧
roomFor (bM.snd.length+lK.length) (152:Nat)∧
∃(ar:List dg×List af),
jC n s
W
ar∧
wF ar.fst<wF bM.fst∧
[n]=[n]∧
(0:Nat)=(0:Nat)∧
s=s∧
b9 n s=b9 n s∧
bf ar.fst=dJ∧
dH ar.fst=eX∧
bS ar.fst=gS∧
ar.snd=bM.snd++lK∧
y4=y4∧
y5=y5∧
s7.fst.snd.fst=s7.fst.snd.fst∧
s7.fst.snd.snd=s7.fst.snd.snd∧True)∧
(dG=false→
True∧
((!(fi n fo).snd)=true→
j7 kE∧
roomFor (bM.snd.length+l8.length) (152:Nat)∧
∃(ar:List dg×List af),
jC n s
W
ar∧
wF ar.fst<wF bM.fst∧
[n]=[n]∧
(0:Nat)=(0:Nat)∧
s=s∧
b9 n s=b9 n s∧
bf ar.fst=dJ∧
dH ar.fst=eX∧
bS ar.fst=gS∧
ar.snd=bM.snd++l8∧
y4=y4∧
y5=y5∧
s7.fst.snd.fst=s7.fst.snd.fst∧
s7.fst.snd.snd=s7.fst.snd.snd∧True)∧
((!(fi n fo).snd)=false→
∃(ar:(List dg×ak)×List af),
zo n s ar∧
wE ar.fst.fst<wE s7.fst.fst∧
[n]=[n]∧
(0:Nat)=(0:Nat)∧
s=s∧
ar.fst.snd.fst=(fi n fo).fst.fst∧
ar.fst.snd.snd=(fi n fo).fst.snd∧
b9 n s=b9 n s∧
bf ar.fst.fst=dJ∧
dH ar.fst.fst=eX∧
bS ar.fst.fst=gS∧
ar.snd=bM.snd∧y4=y4∧y5=y5∧True))))∧
(cW=false→bM.snd=pr n.fst s∧True)):=by
 intro bM
 refine U.mk fun cW jG=>U.mk fun bz gJ=>U.mk fun cT kT=>U.mk fun cF iN=>U.mk fun dI m8=>U.mk fun fC nH=>U.mk fun dJ pb=>U.mk fun fo qZ=>U.mk fun dG sB=>U.mk fun eX xJ=>U.mk fun gS wQ=>U.mk fun kE BO=>U.mk fun lK BN=>U.mk fun l8 Dg=>fun mT=> ?_
 have hlen:=Uy mT
 obtain⟨gs,out⟩:=bM
 obtain⟨h1,h2,h3⟩:=mT
 have h1:out++nw n.1 s (b9 n s) gs=pr n.1 s:=h1
 have h2:gs.length≤12:=h2
 have h3:wF gs≤W:=h3
 have hlen:out.length≤8192:=hlen
 cases gs with
 |nil=>
  have:cW=false:=by rw[jG];rfl
  refine⟨fun h=>(by rw[this] at h;cases h),fun _=>⟨?_,trivial⟩⟩
  rw[←h1]
  exact(List.append_nil out).symm
 |cons f gs=>
  obtain⟨⟨e,i,o⟩,pos,l⟩:=f
  have h2:gs.length+1≤12:=h2
  have ahW:cW=true:=by
   rw[jG]
   show decide (((bf (_::gs)).length:Int)>0)=true
   rw[fG]
   exact decide_eq_true (by simp)
  have ahV:bz=(gs.length:Int):=by
   rw[gJ]
   show((bf (_::gs)).length:Int) - 1=_
   rw[fG]
   simp
  have hk:bz.toNat=gs.length:=by rw[ahV];rfl
  have Kq:cT=l:=by
   rw[kT,hk]
   show(bS (_::gs)).getD gs.length []=l
   rw[rC]
   exact rH _ _ _ (tE gs).symm
  have abo:cF=lU (b9 n s) (((e,i,o),pos,l)::gs):=iN
  have yd:(bf (((e,i,o),pos,l)::gs)).length=gs.length+1:=fG _
  have nQ:(dH (((e,i,o),pos,l)::gs)).length=gs.length+1:=wv _
  have XT:(bS (((e,i,o),pos,l)::gs)).length=gs.length+1:=tE _
  have RF:∀m,m=gs.length+1→aQ bz m:=fun m hm=>⟨by omega,by omega⟩
  refine⟨fun _=>⟨bg (by omega) (by omega),RF _ XT,fun hz=> ?_,fun hz=> ?_⟩,fun h=>(by rw[ahW] at h;cases h)⟩
  ·have CY:l=[]:=by
    rw[Kq] at hz
    have:=eq_of_beq hz
    exact List.length_eq_zero_iff.1 (by omega)
   subst CY
   refine⟨⟨by rw[abo];exact Np _ (by show gs.length+1≤1000;omega),by show 0<(bf (_::gs)).length;omega⟩,(gs,out),⟨h1,by show gs.length≤12;omega,?_⟩,Wj _ _ _ gs,rfl,rfl,rfl,?_⟩
   ·have:=Wj (e,i,o) pos [] gs
    show wF gs≤W
    omega
   ·rw[abo,aaI]
    exact⟨rfl,rfl,rfl,rfl,rfl,rfl,rfl,rfl,rfl,trivial⟩
  ·cases l with
   |nil=>rw[Kq] at hz;cases hz
   |cons w ws=>
    have Xw:fC=w:=by rw[nH,Kq];rfl
    have ahU:dI=(e,i,o):=by
     rw[m8,hk]
     show(bf (_::gs)).getD gs.length _=_
     rw[jL]
     exact rH _ _ _ (fG gs).symm
    have Kp:dJ=bf (((e,i,w.1),w.2,ws)::gs):=by
     rw[pb,hk,ahU,Xw]
     show(bf (_::gs)).set gs.length _=_
     rw[jL,jL]
     exact D0 _ _ _ (fG gs).symm
    have abn:fo=(e,w.1):=by
     rw[qZ,hk,Kp,Xw,jL,rH _ _ _ (fG gs).symm]
    have Tg:eX=dH (((e,i,w.1),w.2,ws)::gs):=by
     rw[xJ,hk,Xw]
     show(dH (_::gs)).set gs.length _=_
     rw[tA,tA]
     exact D0 _ _ _ (wv gs).symm
    have Tf:gS=bS (((e,i,w.1),w.2,ws)::gs):=by
     rw[wQ,hk,Kq]
     show(bS (_::gs)).set gs.length _=_
     rw[rC,rC]
     exact D0 _ _ _ (tE gs).symm
    have Xv:kE=lU (b9 n s) (((e,i,w.1),w.2,ws)::gs):=by rw[BO,Kp,Tg,Tf];rfl
    have hR:kL n fo=b8 n.1 (e,w.1):=by rw[abn];exact Hy hn _
    have hN:fi n fo=bu n.1 (e,w.1):=by rw[abn];exact tC hn _
    have abm:lK=[oS s (((e,i,w.1),w.2,ws)::gs) 1 (b8 n.1 (e,w.1))]:=by rw[BN,e6,Xv,Ip,hR];rfl
    have abl:l8=[oS s (((e,i,w.1),w.2,ws)::gs) 3 (-1)]:=by rw[Dg,e6,Xv,Ip];rfl
    have XM:j7 kE:=by rw[Xv];exact Np _ (by show gs.length+1≤1000;omega)
    have U4:=abQ (e,i,o) (e,i,w.1) pos w.2 w ws gs
    have aii:dJ.length=gs.length+1:=by rw[Kp];exact fG _
    refine⟨RF _ XT,⟨by omega,by rw[Kq];simp⟩,RF _ XT,⟨by omega,by rw[Kq];show 1≤((ws.length+1:Nat):Int);omega⟩,RF _ XT,RF _ yd,RF _ nQ,RF _ aii,trivial,fun zd=> ?_,fun zd=>⟨trivial,fun hx=> ?_,fun hx=> ?_⟩⟩
    ·have zd:decide (0≤b8 n.1 (e,w.1))=true:=by rw[←hR,←zd,sB]
     refine⟨XM,c6 (by rw[abm];show out.length+1≤_;omega) (by decide),(((e,i,w.1),w.2,ws)::gs,out++lK),⟨?_,h2,Nat.le_trans (Nat.le_of_lt U4) h3⟩,U4,rfl,rfl,rfl,rfl,Kp.symm,Tg.symm,Tf.symm,rfl,rfl,rfl,rfl,rfl,trivial⟩
     rw[←h1,Mf zd,abm]
     exact List.append_assoc _ _ _
    ·have zd:decide (0≤b8 n.1 (e,w.1))=false:=by rw[←hR,←zd,sB]
     have hx:(bu n.1 (e,w.1)).2=false:=by rw[←hN];simpa using hx
     refine⟨XM,c6 (by rw[abl];show out.length+1≤_;omega) (by decide),(((e,i,w.1),w.2,ws)::gs,out++l8),⟨?_,h2,Nat.le_trans (Nat.le_of_lt U4) h3⟩,U4,rfl,rfl,rfl,rfl,Kp.symm,Tg.symm,Tf.symm,rfl,rfl,rfl,rfl,rfl,trivial⟩
     rw[←h1,Mg zd hx,abl]
     exact List.append_assoc _ _ _
    ·have zd:decide (0≤b8 n.1 (e,w.1))=false:=by rw[←hR,←zd,sB]
     have hx:(bu n.1 (e,w.1)).2=true:=by rw[←hN];simpa using hx
     have hwo:=afB (e,i,o) (e,i,w.1) pos w.2 w ws gs
     refine⟨((((e,i,w.1),w.2,ws)::gs,(fi n fo).1),out),⟨?_,h2⟩,by show wE (_::gs)<_;omega,rfl,rfl,rfl,rfl,rfl,rfl,Kp.symm,Tg.symm,Tf.symm,rfl,rfl,rfl,trivial⟩
     show out++r6 n.1 s (b9 n s) (fi n fo).1 (((e,i,w.1),w.2,ws)::gs)=_
     rw[hN,←h1,WC zd hx]
theorem v141 (n:aX) (s:Int):ai (ah ay [(197,Lb),(144,uY),(147,Ds),(148,uX),(215,K5),(216,K4),(217,K3),(218,K2)]) Tryz.f141 YB (a141 (n,s,())) (n,s,())=(
U (!(lB n.1 s).2) fun(y2:Bool)=>
U (fi n (lB n.1 s).1) fun(y3:ak×Bool)=>
U (lB n.1 s).1.1 fun(y4:Int)=>
U (lB n.1 s).1.2 fun(y5:Int)=>
U (List.replicate (1:Nat) ((0:Int),(0:Int),(0:Int),[],[],[],[],[],false))
fun(y6:List (af))=>
True∧
(y2=true→[]=pr n.1 s∧True)∧
(y2=false→
True∧
((!y3.2)=true→[]=pr n.1 s∧True)∧
((!y3.2)=false→
(∃(kZ:(List dg×ak)×List af),
zo n s kZ∧
[n]=[n]∧
(0:Nat)=(0:Nat)∧
s=s∧
kZ.1.2.1=y3.1.1∧
kZ.1.2.2=y3.1.2∧
b9 n s=y4∧bf kZ.1.1=[]∧dH kZ.1.1=[]∧bS kZ.1.1=[]∧kZ.2=[]∧y4=y4∧y5=y5∧True)∧
∀(s7:(List dg×ak)×List af),
U (b9 n s,bf s7.1.1,dH s7.1.1,bS s7.1.1) fun(y8:Int×List (Int×Int×Int)×List Int×List (List (Int×Int)))=>
U (KA y8 s7.1.2.1) fun(y9:Bool)=>
U (aI n.1 s7.1.2.1==(4:Int)) fun(bp:Bool)=>
U (zm y8 n s7.1.2) fun(bI:kA)=>
U (y6.set (0:Nat) (iG bI s (-1:Int) (2:Int)))
fun(aw:List (af))=>
zo n s s7→
(bf s7.1.1).length≤(1000:Nat)∧
(y9=true→
j7 y8∧
True∧
(bp=true→
j7 bI∧
roomFor (s7.2.length+aw.length) (152:Nat)∧
(∃(iy:List dg×List af),
jC n s (wL (List.map (fun(l:List (Int×Int))=>l.length) bI.2.2.2).reverse) iy∧
[n]=[n]∧
(0:Nat)=(0:Nat)∧
s=s∧
b9 n s=bI.1∧
bf iy.1=bI.2.1∧
dH iy.1=bI.2.2.1∧
bS iy.1=bI.2.2.2∧
iy.2=s7.2++aw∧y4=y4∧y5=y5∧s7.1.2.1=s7.1.2.1∧s7.1.2.2=s7.1.2.2∧True)∧
∀(bM:List dg×List af),
U (decide ((↑(bf bM.1).length:Int)>(0:Int))) fun(cW:Bool)=>
U ((↑(bf bM.1).length:Int) - (1:Int)) fun(bz:Int)=>
U ((bS bM.1).getD bz.toNat []) fun(cT:List (Int×Int))=>
U (b9 n s,bf bM.1,dH bM.1,bS bM.1)
fun(cF:Int×List (Int×Int×Int)×List Int×List (List (Int×Int)))=>
U ((bf bM.1).getD bz.toNat ((0:Int),(0:Int),(0:Int))) fun(dI:Int×Int×Int)=>
U (cT.getD (Int.toNat (0:Int)) ((0:Int),(0:Int))) fun(fC:Int×Int)=>
U ((bf bM.1).set bz.toNat (dI.1,dI.2.1,fC.1)) fun(dJ:List (Int×Int×Int))=>
U ((dJ.getD bz.toNat ((0:Int),(0:Int),(0:Int))).1,fC.1) fun(fo:Int×Int)=>
U (decide (kL n fo≥(0:Int))) fun(dG:Bool)=>
U ((dH bM.1).set bz.toNat fC.2) fun(eX:List Int)=>
U ((bS bM.1).set bz.toNat (List.drop (Int.toNat (1:Int)) cT)) fun(gS:List (List (Int×Int)))=>
U (b9 n s,dJ,eX,gS) fun(kE:Int×List (Int×Int×Int)×List Int×List (List (Int×Int)))=>
U (y6.set (0:Nat) (iG kE s (kL n fo) (1:Int)))
fun
(lK:
List
(af))=>
U (y6.set (0:Nat) (iG kE s (-1:Int) (3:Int)))
fun
(l8:
List
(af))=>
jC n s (wL (List.map (fun(l:List (Int×Int))=>l.length) bI.2.2.2).reverse) bM→
(cW=true→
bq IntKind.i64 bz∧
aQ bz (bS bM.1).length∧
(((↑cT.length:Int)==(0:Int))=true→
(j7 cF∧(0:Nat)<(bf bM.1).length)∧
∃(ar:List dg×List af),
jC n s (wL (List.map (fun(l:List (Int×Int))=>l.length) bI.2.2.2).reverse)
ar∧
wF ar.1<wF bM.1∧
[n]=[n]∧
(0:Nat)=(0:Nat)∧
s=s∧
b9 n s=(oi cF).1∧
bf ar.1=(oi cF).2.1∧
dH ar.1=(oi cF).2.2.1∧
bS ar.1=(oi cF).2.2.2∧
ar.2=bM.2∧
y4=y4∧
y5=y5∧
s7.1.2.1=s7.1.2.1∧
s7.1.2.2=s7.1.2.2∧True)∧
(((↑cT.length:Int)==(0:Int))=false→
aQ bz (bS bM.1).length∧
aQ (0:Int) cT.length∧
aQ bz (bS bM.1).length∧
((0:Int)≤(1:Int)∧(1:Int)≤(↑cT.length:Int))∧
aQ bz (bS bM.1).length∧
aQ bz (bf bM.1).length∧
aQ bz (dH bM.1).length∧
aQ bz dJ.length∧
True∧
(dG=true→
j7 kE∧
roomFor (bM.2.length+lK.length) (152:Nat)∧
∃(ar:List dg×List af),
jC n s
(wL
(List.map (fun(l:List (Int×Int))=>l.length)
bI.2.2.2).reverse)
ar∧
wF ar.1<wF bM.1∧
[n]=[n]∧
(0:Nat)=(0:Nat)∧
s=s∧
b9 n s=b9 n s∧
bf ar.1=dJ∧
dH ar.1=eX∧
bS ar.1=gS∧
ar.2=bM.2++lK∧
y4=y4∧
y5=y5∧
s7.1.2.1=s7.1.2.1∧
s7.1.2.2=s7.1.2.2∧True)∧
(dG=false→
True∧
((!(fi n fo).2)=true→
j7 kE∧
roomFor (bM.2.length+l8.length) (152:Nat)∧
∃(ar:List dg×List af),
jC n s
(wL
(List.map (fun(l:List (Int×Int))=>l.length)
bI.2.2.2).reverse)
ar∧
wF ar.1<wF bM.1∧
[n]=[n]∧
(0:Nat)=(0:Nat)∧
s=s∧
b9 n s=b9 n s∧
bf ar.1=dJ∧
dH ar.1=eX∧
bS ar.1=gS∧
ar.2=bM.2++l8∧
y4=y4∧
y5=y5∧
s7.1.2.1=s7.1.2.1∧
s7.1.2.2=s7.1.2.2∧
True)∧
((!(fi n fo).2)=false→
∃(ar:(List dg×ak)×List af),
zo n s ar∧
wE ar.1.1<wE s7.1.1∧
[n]=[n]∧
(0:Nat)=(0:Nat)∧
s=s∧
ar.1.2.1=(fi n fo).1.1∧
ar.1.2.2=(fi n fo).1.2∧
b9 n s=b9 n s∧
bf ar.1.1=dJ∧
dH ar.1.1=eX∧
bS ar.1.1=gS∧
ar.2=bM.2∧
y4=y4∧y5=y5∧True))))∧
(cW=false→bM.2=pr n.1 s∧True))∧
(bp=false→
(∃(iy:List dg×List af),
jC n s (wL (List.map (fun(l:List (Int×Int))=>l.length) bI.2.2.2).reverse) iy∧
[n]=[n]∧
(0:Nat)=(0:Nat)∧
s=s∧
b9 n s=bI.1∧
bf iy.1=bI.2.1∧
dH iy.1=bI.2.2.1∧
bS iy.1=bI.2.2.2∧
iy.2=s7.2∧y4=y4∧y5=y5∧s7.1.2.1=s7.1.2.1∧s7.1.2.2=s7.1.2.2∧True)∧
∀(bM:List dg×List af),
U (decide ((↑(bf bM.1).length:Int)>(0:Int))) fun(cW:Bool)=>
U ((↑(bf bM.1).length:Int) - (1:Int)) fun(bz:Int)=>
U ((bS bM.1).getD bz.toNat []) fun(cT:List (Int×Int))=>
U (b9 n s,bf bM.1,dH bM.1,bS bM.1)
fun(cF:Int×List (Int×Int×Int)×List Int×List (List (Int×Int)))=>
U ((bf bM.1).getD bz.toNat ((0:Int),(0:Int),(0:Int))) fun(dI:Int×Int×Int)=>
U (cT.getD (Int.toNat (0:Int)) ((0:Int),(0:Int))) fun(fC:Int×Int)=>
U ((bf bM.1).set bz.toNat (dI.1,dI.2.1,fC.1)) fun(dJ:List (Int×Int×Int))=>
U ((dJ.getD bz.toNat ((0:Int),(0:Int),(0:Int))).1,fC.1) fun(fo:Int×Int)=>
U (decide (kL n fo≥(0:Int))) fun(dG:Bool)=>
U ((dH bM.1).set bz.toNat fC.2) fun(eX:List Int)=>
U ((bS bM.1).set bz.toNat (List.drop (Int.toNat (1:Int)) cT)) fun(gS:List (List (Int×Int)))=>
U (b9 n s,dJ,eX,gS) fun(kE:Int×List (Int×Int×Int)×List Int×List (List (Int×Int)))=>
U (y6.set (0:Nat) (iG kE s (kL n fo) (1:Int)))
fun
(lK:
List
(af))=>
U (y6.set (0:Nat) (iG kE s (-1:Int) (3:Int)))
fun
(l8:
List
(af))=>
jC n s (wL (List.map (fun(l:List (Int×Int))=>l.length) bI.2.2.2).reverse) bM→
(cW=true→
bq IntKind.i64 bz∧
aQ bz (bS bM.1).length∧
(((↑cT.length:Int)==(0:Int))=true→
(j7 cF∧(0:Nat)<(bf bM.1).length)∧
∃(ar:List dg×List af),
jC n s (wL (List.map (fun(l:List (Int×Int))=>l.length) bI.2.2.2).reverse) ar∧
wF ar.1<wF bM.1∧
[n]=[n]∧
(0:Nat)=(0:Nat)∧
s=s∧
b9 n s=(oi cF).1∧
bf ar.1=(oi cF).2.1∧
dH ar.1=(oi cF).2.2.1∧
bS ar.1=(oi cF).2.2.2∧
ar.2=bM.2∧
y4=y4∧
y5=y5∧
s7.1.2.1=s7.1.2.1∧
s7.1.2.2=s7.1.2.2∧True)∧
(((↑cT.length:Int)==(0:Int))=false→
aQ bz (bS bM.1).length∧
aQ (0:Int) cT.length∧
aQ bz (bS bM.1).length∧
((0:Int)≤(1:Int)∧(1:Int)≤(↑cT.length:Int))∧
aQ bz (bS bM.1).length∧
aQ bz (bf bM.1).length∧
aQ bz (dH bM.1).length∧
aQ bz dJ.length∧
True∧
(dG=true→
j7 kE∧
roomFor (bM.2.length+lK.length) (152:Nat)∧
∃(ar:List dg×List af),
jC n s
(wL
(List.map (fun(l:List (Int×Int))=>l.length)
bI.2.2.2).reverse)
ar∧
wF ar.1<wF bM.1∧
[n]=[n]∧
(0:Nat)=(0:Nat)∧
s=s∧
b9 n s=b9 n s∧
bf ar.1=dJ∧
dH ar.1=eX∧
bS ar.1=gS∧
ar.2=bM.2++lK∧
y4=y4∧
y5=y5∧
s7.1.2.1=s7.1.2.1∧
s7.1.2.2=s7.1.2.2∧True)∧
(dG=false→
True∧
((!(fi n fo).2)=true→
j7 kE∧
roomFor (bM.2.length+l8.length) (152:Nat)∧
∃(ar:List dg×List af),
jC n s
(wL
(List.map (fun(l:List (Int×Int))=>l.length)
bI.2.2.2).reverse)
ar∧
wF ar.1<wF bM.1∧
[n]=[n]∧
(0:Nat)=(0:Nat)∧
s=s∧
b9 n s=b9 n s∧
bf ar.1=dJ∧
dH ar.1=eX∧
bS ar.1=gS∧
ar.2=bM.2++l8∧
y4=y4∧
y5=y5∧
s7.1.2.1=s7.1.2.1∧
s7.1.2.2=s7.1.2.2∧True)∧
((!(fi n fo).2)=false→
∃(ar:(List dg×ak)×List af),
zo n s ar∧
wE ar.1.1<wE s7.1.1∧
[n]=[n]∧
(0:Nat)=(0:Nat)∧
s=s∧
ar.1.2.1=(fi n fo).1.1∧
ar.1.2.2=(fi n fo).1.2∧
b9 n s=b9 n s∧
bf ar.1.1=dJ∧
dH ar.1.1=eX∧
bS ar.1.1=gS∧
ar.2=bM.2∧
y4=y4∧y5=y5∧True))))∧
(cW=false→bM.2=pr n.1 s∧True)))∧
(y9=false→
(∃(iy:List dg×List af),
jC n s (wL (List.map (fun(l:List (Int×Int))=>l.length) (bS s7.1.1)).reverse) iy∧
[n]=[n]∧
(0:Nat)=(0:Nat)∧
s=s∧
b9 n s=b9 n s∧
bf iy.1=bf s7.1.1∧
dH iy.1=dH s7.1.1∧
bS iy.1=bS s7.1.1∧
iy.2=s7.2∧y4=y4∧y5=y5∧s7.1.2.1=s7.1.2.1∧s7.1.2.2=s7.1.2.2∧True)∧
∀(bM:List dg×List af),
U (decide ((↑(bf bM.1).length:Int)>(0:Int))) fun(cW:Bool)=>
U ((↑(bf bM.1).length:Int) - (1:Int)) fun(bz:Int)=>
U ((bS bM.1).getD bz.toNat []) fun(cT:List (Int×Int))=>
U (b9 n s,bf bM.1,dH bM.1,bS bM.1)
fun(cF:Int×List (Int×Int×Int)×List Int×List (List (Int×Int)))=>
U ((bf bM.1).getD bz.toNat ((0:Int),(0:Int),(0:Int))) fun(dI:Int×Int×Int)=>
U (cT.getD (Int.toNat (0:Int)) ((0:Int),(0:Int))) fun(fC:Int×Int)=>
U ((bf bM.1).set bz.toNat (dI.1,dI.2.1,fC.1)) fun(dJ:List (Int×Int×Int))=>
U ((dJ.getD bz.toNat ((0:Int),(0:Int),(0:Int))).1,fC.1) fun(fo:Int×Int)=>
U (decide (kL n fo≥(0:Int))) fun(dG:Bool)=>
U ((dH bM.1).set bz.toNat fC.2) fun(eX:List Int)=>
U ((bS bM.1).set bz.toNat (List.drop (Int.toNat (1:Int)) cT)) fun(gS:List (List (Int×Int)))=>
U (b9 n s,dJ,eX,gS) fun(kE:Int×List (Int×Int×Int)×List Int×List (List (Int×Int)))=>
U (y6.set (0:Nat) (iG kE s (kL n fo) (1:Int)))
fun
(lK:
List (af))=>
U (y6.set (0:Nat) (iG kE s (-1:Int) (3:Int)))
fun
(l8:
List (af))=>
jC n s (wL (List.map (fun(l:List (Int×Int))=>l.length) (bS s7.1.1)).reverse) bM→
(cW=true→
bq IntKind.i64 bz∧
aQ bz (bS bM.1).length∧
(((↑cT.length:Int)==(0:Int))=true→
(j7 cF∧(0:Nat)<(bf bM.1).length)∧
∃(ar:List dg×List af),
jC n s (wL (List.map (fun(l:List (Int×Int))=>l.length) (bS s7.1.1)).reverse) ar∧
wF ar.1<wF bM.1∧
[n]=[n]∧
(0:Nat)=(0:Nat)∧
s=s∧
b9 n s=(oi cF).1∧
bf ar.1=(oi cF).2.1∧
dH ar.1=(oi cF).2.2.1∧
bS ar.1=(oi cF).2.2.2∧
ar.2=bM.2∧
y4=y4∧
y5=y5∧
s7.1.2.1=s7.1.2.1∧s7.1.2.2=s7.1.2.2∧True)∧
(((↑cT.length:Int)==(0:Int))=false→
aQ bz (bS bM.1).length∧
aQ (0:Int) cT.length∧
aQ bz (bS bM.1).length∧
((0:Int)≤(1:Int)∧(1:Int)≤(↑cT.length:Int))∧
aQ bz (bS bM.1).length∧
aQ bz (bf bM.1).length∧
aQ bz (dH bM.1).length∧
aQ bz dJ.length∧
True∧
(dG=true→
j7 kE∧
roomFor (bM.2.length+lK.length) (152:Nat)∧
∃(ar:List dg×List af),
jC n s
(wL
(List.map (fun(l:List (Int×Int))=>l.length)
(bS s7.1.1)).reverse)
ar∧
wF ar.1<wF bM.1∧
[n]=[n]∧
(0:Nat)=(0:Nat)∧
s=s∧
b9 n s=b9 n s∧
bf ar.1=dJ∧
dH ar.1=eX∧
bS ar.1=gS∧
ar.2=bM.2++lK∧
y4=y4∧
y5=y5∧
s7.1.2.1=s7.1.2.1∧
s7.1.2.2=s7.1.2.2∧True)∧
(dG=false→
True∧
((!(fi n fo).2)=true→
j7 kE∧
roomFor (bM.2.length+l8.length) (152:Nat)∧
∃(ar:List dg×List af),
jC n s
(wL
(List.map (fun(l:List (Int×Int))=>l.length)
(bS s7.1.1)).reverse)
ar∧
wF ar.1<wF bM.1∧
[n]=[n]∧
(0:Nat)=(0:Nat)∧
s=s∧
b9 n s=b9 n s∧
bf ar.1=dJ∧
dH ar.1=eX∧
bS ar.1=gS∧
ar.2=bM.2++l8∧
y4=y4∧
y5=y5∧
s7.1.2.1=s7.1.2.1∧
s7.1.2.2=s7.1.2.2∧True)∧
((!(fi n fo).2)=false→
∃(ar:(List dg×ak)×List af),
zo n s ar∧
wE ar.1.1<wE s7.1.1∧
[n]=[n]∧
(0:Nat)=(0:Nat)∧
s=s∧
ar.1.2.1=(fi n fo).1.1∧
ar.1.2.2=(fi n fo).1.2∧
b9 n s=b9 n s∧
bf ar.1.1=dJ∧
dH ar.1.1=eX∧
bS ar.1.1=gS∧
ar.2=bM.2∧y4=y4∧y5=y5∧True))))∧
(cW=false→bM.2=pr n.1 s∧True))))):=by kernel_rfl
theorem aj2 (n:aX) (s:Int) (hn:pj n):ai (ah ay [(197,Lb),(144,uY),(147,Ds),(148,uX),(215,K5),(216,K4),(217,K3),(218,K2)]) Tryz.f141 YB (a141 (n,s,())) (n,s,()):=by
 rw[v141]
 refine U.mk fun y2 e2=>U.mk fun y3 e3=>U.mk fun y4 e4=>U.mk fun y5 e5=>U.mk fun y6 e6=>⟨trivial,fun h=>⟨?_,trivial⟩,fun h=>⟨trivial,fun h3=>⟨?_,trivial⟩,fun h3=>⟨?_,?_⟩⟩⟩
 ·unfold pr
  rw[←e2,h]
  rfl
 ·unfold pr
  rw[←e2,h,←tC hn,←e3,h3]
  rfl
 ·refine⟨(([],y3.1),[]),⟨?_,Nat.zero_le _⟩,rfl,rfl,rfl,rfl,rfl,e4.symm,rfl,rfl,rfl,rfl,rfl,rfl,trivial⟩
  show[]++r6 n.1 s (b9 n s) y3.1 []=pr n.1 s
  unfold pr
  rw[←e2,h,←tC hn,←e3,h3]
  exact List.append_nil _
 ·intro s7
  refine U.mk fun y8 e8=>U.mk fun y9 e9=>U.mk fun bp du=>U.mk fun bI eH=>U.mk fun aw dM=>fun mT=> ?_
  have hlen:=VD mT
  obtain⟨⟨gs,x⟩,out⟩:=s7
  obtain⟨h1,h2⟩:=mT
  have h1:out++r6 n.1 s (b9 n s) x gs=pr n.1 s:=h1
  have h2:gs.length≤12:=h2
  have hlen:out.length≤8192:=hlen
  have hy8:y8=lU (b9 n s) gs:=e8
  have hy9:y9=AQ (b9 n s) gs x:=by rw[e9,hy8];exact aaJ _ gs x
  have CU:bI=lU (b9 n s) (((x.1,x.2, -1),0,bF n.1 x.1 x.2)::gs):=by rw[eH,hy8];exact Ye _ n x gs
  have hL:(List.map (fun(l:List (Int×Int))=>l.length) bI.snd.snd.snd).reverse=(List.map (fun(l:List (Int×Int))=>l.length) (bS (((x.1,x.2, -1),0,bF n.1 x.1 x.2)::gs))).reverse:=by rw[CU];rfl
  refine⟨by show(bf gs).length≤1000;rw[fG];omega,fun h9=> ?_,fun h9=> ?_⟩
  ·have hm:AQ (b9 n s) gs x=true:=by rw[←hy9];exact h9
   have dK:gs.length<12:=by
    unfold AQ at hm
    rw[Bool.and_eq_true] at hm
    exact of_decide_eq_true hm.1
   have ju:=PS (p:=n.1) (s:=s) hm
   have RI:wF (((x.1,x.2, -1),0,bF n.1 x.1 x.2)::gs)<wE gs:=ZK dK
   refine⟨by rw[hy8];exact Np _ (by omega),trivial,fun jF=> ?_,fun jF=> ?_⟩
   ·have jF:(aI n.1 x.1==4)=true:=by rw[←jF,du]
    have xY:aw=[oS s (((x.1,x.2, -1),0,[])::gs) 2 (-1)]:=by
     rw[dM,e6,CU,Ip,QM s 2 (-1) (x.1,x.2, -1) 0 (bF n.1 x.1 x.2) []]
     rfl
    refine⟨by rw[CU];exact Np _ (by show gs.length+1≤1000;omega),c6 (by rw[xY];show out.length+1≤_;omega) (by decide),⟨(((x.1,x.2, -1),0,bF n.1 x.1 x.2)::gs,out++aw),⟨?_,by show gs.length+1≤12;omega,?_⟩,?_⟩,?_⟩
    ·rw[←h1,ju,jF,xY]
     exact List.append_assoc _ _ _
    ·rw[hL,←w4]
     exact Nat.le_refl _
    ·rw[CU]
     exact⟨rfl,rfl,rfl,rfl,rfl,rfl,rfl,rfl,rfl,rfl,rfl,rfl,trivial⟩
    ·refine Ek n s _ y4 y5 y6 ((gs,x),out) hn ?_ e6
     rw[hL,←w4]
     exact RI
   ·have jF:(aI n.1 x.1==4)=false:=by rw[←jF,du]
    refine⟨⟨(((x.1,x.2, -1),0,bF n.1 x.1 x.2)::gs,out),⟨?_,by show gs.length+1≤12;omega,?_⟩,?_⟩,?_⟩
    ·rw[←h1,ju,jF]
     rfl
    ·rw[hL,←w4]
     exact Nat.le_refl _
    ·rw[CU]
     exact⟨rfl,rfl,rfl,rfl,rfl,rfl,rfl,rfl,rfl,rfl,rfl,rfl,trivial⟩
    ·refine Ek n s _ y4 y5 y6 ((gs,x),out) hn ?_ e6
     rw[hL,←w4]
     exact RI
  ·have hm:AQ (b9 n s) gs x=false:=by rw[←hy9];exact h9
   have nD:=VB (p:=n.1) (s:=s) h2 hm
   refine⟨⟨(gs,out),⟨?_,h2,?_⟩,rfl,rfl,rfl,rfl,rfl,rfl,rfl,rfl,rfl,rfl,rfl,rfl,trivial⟩,?_⟩
   ·rw[←h1,nD]
   ·show wF gs≤_
    rw[w4 gs]
    exact Nat.le_refl _
   ·refine Ek n s _ y4 y5 y6 ((gs,x),out) hn ?_ e6
    show wL _<wE gs
    rw[←w4 gs]
    exact afC gs
theorem adj:aM Tryz.prog 141 YB:=
 aM.bZ (l:=[(197,Lb),(144,uY),(147,Ds),(148,uX),(215,K5),(216,K4),(217,K3),(218,K2)]) (A:=a141) aH ⟨W1,Mq,W3,Mp,acy,acx,acw,acv,trivial⟩ Tryz.func141 (by kernel_rfl) (by kernel_rfl) fun x _ hp=>aj2 x.1 x.2.1 hp
theorem We (p:ab) {j k:Nat} (h:j≤k):(fL p j).length≤(fL p k).length:=by
 induction k with
 |zero=>
  have:j=0:=by omega
  subst this
  exact Nat.le_refl _
 |succ k ih=>
  by_cases hj:j=k+1
  ·subst hj;exact Nat.le_refl _
  ·have:=ih (by omega)
   rw[tm,List.length_append]
   omega
theorem all_eq (p:ab):cZ p=bif decide (64<(fL p p.2.2.1.length).length) then([],3) else(fL p p.2.2.1.length,0):=by
 have hA:cZ p=bif cd (jW p) p.2.2.1.length then([],3) else(fL p p.2.2.1.length,0):=by unfold cZ;rfl
 rw[hA]
 congr 1
 by_cases h:64<(fL p p.2.2.1.length).length
 ·rw[decide_eq_true h]
  cases hc:cd (jW p) p.2.2.1.length with
  |true=>rfl
  |false=>have:=zz hc;omega
 ·rw[decide_eq_false h]
  refine iS.2 fun i hi=> ?_
  unfold jW
  have:=We p (show i+1≤p.2.2.1.length by omega)
  exact decide_eq_false (by omega)
theorem DE (p:ab):∀k,(fL p k).length≤k*8192
 |0=>by unfold fL;simp
 |k+1=>by
  rw[tm,List.length_append]
  have:=DE p k
  have:=Cv p k
  omega
def pa (p:ab) (s:cv):List Int:=bif aI p s.1==2 then[3 - max s.2.1 s.2.2] else bif aI p s.1==3 then(bif decide (s.2.1>1) then[0,1] else[2,3]) else[]
def LG:bh where
 args:=[.ref jn,eP]
 out:= .row 156 aL
 pre:=fun(x:aX×af×Unit)=>pj x.1∧qw x.2.1
 fn:=fun(x:aX×af×Unit)=>(bA x.1.1 x.2.1,())
def stepOf (x:af) (i:Int):cv:=x.2.2.2.1.getD i.toNat iq
def a143 (x:aX×af×Unit):eC:=bj [(3,fun _=>mN x.2.1.2.2.2.1.length 18 5 1000 156 aL (fun k=>c7 x.1.1 x.2.1 k) [0,3,16,17] [3]),
 (15,fun S=>{
 σ:=Nat
 ok:=fun j=>j≤(pa x.1.1 (stepOf x.2.1 (dC S 18))).length
 mu:=fun j=>(pa x.1.1 (stepOf x.2.1 (dC S 18))).length - j
 sl:=fun j=>[(45,.one (.aC I (j:Int))),(5,.one (.row aL 1001)),(43,.one (.row I 1002)),(44,.one (.aC I ((pa x.1.1 (stepOf x.2.1 (dC S 18))).length:Int)))]
 bl:=fun j=>[(1001,.row false 156 aL (c7 x.1.1 x.2.1 (dC S 18).toNat++cB x.1.1 ((jk x.1.1 (stepOf x.2.1 (dC S 18))).take j))),(1002,.row false 3 I (pa x.1.1 (stepOf x.2.1 (dC S 18))))]
 keep:=[0,3,7,16,17,18]
 cy:=[3,7]})] [26,36,41,59]
abbrev afb:eQ:= .cells true (.pair (.aC I) (.pair (.aC I) (.pair (.aC I) (.pair (.row 76 kz) (.pair (.row 90 ek) (.pair (.row 90 ek) (.pair (.row 3 I) (.pair (.row 3 I) (.aC .bool)))))))))
def WI (r:af):af:=(r.1,r.2.1,r.2.2.1,r.2.2.2.1,r.2.2.2.2.1,r.2.2.2.2.2.1,r.2.2.2.2.2.2.1,r.2.2.2.2.2.2.2.1,true)
def WH (r:af) (z:List Int):af:=(r.1,r.2.1,r.2.2.1,r.2.2.2.1,r.2.2.2.2.1,r.2.2.2.2.2.1,z,r.2.2.2.2.2.2.2)
@[irreducible] def dD (r:af) (e:Int):Bool×af:=
 bif bG r.2.2.2.2.2.2.1 e then(true,r) else bif decide (12≤r.2.2.2.2.2.2.1.length) then(false,WI r) else(true,WH r (r.2.2.2.2.2.2.1++[e]))
def LC:fq where
 args:=[afb,.aC I]
 outs:=[.aC .bool]
 pre:=fun(x:af×Int×Unit)=>x.1.2.2.2.2.2.2.1.length≤1000
 fn:=fun(x:af×Int×Unit)=>((dD x.1 x.2.1).1,())
 fO:=fun(x:af×Int×Unit)=>((dD x.1 x.2.1).2,x.2)
@[irreducible] def po (n:aX) (e stop:Int) (todo:List ak):List ak:=todo++bif(fi n (e,stop)).2 then[(fi n (e,stop)).1] else[]
def LF:fq where
 args:=[.aC I,.aC I,.cells true (.aC (.ref jn)),.cells true (.row 156 aL)]
 outs:=[]
 pre:=fun(x:Int×Int×aX×List ak×Unit)=>x.2.2.2.1.length≤1000000
 fn:=fun _=>()
 fO:=fun(x:Int×Int×aX×List ak×Unit)=>(x.1,x.2.1,x.2.2.1,po x.2.2.1 x.1 x.2.1 x.2.2.2.1,())
def KZ:bh where
 args:=[.list ek,ek]
 out:= .data [I]
 pre:=fun(x:List aY×aY×Unit)=>True
 fn:=fun(x:List aY×aY×Unit)=>(fj (fun y=>x.2.1==y) x.1,())
def a222 (x:List aY×aY×Unit):eC:=bj [(2,fun _=>{tH (fun y=>x.2.1==y) x.1 8 [0,3,7] with cy:=[3]})]
def LB:bh where
 args:=[.list ek,ek]
 out:= .data [.bool]
 pre:=fun(x:List aY×aY×Unit)=>True
 fn:=fun(x:List aY×aY×Unit)=>(bn x.1 x.2.1,())
def kR (p:ab) (r:af) (j:Nat):List ak:=((bA p r).reverse.take j).map fun x=>(bu p x).1
def dF (s:au):List (ak×Bool):=(cr s).map fun y=>(y,true)
structure iK (n:aX) (r:af) (g:List ak×au):Prop where
 same:fin g.1 g.2=bE n.1 r (bA n.1 r).length
 inv:gk 161 g.2
 qG:g.2.1=n.1
 QS:∀y∈g.1,y∈bT n.1
 small:eU g.1 g.2≤100000
def c98:bh where
 args:=[.ref jn,eP]
 out:= .data [eP]
 pre:=fun(x:aX×af×Unit)=>pj x.1∧o6 x.1.1 x.2.1
 fn:=fun(x:aX×af×Unit)=>(dT x.1.1 x.2.1,())
def a98 (x:aX×af×Unit):eC:=bj [
 (8,fun _=>{
  σ:=Nat
  ok:=fun j=>j≤(bA x.1.1 x.2.1).length
  mu:=fun j=>(bA x.1.1 x.2.1).length - j
  sl:=fun j=>[(9,.one (.aC I (((bA x.1.1 x.2.1).length:Int) - 1 - j)))]
  bl:=fun j=>[(7,.cells [.row aL 1000]),(1000,.row false 156 aL (kR x.1.1 x.2.1 j))]
  keep:=[2,3,4,5,6,7,8]
  cy:=[2,3,4,21,24,34,37]}),
 (13,fun _=>{
  σ:=List ak×au
  ok:=fun g=>iK x.1 x.2.1 g
  mu:=fun g=>eU g.1 g.2
  sl:=fun g=>[(6,.one (.map aL .bool 1007))]
  bl:=fun g=>[(2,.cells [.aC (.ref jn) x.1]),
   (3,.cells [.aC I g.2.2.1,.aC I g.2.2.2.1,.aC I g.2.2.2.2.1,.row kz 1001,.row ek 1002,.row ek 1003,.row I 1004,.row I 1005,.aC .bool g.2.2.2.2.2.2.2.2.2.2.1]),
   (1001,.row false 76 kz (eL g.2)),(1002,.row false 90 ek (cY g.2)),(1003,.row false 90 ek (aP g.2)),(1004,.row false 3 I (cL g.2)),(1005,.row false 3 I (cD g.2)),
   (7,.cells [.row aL 1006]),(1006,.row false 156 aL g.1.reverse),
   (1007,.map false aL .bool (dF g.2) none)]
  keep:=[2,3,4,5,7,12]
  cy:=[4]})]
def IN:bh where
 args:=[.ptr jn]
 out:= .data [I]
 pre:=fun(x:Option aX×Unit)=>iL x.1
 fn:=fun(x:Option aX×Unit)=>(((bH x.1).1.2.2.1.length:Int),())
def sY (o:Option aX):Prop:=∃n,o=some n∧pj n
def NI:bh where
 args:=[.ptr jn,I]
 out:= .data [.list eP]
 pre:=fun(x:Option aX×Int×Unit)=>sY x.1
 fn:=fun(x:Option aX×Int×Unit)=>(pr (bH x.1).1 x.2.1,())
def KJ:fq where
 args:=[.aC (.ptr jn)]
 outs:=[.row 49 eP,.aC I]
 pre:=fun(x:Option aX×Unit)=>sY x.1
 fn:=fun(x:Option aX×Unit)=>((cZ (bH x.1).1).1,(cZ (bH x.1).1).2,())
def YP (x:Option aX×Unit):eC:=bj [(3,fun _=>mN (bH x.1).1.2.2.1.length 8 4 1000 49 eP (fun k=>fL (bH x.1).1 k) [0,7] [])]
def Tz:bh where
 args:=[.ptr jn,eP]
 out:= .data [eP]
 pre:=fun(x:Option aX×af×Unit)=>sY x.1∧o6 (bH x.1).1 x.2.1
 fn:=fun(x:Option aX×af×Unit)=>(dT (bH x.1).1 x.2.1,())
def Tx:bh where
 args:=[.ptr jn]
 out:= .data [PlanT]
 pre:=fun(x:Option aX×Unit)=>iL x.1∧kG (bH x.1).1
 fn:=fun(x:Option aX×Unit)=>((bH x.1).1,())
def P2:bh where
 args:=[PlanT]
 out:= .data [mH,I]
 pre:=fun(x:ab×Unit)=>cS x.1
 fn:=fun(x:ab×Unit)=>((cx x.1).1,(cx x.1).2,())
def gm (p:ab) (k:Nat):List af:=((cZ p).1.take k).map (dT p)++(cZ p).1.drop k
def a44 (x:ab×Unit):eC:=bj [(8,fun _=>mN (cZ x.1).1.length 28 6 1000 49 eP (fun k=>gm x.1 k) [2,4,27] [2])]
theorem Fg (p:ab) (s:cv):jk p s=(pa p s).map fun e=>(s.1,e):=by
 unfold jk pa q6
 cases aI p s.1==2 with
 |true=>rfl
 |false=>
  cases aI p s.1==3 with
  |true=>
   by_cases h:(2:Int)≤s.2.1
   ·rw[decide_eq_true h,decide_eq_true (show s.2.1>1 by omega)];rfl
   ·rw[decide_eq_false h,decide_eq_false (show ¬s.2.1>1 by omega)];rfl
  |false=>rfl
theorem UZ (n:aX) (r:af) (s4:Nat) (y6:cv) (y9:List Int) (bI aw:List ak) (hn:pj n) (hr:qw r) (h4:s4<r.2.2.2.1.length) (h6:y6=r.2.2.2.1.getD s4 iq)
  (h9:y9=pa n.1 y6) (mC:bI=c7 n.1 r s4) (mB:aw=jk n.1 y6):
(∀(eI:Nat),
U (decide ((↑eI:Int)<(↑y9.length:Int))) fun(cT:Bool)=>
U (y6.fst,y9.getD (↑eI:Int).toNat (0:Int)) fun(cF:Int×Int)=>
U (bI++cB n.fst (List.take eI aw)) fun(dI:List ak)=>
U ((List.replicate (1:Nat) ((0:Int),(0:Int))).set (0:Nat) cF) fun(fC:List (Int×Int))=>
eI≤y9.length→
(cT=true→
aQ (↑eI:Int) y9.length∧
True∧
((fi n cF).snd=true→
roomFor (dI.length+fC.length) (16:Nat)∧
bq IntKind.i64 ((↑eI:Int)+(1:Int))∧
∃(dq:Nat),
dq≤y9.length∧
y9.length - dq<y9.length - eI∧
(↑dq:Int)=(↑eI:Int)+(1:Int)∧
(↑y9.length:Int)=(↑y9.length:Int)∧
[n]=[n]∧
(0:Nat)=(0:Nat)∧
r.snd.snd.snd.fst=r.snd.snd.snd.fst∧
(↑r.snd.snd.snd.fst.length:Int)=(↑r.snd.snd.snd.fst.length:Int)∧
(↑s4:Int)=(↑s4:Int)∧
bI++cB n.fst (List.take dq aw)=dI++fC∧
y9=y9∧
r.fst=r.fst∧
r.snd.fst=r.snd.fst∧
r.snd.snd.fst=r.snd.snd.fst∧
r.snd.snd.snd.fst=r.snd.snd.snd.fst∧
r.snd.snd.snd.snd.fst=r.snd.snd.snd.snd.fst∧
r.snd.snd.snd.snd.snd.fst=r.snd.snd.snd.snd.snd.fst∧
r.snd.snd.snd.snd.snd.snd.fst=r.snd.snd.snd.snd.snd.snd.fst∧
r.snd.snd.snd.snd.snd.snd.snd.fst=r.snd.snd.snd.snd.snd.snd.snd.fst∧
r.snd.snd.snd.snd.snd.snd.snd.snd=r.snd.snd.snd.snd.snd.snd.snd.snd∧
y6.fst=y6.fst∧y6.snd.fst=y6.snd.fst∧y6.snd.snd=y6.snd.snd∧True)∧
((fi n cF).snd=false→
bq IntKind.i64 ((↑eI:Int)+(1:Int))∧
∃(dq:Nat),
dq≤y9.length∧
y9.length - dq<y9.length - eI∧
(↑dq:Int)=(↑eI:Int)+(1:Int)∧
(↑y9.length:Int)=(↑y9.length:Int)∧
[n]=[n]∧
(0:Nat)=(0:Nat)∧
r.snd.snd.snd.fst=r.snd.snd.snd.fst∧
(↑r.snd.snd.snd.fst.length:Int)=(↑r.snd.snd.snd.fst.length:Int)∧
(↑s4:Int)=(↑s4:Int)∧
bI++cB n.fst (List.take dq aw)=dI∧
y9=y9∧
r.fst=r.fst∧
r.snd.fst=r.snd.fst∧
r.snd.snd.fst=r.snd.snd.fst∧
r.snd.snd.snd.fst=r.snd.snd.snd.fst∧
r.snd.snd.snd.snd.fst=r.snd.snd.snd.snd.fst∧
r.snd.snd.snd.snd.snd.fst=r.snd.snd.snd.snd.snd.fst∧
r.snd.snd.snd.snd.snd.snd.fst=r.snd.snd.snd.snd.snd.snd.fst∧
r.snd.snd.snd.snd.snd.snd.snd.fst=r.snd.snd.snd.snd.snd.snd.snd.fst∧
r.snd.snd.snd.snd.snd.snd.snd.snd=r.snd.snd.snd.snd.snd.snd.snd.snd∧
y6.fst=y6.fst∧y6.snd.fst=y6.snd.fst∧y6.snd.snd=y6.snd.snd∧True))∧
(cT=false→
bq IntKind.i64 ((↑s4:Int)+(1:Int))∧
∃(dq:Nat),
dq≤r.snd.snd.snd.fst.length∧
r.snd.snd.snd.fst.length - dq<r.snd.snd.snd.fst.length - s4∧
(↑dq:Int)=(↑s4:Int)+(1:Int)∧
[n]=[n]∧
(0:Nat)=(0:Nat)∧
r.snd.snd.snd.fst=r.snd.snd.snd.fst∧
(↑r.snd.snd.snd.fst.length:Int)=(↑r.snd.snd.snd.fst.length:Int)∧
c7 n.fst r dq=dI∧
r.fst=r.fst∧
r.snd.fst=r.snd.fst∧
r.snd.snd.fst=r.snd.snd.fst∧
r.snd.snd.snd.fst=r.snd.snd.snd.fst∧
r.snd.snd.snd.snd.fst=r.snd.snd.snd.snd.fst∧
r.snd.snd.snd.snd.snd.fst=r.snd.snd.snd.snd.snd.fst∧
r.snd.snd.snd.snd.snd.snd.fst=r.snd.snd.snd.snd.snd.snd.fst∧
r.snd.snd.snd.snd.snd.snd.snd.fst=r.snd.snd.snd.snd.snd.snd.snd.fst∧
r.snd.snd.snd.snd.snd.snd.snd.snd=r.snd.snd.snd.snd.snd.snd.snd.snd∧True)):=by
 intro k
 have anG:aw.length=y9.length:=by rw[mB,h9,Fg,List.length_map]
 have AB:aw.length≤2:=by rw[mB];exact vL _ _
 have hup:=pA n.1 r s4 (by omega)
 have U6:=hr.1
 simp only[true_and,and_true,eq_self]
 refine U.mk fun cT kT=>U.mk fun cF iN=>U.mk fun dI m8=>U.mk fun fC nH=>fun hk=>⟨fun h=> ?_,fun h=> ?_⟩
 ·have hk:=ba kT h
  have hp:cF=aw.getD k (0,0):=by
   rw[iN,mB,Fg,←h9,Int.toNat_natCast]
   rw[eA _ (show k<(y9.map fun e=>(y6.1,e)).length by rw[List.length_map];exact hk),List.getElem_map,eA _ hk]
  have hs:=yG (p:=n.1) (l:=aw) (s:=k) (by omega)
  have nQ:=vK n.1 (aw.take k)
  have hN:(fi n cF).2=(bu n.1 (aw.getD k (0,0))).2:=by rw[tC hn,hp]
  have Pk:(aw.take k).length≤2:=by rw[List.length_take];omega
  have zf:dI.length≤4000:=by rw[m8,mC,List.length_append];omega
  refine⟨⟨by omega,by omega⟩,fun hx=>⟨c6 (by rw[nH];show dI.length+1≤_;omega) (by decide),bg (by omega) (by omega),k+1,by omega,by omega,by omega,?_⟩,fun hx=>⟨bg (by omega) (by omega),k+1,by omega,by omega,by omega,?_⟩⟩
  ·rw[hs,←hN,hx,m8,nH,hp]
   exact(List.append_assoc _ _ _).symm
  ·rw[hs,←hN,hx,m8]
   show bI++(cB n.1 (aw.take k)++[])=_
   rw[List.append_nil]
 ·have u9:=br kT h
  have XU:k=aw.length:=by omega
  refine⟨bg (by omega) (by omega),s4+1,by omega,by omega,by omega,?_⟩
  rw[ur h4,m8,XU,List.take_length,mB,h6,mC]
theorem v143 (n:aX) (r:af):ai (ah ay [(148,uX),(144,uY)]) Tryz.f143 LG (a143 (n,r,())) (n,r,())=(
U (((List.replicate (2:Nat) (0:Int)).set (0:Nat) (0:Int)).set (1:Nat) (1:Int)) fun(y2:List Int)=>
U (((List.replicate (2:Nat) (0:Int)).set (0:Nat) (2:Int)).set (1:Nat) (3:Int)) fun(y3:List Int)=>
(∃(wg:Nat),
wg≤r.2.2.2.1.length∧
(↑wg:Int)=(0:Int)∧
[n]=[n]∧
(0:Nat)=(0:Nat)∧
r.2.2.2.1=r.2.2.2.1∧
(↑r.2.2.2.1.length:Int)=(↑r.2.2.2.1.length:Int)∧
c7 n.1 r wg=[]∧
aE r (True))∧
∀(s4:Nat),
U (decide ((↑s4:Int)<(↑r.2.2.2.1.length:Int))) fun(y5:Bool)=>
U (r.2.2.2.1.getD (↑s4:Int).toNat ((0:Int),(0:Int),(0:Int))) fun(y6:Int×Int×Int)=>
U (aI n.1 y6.1==(2:Int)) fun(y7:Bool)=>
U ((3:Int) - max y6.2.1 y6.2.2) fun(y8:Int)=>
U (pa n.1 (stepOf r (↑s4:Int))) fun(y9:List Int)=>
U ((List.replicate (1:Nat) (0:Int)).set (0:Nat) y8) fun(bp:List Int)=>
U (c7 n.1 r (↑s4:Int).toNat) fun(bI:List ak)=>
U (jk n.1 (stepOf r (↑s4:Int))) fun(aw:List ak)=>
U (aI n.1 y6.1==(3:Int)) fun(cb:Bool)=>
U (decide (y6.2.1>(1:Int))) fun(cW:Bool)=>
s4≤r.2.2.2.1.length→
(y5=true→
aQ (↑s4:Int) r.2.2.2.1.length∧
True∧
(y7=true→
bq IntKind.i64 y8∧
(∃(mM:Nat),
mM≤y9.length∧
(↑mM:Int)=(0:Int)∧
(↑y9.length:Int)=(↑bp.length:Int)∧
[n]=[n]∧
(0:Nat)=(0:Nat)∧
r.2.2.2.1=r.2.2.2.1∧
(↑r.2.2.2.1.length:Int)=(↑r.2.2.2.1.length:Int)∧
(↑s4:Int)=(↑s4:Int)∧
bI++cB n.1 (List.take mM aw)=c7 n.1 r s4∧
y9=bp∧
aE r (y6.1=y6.1∧y6.2.1=y6.2.1∧y6.2.2=y6.2.2∧True))∧
∀(eI:Nat),
U (decide ((↑eI:Int)<(↑y9.length:Int))) fun(cT:Bool)=>
U (y6.1,y9.getD (↑eI:Int).toNat (0:Int)) fun(cF:Int×Int)=>
U (bI++cB n.1 (List.take eI aw)) fun(dI:List ak)=>
U ((List.replicate (1:Nat) ((0:Int),(0:Int))).set (0:Nat) cF) fun(fC:List (Int×Int))=>
eI≤y9.length→
(cT=true→
aQ (↑eI:Int) y9.length∧
True∧
((fi n cF).2=true→
roomFor (dI.length+fC.length) (16:Nat)∧
bq IntKind.i64 ((↑eI:Int)+(1:Int))∧
∃(dq:Nat),
dq≤y9.length∧
y9.length - dq<y9.length - eI∧
(↑dq:Int)=(↑eI:Int)+(1:Int)∧
(↑y9.length:Int)=(↑y9.length:Int)∧
[n]=[n]∧
(0:Nat)=(0:Nat)∧
r.2.2.2.1=r.2.2.2.1∧
(↑r.2.2.2.1.length:Int)=(↑r.2.2.2.1.length:Int)∧
(↑s4:Int)=(↑s4:Int)∧
bI++cB n.1 (List.take dq aw)=dI++fC∧
y9=y9∧
aE r (y6.1=y6.1∧y6.2.1=y6.2.1∧y6.2.2=y6.2.2∧True))∧
((fi n cF).2=false→
bq IntKind.i64 ((↑eI:Int)+(1:Int))∧
∃(dq:Nat),
dq≤y9.length∧
y9.length - dq<y9.length - eI∧
(↑dq:Int)=(↑eI:Int)+(1:Int)∧
(↑y9.length:Int)=(↑y9.length:Int)∧
[n]=[n]∧
(0:Nat)=(0:Nat)∧
r.2.2.2.1=r.2.2.2.1∧
(↑r.2.2.2.1.length:Int)=(↑r.2.2.2.1.length:Int)∧
(↑s4:Int)=(↑s4:Int)∧
bI++cB n.1 (List.take dq aw)=dI∧
y9=y9∧
aE r (y6.1=y6.1∧y6.2.1=y6.2.1∧y6.2.2=y6.2.2∧True)))∧
(cT=false→
bq IntKind.i64 ((↑s4:Int)+(1:Int))∧
∃(dq:Nat),
dq≤r.2.2.2.1.length∧
r.2.2.2.1.length - dq<r.2.2.2.1.length - s4∧
(↑dq:Int)=(↑s4:Int)+(1:Int)∧
[n]=[n]∧
(0:Nat)=(0:Nat)∧
r.2.2.2.1=r.2.2.2.1∧
(↑r.2.2.2.1.length:Int)=(↑r.2.2.2.1.length:Int)∧
c7 n.1 r dq=dI∧
aE r (True)))∧
(y7=false→
(cb=true→
(cW=true→
(∃(mM:Nat),
mM≤y9.length∧
(↑mM:Int)=(0:Int)∧
(↑y9.length:Int)=(↑y2.length:Int)∧
[n]=[n]∧
(0:Nat)=(0:Nat)∧
r.2.2.2.1=r.2.2.2.1∧
(↑r.2.2.2.1.length:Int)=(↑r.2.2.2.1.length:Int)∧
(↑s4:Int)=(↑s4:Int)∧
bI++cB n.1 (List.take mM aw)=c7 n.1 r s4∧
y9=y2∧
aE r (y6.1=y6.1∧y6.2.1=y6.2.1∧y6.2.2=y6.2.2∧True))∧
∀(eI:Nat),
U (decide ((↑eI:Int)<(↑y9.length:Int))) fun(cT:Bool)=>
U (y6.1,y9.getD (↑eI:Int).toNat (0:Int)) fun(cF:Int×Int)=>
U (bI++cB n.1 (List.take eI aw)) fun(dI:List ak)=>
U ((List.replicate (1:Nat) ((0:Int),(0:Int))).set (0:Nat) cF) fun(fC:List (Int×Int))=>
eI≤y9.length→
(cT=true→
aQ (↑eI:Int) y9.length∧
True∧
((fi n cF).2=true→
roomFor (dI.length+fC.length) (16:Nat)∧
bq IntKind.i64 ((↑eI:Int)+(1:Int))∧
∃(dq:Nat),
dq≤y9.length∧
y9.length - dq<y9.length - eI∧
(↑dq:Int)=(↑eI:Int)+(1:Int)∧
(↑y9.length:Int)=(↑y9.length:Int)∧
[n]=[n]∧
(0:Nat)=(0:Nat)∧
r.2.2.2.1=r.2.2.2.1∧
(↑r.2.2.2.1.length:Int)=(↑r.2.2.2.1.length:Int)∧
(↑s4:Int)=(↑s4:Int)∧
bI++cB n.1 (List.take dq aw)=dI++fC∧
y9=y9∧
aE r (y6.1=y6.1∧y6.2.1=y6.2.1∧y6.2.2=y6.2.2∧True))∧
((fi n cF).2=false→
bq IntKind.i64 ((↑eI:Int)+(1:Int))∧
∃(dq:Nat),
dq≤y9.length∧
y9.length - dq<y9.length - eI∧
(↑dq:Int)=(↑eI:Int)+(1:Int)∧
(↑y9.length:Int)=(↑y9.length:Int)∧
[n]=[n]∧
(0:Nat)=(0:Nat)∧
r.2.2.2.1=r.2.2.2.1∧
(↑r.2.2.2.1.length:Int)=(↑r.2.2.2.1.length:Int)∧
(↑s4:Int)=(↑s4:Int)∧
bI++cB n.1 (List.take dq aw)=dI∧
y9=y9∧
aE r (y6.1=y6.1∧y6.2.1=y6.2.1∧y6.2.2=y6.2.2∧True)))∧
(cT=false→
bq IntKind.i64 ((↑s4:Int)+(1:Int))∧
∃(dq:Nat),
dq≤r.2.2.2.1.length∧
r.2.2.2.1.length - dq<r.2.2.2.1.length - s4∧
(↑dq:Int)=(↑s4:Int)+(1:Int)∧
[n]=[n]∧
(0:Nat)=(0:Nat)∧
r.2.2.2.1=r.2.2.2.1∧
(↑r.2.2.2.1.length:Int)=(↑r.2.2.2.1.length:Int)∧
c7 n.1 r dq=dI∧
aE r (True)))∧
(cW=false→
(∃(mM:Nat),
mM≤y9.length∧
(↑mM:Int)=(0:Int)∧
(↑y9.length:Int)=(↑y3.length:Int)∧
[n]=[n]∧
(0:Nat)=(0:Nat)∧
r.2.2.2.1=r.2.2.2.1∧
(↑r.2.2.2.1.length:Int)=(↑r.2.2.2.1.length:Int)∧
(↑s4:Int)=(↑s4:Int)∧
bI++cB n.1 (List.take mM aw)=c7 n.1 r s4∧
y9=y3∧
aE r (y6.1=y6.1∧y6.2.1=y6.2.1∧y6.2.2=y6.2.2∧True))∧
∀(eI:Nat),
U (decide ((↑eI:Int)<(↑y9.length:Int))) fun(cT:Bool)=>
U (y6.1,y9.getD (↑eI:Int).toNat (0:Int)) fun(cF:Int×Int)=>
U (bI++cB n.1 (List.take eI aw)) fun(dI:List ak)=>
U ((List.replicate (1:Nat) ((0:Int),(0:Int))).set (0:Nat) cF) fun(fC:List (Int×Int))=>
eI≤y9.length→
(cT=true→
aQ (↑eI:Int) y9.length∧
True∧
((fi n cF).2=true→
roomFor (dI.length+fC.length) (16:Nat)∧
bq IntKind.i64 ((↑eI:Int)+(1:Int))∧
∃(dq:Nat),
dq≤y9.length∧
y9.length - dq<y9.length - eI∧
(↑dq:Int)=(↑eI:Int)+(1:Int)∧
(↑y9.length:Int)=(↑y9.length:Int)∧
[n]=[n]∧
(0:Nat)=(0:Nat)∧
r.2.2.2.1=r.2.2.2.1∧
(↑r.2.2.2.1.length:Int)=(↑r.2.2.2.1.length:Int)∧
(↑s4:Int)=(↑s4:Int)∧
bI++cB n.1 (List.take dq aw)=dI++fC∧
y9=y9∧
aE r (y6.1=y6.1∧y6.2.1=y6.2.1∧y6.2.2=y6.2.2∧True))∧
((fi n cF).2=false→
bq IntKind.i64 ((↑eI:Int)+(1:Int))∧
∃(dq:Nat),
dq≤y9.length∧
y9.length - dq<y9.length - eI∧
(↑dq:Int)=(↑eI:Int)+(1:Int)∧
(↑y9.length:Int)=(↑y9.length:Int)∧
[n]=[n]∧
(0:Nat)=(0:Nat)∧
r.2.2.2.1=r.2.2.2.1∧
(↑r.2.2.2.1.length:Int)=(↑r.2.2.2.1.length:Int)∧
(↑s4:Int)=(↑s4:Int)∧
bI++cB n.1 (List.take dq aw)=dI∧
y9=y9∧
aE r (y6.1=y6.1∧y6.2.1=y6.2.1∧y6.2.2=y6.2.2∧True)))∧
(cT=false→
bq IntKind.i64 ((↑s4:Int)+(1:Int))∧
∃(dq:Nat),
dq≤r.2.2.2.1.length∧
r.2.2.2.1.length - dq<r.2.2.2.1.length - s4∧
(↑dq:Int)=(↑s4:Int)+(1:Int)∧
[n]=[n]∧
(0:Nat)=(0:Nat)∧
r.2.2.2.1=r.2.2.2.1∧
(↑r.2.2.2.1.length:Int)=(↑r.2.2.2.1.length:Int)∧
c7 n.1 r dq=dI∧
aE r (True))))∧
(cb=false→
(∃(mM:Nat),
mM≤y9.length∧
(↑mM:Int)=(0:Int)∧
(↑y9.length:Int)=(0:Int)∧
[n]=[n]∧
(0:Nat)=(0:Nat)∧
r.2.2.2.1=r.2.2.2.1∧
(↑r.2.2.2.1.length:Int)=(↑r.2.2.2.1.length:Int)∧
(↑s4:Int)=(↑s4:Int)∧
bI++cB n.1 (List.take mM aw)=c7 n.1 r s4∧
y9=[]∧
aE r (y6.1=y6.1∧y6.2.1=y6.2.1∧y6.2.2=y6.2.2∧True))∧
∀(eI:Nat),
U (decide ((↑eI:Int)<(↑y9.length:Int))) fun(cT:Bool)=>
U (y6.1,y9.getD (↑eI:Int).toNat (0:Int)) fun(cF:Int×Int)=>
U (bI++cB n.1 (List.take eI aw)) fun(dI:List ak)=>
U ((List.replicate (1:Nat) ((0:Int),(0:Int))).set (0:Nat) cF) fun(fC:List (Int×Int))=>
eI≤y9.length→
(cT=true→
aQ (↑eI:Int) y9.length∧
True∧
((fi n cF).2=true→
roomFor (dI.length+fC.length) (16:Nat)∧
bq IntKind.i64 ((↑eI:Int)+(1:Int))∧
∃(dq:Nat),
dq≤y9.length∧
y9.length - dq<y9.length - eI∧
(↑dq:Int)=(↑eI:Int)+(1:Int)∧
(↑y9.length:Int)=(↑y9.length:Int)∧
[n]=[n]∧
(0:Nat)=(0:Nat)∧
r.2.2.2.1=r.2.2.2.1∧
(↑r.2.2.2.1.length:Int)=(↑r.2.2.2.1.length:Int)∧
(↑s4:Int)=(↑s4:Int)∧
bI++cB n.1 (List.take dq aw)=dI++fC∧
y9=y9∧
aE r (y6.1=y6.1∧y6.2.1=y6.2.1∧y6.2.2=y6.2.2∧True))∧
((fi n cF).2=false→
bq IntKind.i64 ((↑eI:Int)+(1:Int))∧
∃(dq:Nat),
dq≤y9.length∧
y9.length - dq<y9.length - eI∧
(↑dq:Int)=(↑eI:Int)+(1:Int)∧
(↑y9.length:Int)=(↑y9.length:Int)∧
[n]=[n]∧
(0:Nat)=(0:Nat)∧
r.2.2.2.1=r.2.2.2.1∧
(↑r.2.2.2.1.length:Int)=(↑r.2.2.2.1.length:Int)∧
(↑s4:Int)=(↑s4:Int)∧
bI++cB n.1 (List.take dq aw)=dI∧
y9=y9∧
aE r (y6.1=y6.1∧y6.2.1=y6.2.1∧y6.2.2=y6.2.2∧True)))∧
(cT=false→
bq IntKind.i64 ((↑s4:Int)+(1:Int))∧
∃(dq:Nat),
dq≤r.2.2.2.1.length∧
r.2.2.2.1.length - dq<r.2.2.2.1.length - s4∧
(↑dq:Int)=(↑s4:Int)+(1:Int)∧
[n]=[n]∧
(0:Nat)=(0:Nat)∧
r.2.2.2.1=r.2.2.2.1∧
(↑r.2.2.2.1.length:Int)=(↑r.2.2.2.1.length:Int)∧
c7 n.1 r dq=dI∧
aE r (True)))))∧
(y5=false→c7 n.1 r s4=bA n.1 r∧True)):=by kernel_rfl
theorem aj1 (n:aX) (r:af) (hn:pj n) (hr:qw r):ai (ah ay [(148,uX),(144,uY)]) Tryz.f143 LG (a143 (n,r,())) (n,r,()):=by
 have U6:=hr.1
 rw[v143]
 refine U.mk fun y2 e2=>U.mk fun y3 e3=>⟨?_,?_⟩
 ·refine⟨0,by omega,rfl,rfl,rfl,rfl,rfl,?_,rfl,rfl,rfl,rfl,rfl,rfl,rfl,rfl,rfl,trivial⟩
  unfold c7
  rfl
 ·intro k
  refine U.mk fun y5 e5=>U.mk fun y6 e6=>U.mk fun y7 e7=>U.mk fun y8 e8=>U.mk fun y9 e9=>U.mk fun bp du=>U.mk fun bI eH=>U.mk fun aw dM=>U.mk fun cb hX=>U.mk fun cW jG=>fun hk=>⟨fun h=> ?_,fun h=> ?_⟩
  ·have hk:=ba e5 h
   have h6:y6=r.2.2.2.1.getD k iq:=e6
   have ju:stepOf r (k:Int)=y6:=h6.symm
   have h9:y9=pa n.1 y6:=by rw[e9,ju]
   have mC:bI=c7 n.1 r k:=eH
   have mB:aw=jk n.1 y6:=by rw[dM,ju]
   have hm:xa y6:=hr.2 y6 (by rw[h6];exact fw iq hk)
   obtain⟨⟨m1,m2⟩,m3,m4⟩:=hm
   have h0:bI++cB n.1 (aw.take 0)=c7 n.1 r k:=by
    rw[mC]
    show c7 n.1 r k++cB n.1 []=_
    unfold cB
    exact List.append_nil _
   have fin:∀(z:List Int),y9=z→(∃(mM:Nat),mM≤y9.length∧(↑mM:Int)=(0:Int)∧(↑y9.length:Int)=(↑z.length:Int)∧bI++cB n.1 (List.take mM aw)=c7 n.1 r k∧y9=z):=fun z hz=>⟨0,by omega,rfl,by rw[hz],h0,hz⟩
   have inn:=UZ n r k y6 y9 bI aw hn hr hk h6 h9 mC mB
   refine⟨⟨by omega,by omega⟩,trivial,fun h7=> ?_,fun h7=>⟨fun mg=>⟨fun qU=> ?_,fun qU=> ?_⟩,fun mg=> ?_⟩⟩
   ·have hz:y9=bp:=by
     rw[h9,du,e8]
     unfold pa
     rw[←e7,h7]
     rfl
    obtain⟨j,q1,q2,q3,q4,q5⟩:=fin _ hz
    exact⟨bg (by omega) (by omega),⟨j,q1,q2,q3,rfl,rfl,rfl,rfl,rfl,q4,q5,rfl,rfl,rfl,rfl,rfl,rfl,rfl,rfl,rfl,rfl,rfl,rfl,trivial⟩,inn⟩
   ·have hz:y9=y2:=by
     rw[h9,e2]
     unfold pa
     rw[←e7,h7,←hX,mg,←jG,qU]
     rfl
    obtain⟨j,q1,q2,q3,q4,q5⟩:=fin _ hz
    exact⟨⟨j,q1,q2,q3,rfl,rfl,rfl,rfl,rfl,q4,q5,rfl,rfl,rfl,rfl,rfl,rfl,rfl,rfl,rfl,rfl,rfl,rfl,trivial⟩,inn⟩
   ·have hz:y9=y3:=by
     rw[h9,e3]
     unfold pa
     rw[←e7,h7,←hX,mg,←jG,qU]
     rfl
    obtain⟨j,q1,q2,q3,q4,q5⟩:=fin _ hz
    exact⟨⟨j,q1,q2,q3,rfl,rfl,rfl,rfl,rfl,q4,q5,rfl,rfl,rfl,rfl,rfl,rfl,rfl,rfl,rfl,rfl,rfl,rfl,trivial⟩,inn⟩
   ·have hz:y9=[]:=by
     rw[h9]
     unfold pa
     rw[←e7,h7,←hX,mg]
     rfl
    obtain⟨j,q1,q2,q3,q4,q5⟩:=fin _ hz
    exact⟨⟨j,q1,q2,q3,rfl,rfl,rfl,rfl,rfl,q4,q5,rfl,rfl,rfl,rfl,rfl,rfl,rfl,rfl,rfl,rfl,rfl,rfl,trivial⟩,inn⟩
  ·have u9:=br e5 h
   have:k=r.2.2.2.1.length:=by omega
   subst this
   refine⟨?_,trivial⟩
   unfold bA
   rfl
theorem adi:aM Tryz.prog 143 LG:=
 aM.bZ (l:=[(148,uX),(144,uY)]) (A:=a143) aH ⟨Mp,Mq,trivial⟩ Tryz.func143 (by kernel_rfl) (by kernel_rfl) fun x _ hp=>aj1 x.1 x.2.1 hp.1 hp.2
theorem agC (r:af) (e:Int):bN (ah ay [(74,BS)]) Tryz.f149 LC aq (r,e,())=(
U (bG r.2.2.2.2.2.2.1 e) fun(y2:Bool)=>
U (dD r e).2.2.2 fun(y3:Int×List (Int×Int×Int)×List (Int×Int)×List (Int×Int)×List Int×List Int×Bool)=>
U (decide ((↑r.2.2.2.2.2.2.1.length:Int)≥(12:Int))) fun(y4:Bool)=>
U ((List.replicate (1:Nat) (0:Int)).set (0:Nat) e) fun(y5:List Int)=>
True∧
(y2=true→
true=(dD r e).1∧
r.1=(dD r e).2.1∧
r.2.1=(dD r e).2.2.1∧
r.2.2.1=y3.1∧
r.2.2.2.1=y3.2.1∧
r.2.2.2.2.1=y3.2.2.1∧
r.2.2.2.2.2.1=y3.2.2.2.1∧
r.2.2.2.2.2.2.1=y3.2.2.2.2.1∧
r.2.2.2.2.2.2.2.1=y3.2.2.2.2.2.1∧r.2.2.2.2.2.2.2.2=y3.2.2.2.2.2.2∧True)∧
(y2=false→
(y4=true→
false=(dD r e).1∧
r.1=(dD r e).2.1∧
r.2.1=(dD r e).2.2.1∧
r.2.2.1=y3.1∧
r.2.2.2.1=y3.2.1∧
r.2.2.2.2.1=y3.2.2.1∧
r.2.2.2.2.2.1=y3.2.2.2.1∧
r.2.2.2.2.2.2.1=y3.2.2.2.2.1∧r.2.2.2.2.2.2.2.1=y3.2.2.2.2.2.1∧true=y3.2.2.2.2.2.2∧True)∧
(y4=false→
roomFor (r.2.2.2.2.2.2.1.length+y5.length) (8:Nat)∧
true=(dD r e).1∧
r.1=(dD r e).2.1∧
r.2.1=(dD r e).2.2.1∧
r.2.2.1=y3.1∧
r.2.2.2.1=y3.2.1∧
r.2.2.2.2.1=y3.2.2.1∧
r.2.2.2.2.2.1=y3.2.2.2.1∧
r.2.2.2.2.2.2.1++y5=y3.2.2.2.2.1∧
r.2.2.2.2.2.2.2.1=y3.2.2.2.2.2.1∧r.2.2.2.2.2.2.2.2=y3.2.2.2.2.2.2∧True))):=by kernel_rfl
theorem ajZ (r:af) (e:Int) (hl:r.2.2.2.2.2.2.1.length≤1000):bN (ah ay [(74,BS)]) Tryz.f149 LC aq (r,e,()):=by
 rw[agC]
 refine U.mk fun y2 e2=>U.mk fun y3 e3=>U.mk fun y4 e4=>U.mk fun y5 e5=>⟨trivial,fun h=> ?_,fun h=>⟨fun h4=> ?_,fun h4=> ?_⟩⟩
 ·have hz:dD r e=(true,r):=by unfold dD;rw[←e2,h];rfl
  rw[e3,hz]
  exact⟨rfl,rfl,rfl,rfl,rfl,rfl,rfl,rfl,rfl,rfl,trivial⟩
 ·have h4:decide (12≤r.2.2.2.2.2.2.1.length)=true:=by rw[←R5 _ 12 12 rfl,←e4];exact h4
  have hz:dD r e=(false,WI r):=by unfold dD;rw[←e2,h,h4];rfl
  rw[e3,hz]
  exact⟨rfl,rfl,rfl,rfl,rfl,rfl,rfl,rfl,rfl,rfl,trivial⟩
 ·have h4:decide (12≤r.2.2.2.2.2.2.1.length)=false:=by rw[←R5 _ 12 12 rfl,←e4];exact h4
  have hz:dD r e=(true,WH r (r.2.2.2.2.2.2.1++[e])):=by unfold dD;rw[←e2,h,h4];rfl
  rw[e3,hz,e5]
  exact⟨c6 (by show _+1≤_;omega) (by decide),rfl,rfl,rfl,rfl,rfl,rfl,rfl,rfl,rfl,rfl,trivial⟩
theorem adf:ew Tryz.prog 149 LC:=
 ew.bZ (l:=[(74,BS)]) (A:=fun _=>aq) aH ⟨S3,trivial⟩ Tryz.func149 (by kernel_rfl) (by kernel_rfl) fun x hw hp=>ajZ x.1 x.2.1 hp
theorem v145 (e:Int) (stop:Int) (n:aX) (todo:List (Int×Int)):bN (ah ay [(144,uY)]) Tryz.f145 LF aq (e,stop,n,todo,())=(
U (fi n (e,stop)).2 fun(y4:Bool)=>
U ((List.replicate (1:Nat) ((0:Int),(0:Int))).set (0:Nat) (fi n (e,stop)).1) fun(y5:List (Int×Int))=>
True∧(y4=true→roomFor (todo.length+y5.length) (16:Nat)∧n=n∧todo++y5=po n e stop todo∧True)∧(y4=false→n=n∧todo=po n e stop todo∧True)):=by kernel_rfl
theorem aj0 (e stop:Int) (n:aX) (todo:List ak) (hl:todo.length≤1000000):bN (ah ay [(144,uY)]) Tryz.f145 LF aq (e,stop,n,todo,()):=by
 rw[v145]
 refine U.mk fun y4 e4=>U.mk fun y5 e5=>⟨trivial,fun h=> ?_,fun h=> ?_⟩
 ·refine⟨c6 (by rw[e5];show _+1≤_;omega) (by decide),rfl,?_,trivial⟩
  unfold po
  rw[←e4,h,e5]
  rfl
 ·refine⟨rfl,?_,trivial⟩
  unfold po
  rw[←e4,h]
  exact(List.append_nil _).symm
theorem adh:ew Tryz.prog 145 LF:=
 ew.bZ (l:=[(144,uY)]) (A:=fun _=>aq) aH ⟨Mq,trivial⟩ Tryz.func145 (by kernel_rfl) (by kernel_rfl) fun x hw hp=>aj0 x.1 x.2.1 x.2.2.1 x.2.2.2.1 hp
theorem v222 (l:List (Int×Int)) (x:Int×Int):ai (ah ay []) Tryz.f222 KZ (a222 (l,x,())) (l,x,())=(
U (fj (fun(y:aY)=>x==y) l) fun(y2:Int)=>
(∃(fD:Nat),
(fD≤l.length∧((List.take fD l).any fun(y:aY)=>x==y)=false)∧(↑fD:Int)=(0:Int)∧l=l∧(↑l.length:Int)=(↑l.length:Int)∧x.1=x.1∧x.2=x.2∧True)∧
∀(s3:Nat),
U (decide ((↑s3:Int)<(↑l.length:Int))) fun(y4:Bool)=>
U (l.getD (↑s3:Int).toNat ((0:Int),(0:Int))) fun(y5:Int×Int)=>
U (x.1==y5.1&&(x.2==y5.2&&true)) fun(y6:Bool)=>
s3≤l.length∧((List.take s3 l).any fun(y:aY)=>x==y)=false→
(y4=true→
aQ (↑s3:Int) l.length∧
(y6=true→(↑s3:Int)=y2∧True)∧
(y6=false→
bq IntKind.i64 ((↑s3:Int)+(1:Int))∧
∃(nv:Nat),
(nv≤l.length∧((List.take nv l).any fun(y:aY)=>x==y)=false)∧
l.length - nv<l.length - s3∧(↑nv:Int)=(↑s3:Int)+(1:Int)∧l=l∧(↑l.length:Int)=(↑l.length:Int)∧x.1=x.1∧x.2=x.2∧True))∧
(y4=false→(-1:Int)=y2∧True)):=by kernel_rfl
theorem ajz (l:List aY) (x:aY) (hw:l.length≤aK):ai (ah ay []) Tryz.f222 KZ (a222 (l,x,())) (l,x,()):=by
 rw[v222]
 refine U.mk fun y2 e2=> ?_
 simp only[true_and,and_true,eq_self]
 refine⟨⟨0,⟨by omega,by simp⟩,by omega⟩,fun s=>U.mk fun y4 e4=>U.mk fun y5 e5=>U.mk fun y6 e6=> ?_⟩
 rintro⟨h1,h2⟩
 rw[Int.toNat_natCast] at e5
 have e6:y6=(x==y5):=by rw[e6];exact sk _ _
 refine⟨fun hs=> ?_,fun hs=> ?_⟩
 ·have hs:=ba e4 hs
  refine⟨⟨by omega,by omega⟩,fun e=> ?_,fun e=>⟨dr hs hw,s+1,⟨by omega,?_⟩,by omega,by omega⟩⟩
  ·rw[e2]
   exact rJ ((0,0):aY) hs h2 (by rw[←e5,←e6];exact e)
  ·exact any_succ ((0,0):aY) hs h2 (by rw[←e5,←e6];exact e)
 ·rw[e2]
  exact qn (s:=s) (br e4 hs) h2
theorem acr:aM Tryz.prog 222 KZ:=
 aM.bZ (l:=[]) (A:=a222) aH trivial Tryz.func222 (by kernel_rfl) (by kernel_rfl) fun x hw hp=>ajz x.1 x.2.1 hw.1.1
theorem agA (l:List (Int×Int)) (x:Int×Int):ai (ah ay [(222,KZ)]) Tryz.f150 LB aq (l,x,())=(
U (fj (fun(y:aY)=>x==y) l) fun(y2:Int)=>True∧decide (y2≥(0:Int))=bn l x∧True):=by kernel_rfl
theorem ajX (l:List aY) (x:aY):ai (ah ay [(222,KZ)]) Tryz.f150 LB aq (l,x,()):=by
 rw[agA]
 refine U.mk fun y2 e2=>⟨trivial,?_,trivial⟩
 rw[e2,p6]
 unfold bn
 congr 1
 funext y
 rw[fF]
theorem adb:aM Tryz.prog 150 LB:=
 aM.bZ (l:=[(222,KZ)]) (A:=fun _=>aq) aH ⟨acr,trivial⟩ Tryz.func150 (by kernel_rfl) (by kernel_rfl) fun x hw hp=>ajX x.1 x.2.1
theorem WQ:aM Tryz.prog 54 IN:=ahj.ptr fun x h=>by
 obtain⟨n,h1⟩:=h
 exact⟨n,h1,trivial⟩
theorem ZW:aM Tryz.prog 141 NI:=adj.ptr fun x h=>by
 obtain⟨n,h1,h2⟩:=h
 exact⟨n,h1,h2⟩
theorem Rn {o:Option aX} (h:sY o):pj (bH o)∧o=some (bH o):=by
 obtain⟨n,rfl,h⟩:=h
 exact⟨h,rfl⟩
theorem afF (o:Option (aX)):bN (ah ay [(54,IN),(141,NI)]) Tryz.f97 KJ (YP (o,())) (o,())=(
U (bH o).1.2.2.1.length fun(y1:Nat)=>
iL o∧
(∃(dp:Nat),dp≤y1∧(↑dp:Int)=(0:Int)∧o=o∧(↑y1:Int)=(↑y1:Int)∧fL (bH o).1 dp=[]∧True)∧
∀(s2:Nat),
U (decide ((↑s2:Int)<(↑y1:Int))) fun(y3:Bool)=>
U (fL (bH o).1 s2).length fun(y4:Nat)=>
U (pr (bH o).1 (↑s2:Int)) fun(y5:List af)=>
s2≤y1→
(y3=true→
sY o∧
roomFor (y4+y5.length) (152:Nat)∧
bq IntKind.i64 ((↑s2:Int)+(1:Int))∧
∃(eR:Nat),
eR≤y1∧
y1 - eR<y1 - s2∧(↑eR:Int)=(↑s2:Int)+(1:Int)∧o=o∧(↑y1:Int)=(↑y1:Int)∧fL (bH o).1 eR=fL (bH o).1 s2++y5∧True)∧
(y3=false→
(decide ((↑y4:Int)>(64:Int))=true→[]=(cZ (bH o).1).1∧(3:Int)=(cZ (bH o).1).2∧True)∧
(decide ((↑y4:Int)>(64:Int))=false→fL (bH o).1 s2=(cZ (bH o).1).1∧(0:Int)=(cZ (bH o).1).2∧True))):=by kernel_rfl
theorem aje (o:Option aX) (ho:sY o):bN (ah ay [(54,IN),(141,NI)]) Tryz.f97 KJ (YP (o,())) (o,()):=by
 obtain⟨hn,Po⟩:=Rn ho
 have hs:=(jB (gr hn.2).1).2.1
 rw[afF]
 refine U.mk fun y1 e1=>⟨⟨_,Po⟩,⟨0,by omega,rfl,rfl,rfl,by unfold fL;rfl,trivial⟩,fun k=>U.mk fun y3 e3=>U.mk fun y4 e4=>U.mk fun y5 e5=>fun hk=>⟨fun h=> ?_,fun h=> ?_⟩⟩
 ·have hk:=ba e3 h
  have h1:=DE (bH o).1 k
  have h2:=Cv (bH o).1 k
  exact⟨ho,c6 (by rw[e4,e5];omega) (by decide),bg (by omega) (by omega),k+1,by omega,by omega,by omega,rfl,rfl,by rw[e5];exact tm _ _,trivial⟩
 ·have hk:=br e3 h
  have:k=y1:=by omega
  subst this
  have e4:decide ((y4:Int)>64)=decide (64<(fL (bH o).1 (bH o).1.2.2.1.length).length):=by
   rw[←e1,←e4,vT _ 64 64 rfl]
   by_cases h:y4≤64
   ·rw[decide_eq_true h,decide_eq_false (by omega)];rfl
   ·rw[decide_eq_false h,decide_eq_true (by omega)];rfl
  rw[all_eq,e4,e1]
  refine⟨fun h=> ?_,fun h=> ?_⟩
  ·rw[h];exact⟨rfl,rfl,trivial⟩
  ·rw[h];exact⟨rfl,rfl,trivial⟩
theorem ab2:ew Tryz.prog 97 KJ:=
 ew.bZ (l:=[(54,IN),(141,NI)]) (A:=YP) aH ⟨WQ,ZW,trivial⟩ Tryz.func97 (by kernel_rfl) (by kernel_rfl) fun x _ hp=>aje x.1 hp
theorem ab0:aM Tryz.prog 99 Tx:=aa9.ptr fun x h=>by
 obtain⟨⟨n,h1⟩,h2⟩:=h
 refine⟨n,h1,?_⟩
 rw[h1] at h2
 exact h2
theorem Hu {l:List Int}:∀{k:Nat},k≤l.length→(∀j,j<k→(l.getD j 0)∉l.take j)→(l.take k).Nodup
 |0,_,_=>by simp
 |k+1,hk,h=>by
  rw[eM 0 (by omega),List.nodup_append]
  refine⟨Hu (by omega) fun j hj=>h j (by omega),by simp,fun a ha b hb=> ?_⟩
  rw[List.mem_singleton] at hb
  intro e
  subst e
  exact h k (by omega) (hb▸ha)
theorem My {l:List Int} {e:Int} (h:e∈l):bG l e=true:=by
 unfold bG
 exact List.any_eq_true.2 ⟨e,h,beq_self_eq_true e⟩
theorem ME {p:ab} (h:bV p=0):cS p:=fun l hl=>by
 obtain⟨hS,_,_,_,hL⟩:=gr h
 have hs:=(jB hS).1
 obtain⟨i,hi,rfl⟩:=List.getElem_of_mem hl
 have hg:p.2.2.2.1[i]=p.2.2.2.1.getD i zL:=(eA zL hi).symm
 rw[hg]
 have he:=MF hL hi
 unfold fK at hL
 have mT:=gv.1 hL i hi
 unfold jd at mT
 rw[Bool.and_eq_true] at mT
 generalize AB:(p.2.2.2.1.getD i zL).2=l at *
 have hn:l.Nodup:=by
  have:=Hu (l:=l) (Nat.le_refl _) fun j hj hm=>by
   have:=gv.1 mT.1 j hj
   unfold lR at this
   rw[AB] at this
   have h2:bG (kJ p i++l.take j) (l.getD j 0)=false:=by simpa using this
   rw[My (List.mem_append_right _ hm)] at h2
   cases h2
  rwa [List.take_length] at this
 have hr:∀e∈l,e∈(List.range p.1.length).map fun(k:Nat)=>(k:Int):=fun e Vd=>by
  obtain⟨k,hk,rfl⟩:=List.getElem_of_mem Vd
  have RT:=(Nw he hk).2
  rw[eA 0 hk] at RT
  have hr:=qi (p:=p) (e:=l[k]) (by rw[RT];decide)
  exact List.mem_map.2 ⟨l[k].toNat,List.mem_range.2 (by omega),by omega⟩
 have:=pX hn hr
 rw[List.length_map,List.length_range] at this
 omega
theorem Hx {n:aX} (h:pj n):kG n.1:=by
 have hs:=jB (gr h.2).1
 exact⟨by show _≤1000;omega,by show _≤1000;omega,by show _≤1000;omega,by show _≤1000;omega,ME h.2⟩
theorem AH {p:ab} {y:ak} (hh:dx p y=true) (h4:(aI p y.1==4)=false) (h2:(aI p y.1==2)=false):cw p y.1 y.2 0=((mi p y.1 y.2 0).1,true):=by
 obtain⟨e,i⟩:=y
 obtain⟨_,h0,hE⟩:=xB hh
 have h0:0≤i:=h0
 have hE:i<cO (aI p e):=hE
 have h4:(aI p e==4)=false:=h4
 have h2:(aI p e==2)=false:=h2
 have e1:cO 1=2:=by unfold cO;rfl
 have e3:cO 3=4:=by unfold cO;rfl
 have hk:aI p e=1∨aI p e=3:=by
  by_cases k1:aI p e=1
  ·exact .inl k1
  ·by_cases k3:aI p e=3
   ·exact .inr k3
   ·exfalso
    have k1:(aI p e==1)=false:=by simpa using k1
    have k3:(aI p e==3)=false:=by simpa using k3
    unfold cO at hE
    rw[k1,h2,k3,h4] at hE
    have:i<0:=hE
    omega
 have has:∀j,0≤j→j<cO (aI p e)→dx p (e,j)=true:=fun j j0 j1=>by
  unfold dx at hh ⊢
  simp only[Bool.and_eq_true,decide_eq_true_eq] at hh ⊢
  exact⟨hh.1,hh.2.1,j0,j1⟩
 rcases hk with hk|hk
 ·have kk:(aI p e==1)=true:=by rw[hk];rfl
  have L5:∀j,0≤j→j<2→cw p e j 0=(1 - j,true):=fun j j0 j1=>by
   unfold cw bF
   rw[has j j0 (by rw[hk,e1];exact j1),kk]
   rfl
  rw[hk,e1] at hE
  show cw p e i 0=((mi p e i 0).1,true)
  rw[L5 i h0 hE]
  unfold mi
  rw[hk,e1]
  have hi:i=0∨i=1:=by omega
  have t0:=L5 0 (by decide) (by decide)
  have t1:=L5 1 (by decide) (by decide)
  rcases hi with rfl|rfl
  ·show _=((FD ((List.range 2).find? fun i=>(cw p e (i:Int) 0).2&&(cw p e (i:Int) 0).1==0)).1,true)
   simp only[List.range_succ,List.range_zero,List.nil_append,List.cons_append,List.find?_cons]
   rw[show cw p e ((0:Nat):Int) 0=(1 - 0,true) from t0,show cw p e ((1:Nat):Int) 0=(1 - 1,true) from t1]
   rfl
  ·show _=((FD ((List.range 2).find? fun i=>(cw p e (i:Int) 0).2&&(cw p e (i:Int) 0).1==1)).1,true)
   simp only[List.range_succ,List.range_zero,List.nil_append,List.cons_append,List.find?_cons]
   rw[show cw p e ((0:Nat):Int) 0=(1 - 0,true) from t0]
   rfl
 ·have k1:(aI p e==1)=false:=by rw[hk];rfl
  have k3:(aI p e==3)=true:=by rw[hk];rfl
  have L5:∀j,0≤j→j<4→cw p e j 0=(tk j,true):=fun j j0 j1=>by
   unfold cw bF
   rw[has j j0 (by rw[hk,e3];exact j1),k1,k3]
   rfl
  rw[hk,e3] at hE
  show cw p e i 0=((mi p e i 0).1,true)
  rw[L5 i h0 hE]
  unfold mi
  rw[hk,e3]
  have hi:i=0∨i=1∨i=2∨i=3:=by omega
  have t0:cw p e ((0:Nat):Int) 0=(1,true):=L5 0 (by decide) (by decide)
  have t1:cw p e ((1:Nat):Int) 0=(0,true):=L5 1 (by decide) (by decide)
  have t2:cw p e ((2:Nat):Int) 0=(3,true):=L5 2 (by decide) (by decide)
  have t3:cw p e ((3:Nat):Int) 0=(2,true):=L5 3 (by decide) (by decide)
  have go:∀q,(FD ((List.range 4).find? fun i=>(cw p e (i:Int) 0).2&&(cw p e (i:Int) 0).1==q)).1=(FD (bif(1:Int)==q then some 0 else bif(0:Int)==q then some 1 else bif(3:Int)==q then some 2 else bif(2:Int)==q then some 3 else none)).1:=fun q=>by
   simp only[List.range_succ,List.range_zero,List.nil_append,List.cons_append,List.find?_cons,List.find?_nil]
   rw[t0,t1,t2,t3]
   show(FD (match(1:Int)==q with |true=>some 0|false=>match(0:Int)==q with |true=>some 1|false=>match(3:Int)==q with |true=>some 2|false=>match(2:Int)==q with |true=>some 3|false=>none)).1=_
   cases (1:Int)==q<;>cases (0:Int)==q<;>cases (3:Int)==q<;>cases (2:Int)==q<;>rfl
  rcases hi with rfl|rfl|rfl|rfl
  ·exact Prod.ext (go 0).symm rfl
  ·exact Prod.ext (go 1).symm rfl
  ·exact Prod.ext (go 2).symm rfl
  ·exact Prod.ext (go 3).symm rfl
theorem Vq {n:aX} {r:af} {y:ak} {ts:List ak} {s:au} (h:iK n r (y::ts,s)):
  iK n r ((iV y s).1++ts,(iV y s).2)∧eU ((iV y s).1++ts) (iV y s).2<eU (y::ts) s:=by
 obtain⟨h1,h2,h3,h4,h5⟩:=h
 have h1:fin (y::ts) s=_:=h1
 have h3:s.1=n.1:=h3
 have h5:eU (y::ts) s≤100000:=h5
 have hy:y∈bT s.1:=by rw[h3];exact h4 y List.mem_cons_self
 obtain⟨k1,k2,k3,k4⟩:=Vs (y:=y) (ts:=ts) (s:=s) ⟨h2,hy⟩
 refine⟨⟨by show fin ((iV y s).1++ts) (iV y s).2=_;rw[←k1];exact h1,k2.gk h2,k2.qG.trans h3,fun x hx=> ?_,Nat.le_trans (Nat.le_of_lt k4) h5⟩,k4⟩
 rcases List.mem_append.1 hx with hx|hx
 ·rw[←h3];exact k3 x hx
 ·exact h4 x (List.mem_cons_of_mem _ hx)
def uo (s:au):af:=(s.2.1,s.2.2.1,s.2.2.2.1,eL s,cY s,aP s,cL s,cD s,s.2.2.2.2.2.2.2.2.2.1)
theorem SW (s:au):iT s=uo s:=by unfold iT;rfl
theorem Qr (s:au) (e:Int):(dD (uo s) e).1=(bL s e).1∧(dD (uo s) e).2=uo (bL s e).2∧cr (bL s e).2=cr s∧(bL s e).2.1=s.1:=by
 unfold dD bL
 show(bif bG (cL s) e then _ else bif decide (12≤(cL s).length) then _ else _:Bool×af).1=_∧(bif bG (cL s) e then _ else bif decide (12≤(cL s).length) then _ else _:Bool×af).2=_∧_
 cases bG (cL s) e with
 |true=>exact⟨rfl,rfl,rfl,rfl⟩
 |false=>cases decide (12≤(cL s).length)<;>exact⟨rfl,rfl,rfl,rfl⟩
theorem OG (p:ab) (e stop:Int):(mO p e stop).reverse=mO p e stop:=by
 unfold mO
 cases (bu p (e,stop)).2<;>rfl
theorem Kb {n:aX} (hn:pj n) (e stop:Int) (l:List ak):po n e stop l=l++mO n.1 e stop:=by
 unfold po mO
 rw[tC hn]
theorem Uu (s:au) (y:ak):(aT aL (dF s) y).getD false=fS (cr s) y:=by
 have:=pY aL (fun x:ak=>x) (cr s) y
 unfold dF
 rw[this]
 unfold fS
 congr 1
 funext x
 rw[Fx,fF]
theorem Oj {s:au} {y:ak} (h:fS (cr s) y=false):dc aL (dF s) y true=dF (eN s (cr s++[y])):=by
 have hn:(aT aL (dF s) y).isSome=false:=by
  rw[gU]
  unfold dF
  rw[List.any_map]
  unfold fS at h
  rw[←h]
  congr 1
  funext x
  show Ty.iW aL y x=_
  rw[Fx,fF]
 rw[nV pB hn]
 show dF s++[(y,true)]=(cr s++[y]).map _
 rw[List.map_append]
 rfl
theorem v98 (n:aX) (r:af):ai (ah ay [(142,Dt),(76,BR),(99,VK),(143,LG),(144,uY),(146,LD),(147,Ds),(148,uX),(149,LC),(74,BS),(150,LB),(151,Lz),(145,LF)] [] [] [145]) Tryz.f98 c98 (a98 (n,r,())) (n,r,())=(
U (r.1,r.2.1,r.2.2.1,r.2.2.2.1,r.2.2.2.2.1,[],[],[],false)
fun(y2:af)=>
U ((↑(bA n.1 y2).length:Int) - (1:Int)) fun(y3:Int)=>
U ((↑(bA n.1 r).length:Int) - (1:Int)) fun(y4:Int)=>
cQ r.2.2.2.1∧
cQ r.2.2.2.2.1∧
kG n.1∧
(pj n∧qw y2)∧
bq IntKind.i64 y3∧
(∃(sW:Nat),
sW≤(bA n.1 r).length∧
y4 - (↑sW:Int)=y3∧
n.1.2.2.2.2.2.2.2.2=n.1.2.2.2.2.2.2.2.2∧
kR n.1 r sW=[]∧
[n]=[n]∧
(0:Nat)=(0:Nat)∧
r.1=r.1∧
r.2.1=r.2.1∧
r.2.2.1=r.2.2.1∧
false=false∧
(0:Int)=(0:Int)∧
(0:Int)=(0:Int)∧
(0:Int)=(0:Int)∧
false=false∧
r.2.2.2.1=r.2.2.2.1∧r.2.2.2.2.1=r.2.2.2.2.1∧([]:List (ak×Bool))=[]∧bA n.1 y2=bA n.1 y2∧True)∧
∀(s5:Nat),
U (decide (y4 - (↑s5:Int)≥(0:Int))) fun(y6:Bool)=>
U ((List.replicate (1:Nat) ((0:Int),(0:Int))).set (0:Nat) (fi n ((bA n.1 y2).getD (y4 - (↑s5:Int)).toNat ((0:Int),(0:Int)))).1)
fun(y7:List (Int×Int))=>
U (y4 - (↑s5:Int) - (1:Int)) fun(y8:Int)=>
s5≤(bA n.1 r).length→
(y6=true→
aQ (y4 - (↑s5:Int)) (bA n.1 y2).length∧
True∧
roomFor ((kR n.1 r s5).length+y7.length) (16:Nat)∧
bq IntKind.i64 y8∧
∃(Cm:Nat),
Cm≤(bA n.1 r).length∧
(bA n.1 r).length - Cm<(bA n.1 r).length - s5∧
y4 - (↑Cm:Int)=y8∧
n.1.2.2.2.2.2.2.2.2=n.1.2.2.2.2.2.2.2.2∧
kR n.1 r Cm=kR n.1 r s5++y7∧
[n]=[n]∧
(0:Nat)=(0:Nat)∧
r.1=r.1∧
r.2.1=r.2.1∧
r.2.2.1=r.2.2.1∧
false=false∧
(0:Int)=(0:Int)∧
(0:Int)=(0:Int)∧
(0:Int)=(0:Int)∧
false=false∧
r.2.2.2.1=r.2.2.2.1∧
r.2.2.2.2.1=r.2.2.2.2.1∧([]:List (ak×Bool))=[]∧bA n.1 y2=bA n.1 y2∧True)∧
(y6=false→
(∃(Au:List ak×au),
iK n r Au∧
n.1.2.2.2.2.2.2.2.2=n.1.2.2.2.2.2.2.2.2∧
n=n∧
Au.2.2.1=r.1∧
Au.2.2.2.1=r.2.1∧
Au.2.2.2.2.1=r.2.2.1∧
Au.2.2.2.2.2.2.2.2.2.2.1=false∧
eL Au.2=r.2.2.2.1∧
cY Au.2=r.2.2.2.2.1∧
aP Au.2=[]∧
cL Au.2=[]∧
cD Au.2=[]∧
Au.1.reverse=kR n.1 r s5∧
dF Au.2=[]∧(0:Int)=(0:Int)∧(0:Int)=(0:Int)∧(0:Int)=(0:Int)∧false=false∧True)∧
∀(s9:List ak×au),
U (decide ((↑s9.1.reverse.length:Int)>(0:Int))) fun(bp:Bool)=>
U ((↑s9.1.reverse.length:Int) - (1:Int)) fun(bI:Int)=>
U
(s9.2.2.1,s9.2.2.2.1,s9.2.2.2.2.1,eL s9.2,cY s9.2,aP s9.2,cL s9.2,cD s9.2,
s9.2.2.2.2.2.2.2.2.2.2.1)
fun(aw:af)=>
U (s9.1.reverse.getD bI.toNat ((0:Int),(0:Int))) fun(cb:Int×Int)=>
U (bif kD aw cb.1 then true else(aT aL (dF s9.2) cb).getD false) fun(cW:Bool)=>
U (List.take bI.toNat s9.1.reverse) fun(bz:List (Int×Int))=>
U (bif decide (kL n cb≥(0:Int)) then !n.1.2.2.2.2.2.2.2.2 else false) fun(cT:Bool)=>
U (!bG (cD s9.2) (kL n cb)) fun(cF:Bool)=>
U ((List.replicate (1:Nat) (0:Int)).set (0:Nat) (kL n cb)) fun(dI:List Int)=>
U (aI n.1 cb.1==(4:Int)) fun(fC:Bool)=>
U (aI n.1 cb.1==(2:Int)) fun(dJ:Bool)=>
U (po n cb.1 (2:Int) bz) fun(fo:List ak)=>
U (dD aw cb.1).2.2
fun(dG:Int×Int×List (Int×Int×Int)×List (Int×Int)×List (Int×Int)×List Int×List Int×Bool)=>
U (bif bn (cY s9.2) cb then true else bn (aP s9.2) cb) fun(eX:Bool)=>
U (cb.1,(3:Int) - cb.2) fun(gS:Int×Int)=>
U (!bn (aP s9.2) gS) fun(kE:Bool)=>
U ((List.replicate (1:Nat) ((0:Int),(0:Int))).set (0:Nat) gS) fun(lK:List (Int×Int))=>
U (cw n.1 cb.1 cb.2 (0:Int)) fun(l8:Int×Bool)=>
iK n r s9→
(bp=true→
bq IntKind.i64 bI∧
aQ bI s9.1.reverse.length∧
bq IntKind.i64 bI∧
((0:Int)≤bI∧bI≤(↑s9.1.reverse.length:Int))∧
(0:Nat)<s9.1.reverse.length∧
(eL s9.2).length≤(1000:Nat)∧
(cW=true→
∃(ar:List ak×au),
iK n r ar∧
eU ar.1 ar.2<eU s9.1 s9.2∧
n.1.2.2.2.2.2.2.2.2=n.1.2.2.2.2.2.2.2.2∧
n=n∧
ar.2.2.1=s9.2.2.1∧
ar.2.2.2.1=s9.2.2.2.1∧
ar.2.2.2.2.1=s9.2.2.2.2.1∧
ar.2.2.2.2.2.2.2.2.2.2.1=
s9.2.2.2.2.2.2.2.2.2.2.1∧
eL ar.2=eL s9.2∧
cY ar.2=cY s9.2∧
aP ar.2=aP s9.2∧
cL ar.2=cL s9.2∧
cD ar.2=cD s9.2∧
ar.1.reverse=bz∧
dF ar.2=dF s9.2∧
(0:Int)=(0:Int)∧
(0:Int)=(0:Int)∧(0:Int)=(0:Int)∧false=false∧True)∧
(cW=false→
True∧
(cT=true→
True∧
(cF=true→
roomFor ((cD s9.2).length+dI.length) (8:Nat)∧
∃(ar:List ak×au),
iK n r ar∧
eU ar.1 ar.2<eU s9.1 s9.2∧
n.1.2.2.2.2.2.2.2.2=n.1.2.2.2.2.2.2.2.2∧
n=n∧
ar.2.2.1=s9.2.2.1∧
ar.2.2.2.1=s9.2.2.2.1∧
ar.2.2.2.2.1=s9.2.2.2.2.1∧
ar.2.2.2.2.2.2.2.2.2.2.1=
s9.2.2.2.2.2.2.2.2.2.2.1∧
eL ar.2=eL s9.2∧
cY ar.2=cY s9.2∧
aP ar.2=aP s9.2∧
cL ar.2=cL s9.2∧
cD ar.2=cD s9.2++dI∧
ar.1.reverse=bz∧
dF ar.2=
dc aL
(dF s9.2) cb true∧
(0:Int)=(0:Int)∧
(0:Int)=(0:Int)∧
(0:Int)=(0:Int)∧false=false∧True)∧
(cF=false→
∃(ar:List ak×au),
iK n r ar∧
eU ar.1 ar.2<eU s9.1 s9.2∧
n.1.2.2.2.2.2.2.2.2=n.1.2.2.2.2.2.2.2.2∧
n=n∧
ar.2.2.1=s9.2.2.1∧
ar.2.2.2.1=s9.2.2.2.1∧
ar.2.2.2.2.1=s9.2.2.2.2.1∧
ar.2.2.2.2.2.2.2.2.2.2.1=
s9.2.2.2.2.2.2.2.2.2.2.1∧
eL ar.2=eL s9.2∧
cY ar.2=cY s9.2∧
aP ar.2=aP s9.2∧
cL ar.2=cL s9.2∧
cD ar.2=cD s9.2∧
ar.1.reverse=bz∧
dF ar.2=
dc aL
(dF s9.2) cb true∧
(0:Int)=(0:Int)∧
(0:Int)=(0:Int)∧
(0:Int)=(0:Int)∧false=false∧True))∧
(cT=false→
True∧
(fC=true→
∃(ar:List ak×au),
iK n r ar∧
eU ar.1 ar.2<eU s9.1 s9.2∧
n.1.2.2.2.2.2.2.2.2=n.1.2.2.2.2.2.2.2.2∧
n=n∧
ar.2.2.1=s9.2.2.1∧
ar.2.2.2.1=s9.2.2.2.1∧
ar.2.2.2.2.1=s9.2.2.2.2.1∧
ar.2.2.2.2.2.2.2.2.2.2.1=true∧
eL ar.2=eL s9.2∧
cY ar.2=cY s9.2∧
aP ar.2=aP s9.2∧
cL ar.2=cL s9.2∧
cD ar.2=cD s9.2∧
ar.1.reverse=bz∧
dF ar.2=
dc aL
(dF s9.2) cb true∧
(0:Int)=(0:Int)∧
(0:Int)=(0:Int)∧
(0:Int)=(0:Int)∧false=false∧True)∧
(fC=false→
(dJ=true→
((cb.2==(0:Int))=true→
(cL s9.2).length≤(1000:Nat)∧
((dD aw cb.1).1=true→
bz.length≤(1000000:Nat)∧
fo.length≤(1000000:Nat)∧
∃(ar:List ak×au),
iK n r ar∧
eU ar.1 ar.2<eU s9.1 s9.2∧
n.1.2.2.2.2.2.2.2.2=
n.1.2.2.2.2.2.2.2.2∧
n=n∧
ar.2.2.1=(dD aw cb.1).2.1∧
ar.2.2.2.1=dG.1∧
ar.2.2.2.2.1=dG.2.1∧
ar.2.2.2.2.2.2.2.2.2.2.1=
dG.2.2.2.2.2.2.2∧
eL ar.2=dG.2.2.1∧
cY ar.2=dG.2.2.2.1∧
aP ar.2=dG.2.2.2.2.1∧
cL ar.2=dG.2.2.2.2.2.1∧
cD ar.2=
dG.2.2.2.2.2.2.1∧
ar.1.reverse=
po n cb.1 (1:Int) fo∧
dF ar.2=
dc
aL
(dF s9.2) cb true∧
(0:Int)=(0:Int)∧
(0:Int)=(0:Int)∧
(0:Int)=(0:Int)∧
false=false∧True)∧
((dD aw cb.1).1=false→
∃(ar:List ak×au),
iK n r ar∧
eU ar.1 ar.2<eU s9.1 s9.2∧
n.1.2.2.2.2.2.2.2.2=
n.1.2.2.2.2.2.2.2.2∧
n=n∧
ar.2.2.1=(dD aw cb.1).2.1∧
ar.2.2.2.1=dG.1∧
ar.2.2.2.2.1=dG.2.1∧
ar.2.2.2.2.2.2.2.2.2.2.1=
dG.2.2.2.2.2.2.2∧
eL ar.2=dG.2.2.1∧
cY ar.2=dG.2.2.2.1∧
aP ar.2=dG.2.2.2.2.1∧
cL ar.2=dG.2.2.2.2.2.1∧
cD ar.2=dG.2.2.2.2.2.2.1∧
ar.1.reverse=bz∧
dF ar.2=
dc
aL
(dF s9.2) cb true∧
(0:Int)=(0:Int)∧
(0:Int)=(0:Int)∧
(0:Int)=(0:Int)∧
false=false∧True))∧
((cb.2==(0:Int))=false→
True∧
(bn (cY s9.2) cb=false→True)∧
(eX=true→
(cL s9.2).length≤(1000:Nat)∧
((dD aw cb.1).1=true→
bz.length≤(1000000:Nat)∧
∃(ar:List ak×au),
iK n r ar∧
eU ar.1 ar.2<eU s9.1 s9.2∧
n.1.2.2.2.2.2.2.2.2=
n.1.2.2.2.2.2.2.2.2∧
n=n∧
ar.2.2.1=(dD aw cb.1).2.1∧
ar.2.2.2.1=dG.1∧
ar.2.2.2.2.1=dG.2.1∧
ar.2.2.2.2.2.2.2.2.2.2.1=
dG.2.2.2.2.2.2.2∧
eL ar.2=dG.2.2.1∧
cY ar.2=dG.2.2.2.1∧
aP ar.2=dG.2.2.2.2.1∧
cL ar.2=dG.2.2.2.2.2.1∧
cD ar.2=
dG.2.2.2.2.2.2.1∧
ar.1.reverse=
po n cb.1 (0:Int) bz∧
dF ar.2=
dc
aL
(dF s9.2) cb true∧
(0:Int)=(0:Int)∧
(0:Int)=(0:Int)∧
(0:Int)=(0:Int)∧
false=false∧True)∧
((dD aw cb.1).1=false→
∃(ar:List ak×au),
iK n r ar∧
eU ar.1 ar.2<eU s9.1 s9.2∧
n.1.2.2.2.2.2.2.2.2=
n.1.2.2.2.2.2.2.2.2∧
n=n∧
ar.2.2.1=(dD aw cb.1).2.1∧
ar.2.2.2.1=dG.1∧
ar.2.2.2.2.1=dG.2.1∧
ar.2.2.2.2.2.2.2.2.2.2.1=
dG.2.2.2.2.2.2.2∧
eL ar.2=dG.2.2.1∧
cY ar.2=dG.2.2.2.1∧
aP ar.2=dG.2.2.2.2.1∧
cL ar.2=dG.2.2.2.2.2.1∧
cD ar.2=
dG.2.2.2.2.2.2.1∧
ar.1.reverse=bz∧
dF ar.2=
dc
aL
(dF s9.2) cb true∧
(0:Int)=(0:Int)∧
(0:Int)=(0:Int)∧
(0:Int)=(0:Int)∧
false=false∧True))∧
(eX=false→
bq IntKind.i64 ((3:Int) - cb.2)∧
True∧
(kE=true→
roomFor ((aP s9.2).length+lK.length) (16:Nat)∧
∃(ar:List ak×au),
iK n r ar∧
eU ar.1 ar.2<eU s9.1 s9.2∧
n.1.2.2.2.2.2.2.2.2=
n.1.2.2.2.2.2.2.2.2∧
n=n∧
ar.2.2.1=s9.2.2.1∧
ar.2.2.2.1=s9.2.2.2.1∧
ar.2.2.2.2.1=s9.2.2.2.2.1∧
ar.2.2.2.2.2.2.2.2.2.2.1=
s9.2.2.2.2.2.2.2.2.2.2.1∧
eL ar.2=eL s9.2∧
cY ar.2=cY s9.2∧
aP ar.2=aP s9.2++lK∧
cL ar.2=cL s9.2∧
cD ar.2=cD s9.2∧
ar.1.reverse=bz∧
dF ar.2=
dc
aL
(dF s9.2) cb true∧
(0:Int)=(0:Int)∧
(0:Int)=(0:Int)∧
(0:Int)=(0:Int)∧
false=false∧True)∧
(kE=false→
∃(ar:List ak×au),
iK n r ar∧
eU ar.1 ar.2<eU s9.1 s9.2∧
n.1.2.2.2.2.2.2.2.2=
n.1.2.2.2.2.2.2.2.2∧
n=n∧
ar.2.2.1=s9.2.2.1∧
ar.2.2.2.1=s9.2.2.2.1∧
ar.2.2.2.2.1=s9.2.2.2.2.1∧
ar.2.2.2.2.2.2.2.2.2.2.1=
s9.2.2.2.2.2.2.2.2.2.2.1∧
eL ar.2=eL s9.2∧
cY ar.2=cY s9.2∧
aP ar.2=aP s9.2∧
cL ar.2=cL s9.2∧
cD ar.2=cD s9.2∧
ar.1.reverse=bz∧
dF ar.2=
dc
aL
(dF s9.2) cb true∧
(0:Int)=(0:Int)∧
(0:Int)=(0:Int)∧
(0:Int)=(0:Int)∧
false=false∧True))))∧
(dJ=false→
True∧
(l8.2=true→
(cL s9.2).length≤(1000:Nat)∧
((dD aw cb.1).1=true→
bz.length≤(1000000:Nat)∧
∃(ar:List ak×au),
iK n r ar∧
eU ar.1 ar.2<eU s9.1 s9.2∧
n.1.2.2.2.2.2.2.2.2=
n.1.2.2.2.2.2.2.2.2∧
n=n∧
ar.2.2.1=(dD aw cb.1).2.1∧
ar.2.2.2.1=dG.1∧
ar.2.2.2.2.1=dG.2.1∧
ar.2.2.2.2.2.2.2.2.2.2.1=
dG.2.2.2.2.2.2.2∧
eL ar.2=dG.2.2.1∧
cY ar.2=dG.2.2.2.1∧
aP ar.2=dG.2.2.2.2.1∧
cL ar.2=dG.2.2.2.2.2.1∧
cD ar.2=
dG.2.2.2.2.2.2.1∧
ar.1.reverse=po n cb.1 l8.1 bz∧
dF ar.2=
dc
aL
(dF s9.2) cb true∧
(0:Int)=(0:Int)∧
(0:Int)=(0:Int)∧
(0:Int)=(0:Int)∧
false=false∧True)∧
((dD aw cb.1).1=false→
∃(ar:List ak×au),
iK n r ar∧
eU ar.1 ar.2<eU s9.1 s9.2∧
n.1.2.2.2.2.2.2.2.2=
n.1.2.2.2.2.2.2.2.2∧
n=n∧
ar.2.2.1=(dD aw cb.1).2.1∧
ar.2.2.2.1=dG.1∧
ar.2.2.2.2.1=dG.2.1∧
ar.2.2.2.2.2.2.2.2.2.2.1=
dG.2.2.2.2.2.2.2∧
eL ar.2=dG.2.2.1∧
cY ar.2=dG.2.2.2.1∧
aP ar.2=dG.2.2.2.2.1∧
cL ar.2=dG.2.2.2.2.2.1∧
cD ar.2=dG.2.2.2.2.2.2.1∧
ar.1.reverse=bz∧
dF ar.2=
dc
aL
(dF s9.2) cb true∧
(0:Int)=(0:Int)∧
(0:Int)=(0:Int)∧
(0:Int)=(0:Int)∧
false=false∧True))∧
(l8.2= !true→
(false=true→
bz.length≤(1000000:Nat)∧
∃(ar:List ak×au),
iK n r ar∧
eU ar.1 ar.2<eU s9.1 s9.2∧
n.1.2.2.2.2.2.2.2.2=
n.1.2.2.2.2.2.2.2.2∧
n=n∧
ar.2.2.1=s9.2.2.1∧
ar.2.2.2.1=s9.2.2.2.1∧
ar.2.2.2.2.1=s9.2.2.2.2.1∧
ar.2.2.2.2.2.2.2.2.2.2.1=
s9.2.2.2.2.2.2.2.2.2.2.1∧
eL ar.2=eL s9.2∧
cY ar.2=cY s9.2∧
aP ar.2=aP s9.2∧
cL ar.2=cL s9.2∧
cD ar.2=cD s9.2∧
ar.1.reverse=po n cb.1 l8.1 bz∧
dF ar.2=
dc
aL
(dF s9.2) cb true∧
(0:Int)=(0:Int)∧
(0:Int)=(0:Int)∧
(0:Int)=(0:Int)∧
false=false∧True)∧
(false=false→
∃(ar:List ak×au),
iK n r ar∧
eU ar.1 ar.2<eU s9.1 s9.2∧
n.1.2.2.2.2.2.2.2.2=
n.1.2.2.2.2.2.2.2.2∧
n=n∧
ar.2.2.1=s9.2.2.1∧
ar.2.2.2.1=s9.2.2.2.1∧
ar.2.2.2.2.1=s9.2.2.2.2.1∧
ar.2.2.2.2.2.2.2.2.2.2.1=
s9.2.2.2.2.2.2.2.2.2.2.1∧
eL ar.2=eL s9.2∧
cY ar.2=cY s9.2∧
aP ar.2=aP s9.2∧
cL ar.2=cL s9.2∧
cD ar.2=cD s9.2∧
ar.1.reverse=bz∧
dF ar.2=
dc
aL
(dF s9.2) cb true∧
(0:Int)=(0:Int)∧
(0:Int)=(0:Int)∧
(0:Int)=(0:Int)∧
false=false∧True)))))))∧
(bp=false→aw=dT n.1 r∧True))):=by kernel_rfl
theorem b98 (n:aX) (r:af) (hn:pj n) (hf:o6 n.1 r):ai (ah ay [(142,Dt),(76,BR),(99,VK),(143,LG),(144,uY),(146,LD),(147,Ds),(148,uX),(149,LC),(74,BS),(150,LB),(151,Lz),(145,LF)] [] [] [145]) Tryz.f98 c98 (a98 (n,r,())) (n,r,()):=by
 have ju:qw r:=hf.2.1
 have U6:=ju.1
 have HW:=hf.2.2
 have hup:=pA n.1 r r.2.2.2.1.length (Nat.le_refl _)
 have nQ:(bA n.1 r).length≤2000:=by unfold bA;omega
 have iX:=jB (gr hn.2).1
 rw[v98]
 refine U.mk fun y2 e2=> ?_
 have hp2:bA n.1 y2=bA n.1 r:=by rw[e2];unfold bA c7;rfl
 rw[hp2]
 refine U.mk fun y3 e3=>U.mk fun y4 e4=>⟨U6,HW,Hx hn,⟨hn,by rw[e2];exact ju⟩,bg (by omega) (by omega),⟨0,by omega,?_⟩,fun k=>U.mk fun y6 e6=>U.mk fun y7 e7=>U.mk fun y8 e8=>fun hk=>⟨fun h6=> ?_,fun h6=>⟨?_,?_⟩⟩⟩
 ·have q1:y4 - ((0:Nat):Int)=y3:=by rw[e3,e4];exact Int.sub_zero _
  repeat' apply And.intro
  all_goals first|rfl|trivial|exact q1
 ·have h6:y4 - (k:Int)≥0:=of_decide_eq_true (by rw[←e6];exact h6)
  have hkl:k<(bA n.1 r).length:=by omega
  have hpo:(kR n.1 r k).length≤2000:=by unfold kR;rw[List.length_map,List.length_take,List.length_reverse];omega
  refine⟨⟨by omega,by omega⟩,trivial,c6 (by rw[e7];show _+1≤_;omega) (by decide),bg (by omega) (by omega),k+1,by omega,by omega,?_⟩
  have q1:y4 - ((k+1:Nat):Int)=y8:=by omega
  have q2:kR n.1 r (k+1)=kR n.1 r k++y7:=by
   unfold kR
   rw[eM (0,0) (by rw[List.length_reverse];exact hkl),List.map_append,e7,tC hn]
   have ht:(y4 - (k:Int)).toNat=(bA n.1 r).length - 1 - k:=by omega
   have hrv:(bA n.1 r).reverse.getD k (0,0)=(bA n.1 r).getD ((bA n.1 r).length - 1 - k) (0,0):=by
    rw[eA _ (by rw[List.length_reverse];exact hkl),List.getElem_reverse,eA _ (by omega)]
   rw[ht,←hrv]
   rfl
  repeat' apply And.intro
  all_goals first|rfl|trivial|exact q1|exact q2
 ·have h6:¬y4 - (k:Int)≥0:=of_decide_eq_false (by rw[←e6];exact h6)
  have hkl:k=(bA n.1 r).length:=by omega
  have Tn:=Iq hf (bA n.1 r).length (Nat.le_refl _)
  rw[List.take_length] at Tn
  have hon:=(wM hf 0).1
  have hje:(bT n.1).length≤160:=by have:=mj n.1;omega
  have q2:((bA n.1 r).map fun x=>(bu n.1 x).1).reverse=kR n.1 r k:=by
   unfold kR
   rw[hkl,show(bA n.1 r).reverse.take (bA n.1 r).length=(bA n.1 r).reverse by rw[←List.length_reverse,List.take_length],List.map_reverse]
  refine⟨((bA n.1 r).map fun x=>(bu n.1 x).1,s0 n.1 r),⟨Tn.symm,hon,rfl,fun y hy=> ?_,?_⟩,?_⟩
  ·obtain⟨x,hx,rfl⟩:=List.mem_map.1 hy
   exact o0 (AO hx)
  ·show eU _ _≤_
   unfold eU
   rw[List.length_map]
   have:(s0 n.1 r).1=n.1:=rfl
   rw[this]
   omega
  ·repeat' apply And.intro
   all_goals first|rfl|trivial|exact q2
 ·intro s9
  refine U.mk fun bp du=>U.mk fun bI eH=>U.mk fun aw dM=>U.mk fun cb hX=>U.mk fun cW jG=>U.mk fun bz gJ=>U.mk fun cT kT=>U.mk fun cF iN=>U.mk fun dI m8=>U.mk fun fC nH=>U.mk fun dJ pb=>U.mk fun fo qZ=>U.mk fun dG sB=>U.mk fun eX xJ=>U.mk fun gS wQ=>U.mk fun kE BO=>U.mk fun lK BN=>U.mk fun l8 Dg=>fun mT=> ?_
  obtain⟨ts,s⟩:=s9
  have xY:aw=uo s:=dM
  cases ts with
  |nil=>
   have jF:bp=false:=by rw[du];rfl
   refine⟨fun h=>(by rw[jF] at h;cases h),fun _=>⟨?_,trivial⟩⟩
   have h1:s=bE n.1 r (bA n.1 r).length:=mT.same
   unfold dT
   rw[←h1,SW]
   exact xY
  |cons y ts=>
   have hlen:((y::ts).reverse).length=ts.length+1:=by simp
   have hwk:eU (y::ts) s≤100000:=mT.small
   have Pk:ts.length≤100000:=by unfold eU at hwk;rw[List.length_cons] at hwk;omega
   have jF:bp=true:=by
    rw[du]
    show decide ((((y::ts).reverse).length:Int)>0)=true
    exact decide_eq_true (by omega)
   have mC:bI=(ts.length:Int):=by
    rw[eH]
    show((((y::ts).reverse).length:Int) - 1)=_
    omega
   have hrv:(y::ts).reverse=ts.reverse++[y]:=List.reverse_cons
   have mg:cb=y:=by
    rw[hX,mC]
    show((y::ts).reverse).getD ts.length _=y
    rw[hrv]
    exact rH _ _ _ (by simp)
   have Ya:bz=ts.reverse:=by
    rw[gJ,mC]
    show((y::ts).reverse).take ts.length=_
    rw[hrv]
    exact List.take_left' (by simp)
   have nQ:s.1=n.1:=mT.qG
   have hyj:y∈bT n.1:=mT.QS y List.mem_cons_self
   have hinv:=mT.inv.1
   have hinv:DJ s:=hinv
   have HR:(cL s).length≤12:=hinv.nk
   have HZ:=DX s hinv
   have Pv:(aP s).length≤2000:=Nat.le_trans hinv.guards HZ
   have hhl:(cD s).length≤2000:=Nat.le_trans hinv.holds HZ
   have yd:(eL s).length≤1000:=hinv.steps
   obtain⟨g1,g2⟩:=Vq mT
   have hR:kL n y=b8 s.1 y:=by rw[nQ];exact Hy hn y
   have qU:cW=(kD (iT s) y.1||fS (cr s) y):=by
    rw[jG,xY,mg,SW]
    show(bif kD (uo s) y.1 then true else(aT aL (dF s) y).getD false)=_
    rw[Uu]
    cases kD (uo s) y.1<;>rfl
   have sK:cT=(decide (0≤b8 s.1 y)&& !s.1.2.2.2.2.2.2.2.2):=by
    rw[kT,mg,hR,nQ]
    cases decide (0≤b8 n.1 y)<;>rfl
   have h17:cF= !bG (cD s) (b8 s.1 y):=by rw[iN,mg,hR]
   have zf:dI=[b8 s.1 y]:=by rw[m8,mg,hR];rfl
   have Ic:fC=(aI s.1 y.1==4):=by rw[nH,mg,nQ]
   have C3:dJ=(aI s.1 y.1==2):=by rw[pb,mg,nQ]
   have R4:fo=ts.reverse++mO s.1 y.1 2:=by rw[qZ,mg,Ya,Kb hn,nQ]
   have zd:dG=(dD (uo s) y.1).2.2:=by rw[sB,mg,xY]
   have Vk:eX=(bn (cY s) y||bn (aP s) y):=by
    rw[xJ,mg]
    show(bif bn (cY s) y then true else bn (aP s) y)=_
    cases bn (cY s) y<;>rfl
   have R3:gS=(y.1,3 - y.2):=by rw[wQ,mg]
   have h25:kE= !bn (aP s) (y.1,3 - y.2):=by rw[BO,R3]
   have h26:lK=[(y.1,3 - y.2)]:=by rw[BN,R3];rfl
   have h27:l8=cw s.1 y.1 y.2 0:=by rw[Dg,mg,nQ]
   have FG:dx s.1 y=true:=by
    obtain⟨j,hj,hx⟩:=(VE n.1 y).1 hyj
    have:=xx (gr hn.2).2.2.1 hj
    rw[nQ]
    rcases hx with rfl|rfl
    ·exact this.1
    ·exact this.2
   have Kt:=uL FG
   clear du eH hX jG gJ kT iN m8 nH pb qZ sB xJ wQ BO BN Dg
   rw[mg,Ya,xY,mC]
   have anz:((y::ts).reverse).length=ts.length+1:=hlen
   obtain⟨Pf,Pe,hzC,hzD⟩:=Qr (eN s (cr s++[y])) y.1
   have Pf:(dD (uo s) y.1).1=(bL (eN s (cr s++[y])) y.1).1:=Pf
   have Pe:(dD (uo s) y.1).2=uo (bL (eN s (cr s++[y])) y.1).2:=Pe
   have l15:ts.reverse.length≤1000000:=by rw[List.length_reverse];omega
   have r1:∀e stop,(mO s.1 e stop++ts).reverse=ts.reverse++mO s.1 e stop:=fun e stop=>by rw[List.reverse_append,OG]
   have o1:∀e stop l,po n e stop l=l++mO s.1 e stop:=fun e stop l=>by rw[Kb hn,nQ]
   refine⟨fun _=>⟨bg (by omega) (by omega),⟨by omega,by show _<(((y::ts).reverse).length:Int);omega⟩,bg (by omega) (by omega),⟨by omega,by show _≤(((y::ts).reverse).length:Int);omega⟩,by show 0<((y::ts).reverse).length;omega,yd,fun VZ=> ?_,fun VZ=> ?_⟩,fun h=>(by rw[jF] at h;cases h)⟩
   ·have hm:iV y s=([],s):=by
     unfold iV
     rw[←qU,VZ]
     rfl
    rw[hm] at g1 g2
    refine⟨([]++ts,s),g1,g2,?_⟩
    repeat' apply And.intro
    all_goals first|rfl|trivial
   have aid:fS (cr s) y=false:=by
    rw[qU] at VZ
    exact(Bool.or_eq_false_iff.1 VZ).2
   have HY:iV y s=xW y (eN s (cr s++[y])):=by
    unfold iV
    rw[←qU,VZ]
    rfl
   have q2:dF (eN s (cr s++[y]))=dc aL (dF s) y true:=(Oj aid).symm
   have qz:dF (bL (eN s (cr s++[y])) y.1).2=dc aL (dF s) y true:=by rw[←q2];unfold dF;rw[hzC]
   have hN:∀c,(decide (0≤b8 s.1 y)&& !s.1.2.2.2.2.2.2.2.2)=c→xW y (eN s (cr s++[y]))=bif c then([],bif bG (cD s) (b8 s.1 y) then eN s (cr s++[y]) else Bg (eN s (cr s++[y])) (cD s++[b8 s.1 y])) else
     bif aI s.1 y.1==4 then([],ui (eN s (cr s++[y]))) else bif aI s.1 y.1==2 then jP y (eN s (cr s++[y])) else
     (bif(bL (eN s (cr s++[y])) y.1).1 then(mO s.1 y.1 (mi s.1 y.1 y.2 0).1,(bL (eN s (cr s++[y])) y.1).2) else([],(bL (eN s (cr s++[y])) y.1).2)):=fun c hc=>by
    subst hc
    unfold xW
    rfl
   rw[zf,R4,zd,h26]
   refine⟨trivial,fun yi=>⟨trivial,fun BV=>⟨c6 (by show(cD s).length+1≤_;omega) (by decide),?_⟩,fun BV=> ?_⟩,fun yi=>⟨trivial,fun yh=> ?_,fun yh=>⟨fun EA=>⟨fun c0=>⟨by show(cL s).length≤_;omega,fun cz=>⟨l15,?_,?_⟩,fun cz=> ?_⟩,fun c0=>⟨trivial,fun _=>trivial,fun BU=>⟨by show(cL s).length≤_;omega,fun cz=>⟨l15,?_⟩,fun cz=> ?_⟩,fun BU=>⟨bg ?_ ?_,trivial,fun Dq=>⟨c6 (by show(aP s).length+1≤_;omega) (by decide),?_⟩,fun Dq=> ?_⟩⟩⟩,fun EA=>⟨trivial,fun JI=>⟨by show(cL s).length≤_;omega,fun cz=>⟨l15,?_⟩,fun cz=> ?_⟩,fun JI=> ?_⟩⟩⟩⟩
   ·-- held by a signal, for the first time
    have hm:iV y s=([],Bg (eN s (cr s++[y])) (cD s++[b8 s.1 y])):=by
     rw[HY,hN true (by rw[←sK,yi])]
     have:bG (cD s) (b8 s.1 y)=false:=by rw[h17] at BV;simpa using BV
     rw[this]
     rfl
    rw[hm] at g1 g2
    refine⟨([]++ts,_),g1,g2,?_⟩
    repeat' apply And.intro
    all_goals first|rfl|trivial|exact q2
   ·have hm:iV y s=([],eN s (cr s++[y])):=by
     rw[HY,hN true (by rw[←sK,yi])]
     have:bG (cD s) (b8 s.1 y)=true:=by rw[h17] at BV;simpa using BV
     rw[this]
     rfl
    rw[hm] at g1 g2
    refine⟨([]++ts,_),g1,g2,?_⟩
    repeat' apply And.intro
    all_goals first|rfl|trivial|exact q2
   ·-- a gate
    have hm:iV y s=([],ui (eN s (cr s++[y]))):=by
     rw[HY,hN false (by rw[←sK,yi]),←Ic,yh]
     rfl
    rw[hm] at g1 g2
    refine⟨([]++ts,_),g1,g2,?_⟩
    repeat' apply And.intro
    all_goals first|rfl|trivial|exact q2
   ·have:=yE s.1 y.1 2
    rw[List.length_append,List.length_reverse]
    omega
   ·-- points from their tip, into the zone
    have cz:(bL (eN s (cr s++[y])) y.1).1=true:=by rw[←Pf];exact cz
    have hm:iV y s=(mO s.1 y.1 1++mO s.1 y.1 2,(bL (eN s (cr s++[y])) y.1).2):=by
     rw[HY,hN false (by rw[←sK,yi]),←Ic,yh,←C3,EA]
     show jP y _=_
     unfold jP
     rw[c0,cz]
     rfl
    rw[hm] at g1 g2
    have q1:(mO s.1 y.1 1++mO s.1 y.1 2++ts).reverse=po n y.1 1 (ts.reverse++mO s.1 y.1 2):=by
     rw[o1,List.append_assoc,List.reverse_append,r1,OG]
    refine⟨(mO s.1 y.1 1++mO s.1 y.1 2++ts,_),g1,g2,?_⟩
    rw[Pe]
    repeat' apply And.intro
    all_goals first|rfl|trivial|exact q1|exact qz
   ·have cz:(bL (eN s (cr s++[y])) y.1).1=false:=by rw[←Pf];exact cz
    have hm:iV y s=([],(bL (eN s (cr s++[y])) y.1).2):=by
     rw[HY,hN false (by rw[←sK,yi]),←Ic,yh,←C3,EA]
     show jP y _=_
     unfold jP
     rw[c0,cz]
     rfl
    rw[hm] at g1 g2
    refine⟨([]++ts,_),g1,g2,?_⟩
    rw[Pe]
    repeat' apply And.intro
    all_goals first|rfl|trivial|exact qz
   ·-- points from a leg that they lie in
    have cz:(bL (eN s (cr s++[y])) y.1).1=true:=by rw[←Pf];exact cz
    have hm:iV y s=(mO s.1 y.1 0,(bL (eN s (cr s++[y])) y.1).2):=by
     rw[HY,hN false (by rw[←sK,yi]),←Ic,yh,←C3,EA]
     show jP y _=_
     unfold jP
     have:(!bn (cY (eN s (cr s++[y]))) (y.1,y.2)&& !bn (aP (eN s (cr s++[y]))) (y.1,y.2))=false:=by
      show(!bn (cY s) y&& !bn (aP s) y)=false
      rw[Vk] at BU
      revert BU
      cases bn (cY s) y<;>cases bn (aP s) y<;>decide
     rw[c0,this,cz]
     rfl
    rw[hm] at g1 g2
    have q1:(mO s.1 y.1 0++ts).reverse=po n y.1 0 ts.reverse:=by rw[o1,r1]
    refine⟨(mO s.1 y.1 0++ts,_),g1,g2,?_⟩
    rw[Pe]
    repeat' apply And.intro
    all_goals first|rfl|trivial|exact q1|exact qz
   ·have cz:(bL (eN s (cr s++[y])) y.1).1=false:=by rw[←Pf];exact cz
    have hm:iV y s=([],(bL (eN s (cr s++[y])) y.1).2):=by
     rw[HY,hN false (by rw[←sK,yi]),←Ic,yh,←C3,EA]
     show jP y _=_
     unfold jP
     have:(!bn (cY (eN s (cr s++[y]))) (y.1,y.2)&& !bn (aP (eN s (cr s++[y]))) (y.1,y.2))=false:=by
      show(!bn (cY s) y&& !bn (aP s) y)=false
      rw[Vk] at BU
      revert BU
      cases bn (cY s) y<;>cases bn (aP s) y<;>decide
     rw[c0,this,cz]
     rfl
    rw[hm] at g1 g2
    refine⟨([]++ts,_),g1,g2,?_⟩
    rw[Pe]
    repeat' apply And.intro
    all_goals first|rfl|trivial|exact qz
   ·have:=Kt.2;omega
   ·have:=Kt.1;omega
   ·-- points that are to lie away
    have wG:(!bn (cY (eN s (cr s++[y]))) (y.1,y.2)&& !bn (aP (eN s (cr s++[y]))) (y.1,y.2))=true:=by
     show(!bn (cY s) y&& !bn (aP s) y)=true
     rw[Vk] at BU
     revert BU
     cases bn (cY s) y<;>cases bn (aP s) y<;>decide
    have hm:iV y s=([],zO (eN s (cr s++[y])) (aP s++[(y.1,3 - y.2)])):=by
     rw[HY,hN false (by rw[←sK,yi]),←Ic,yh,←C3,EA]
     show jP y _=_
     unfold jP
     have:bn (aP (eN s (cr s++[y]))) (y.1,3 - y.2)=false:=by
      show bn (aP s) _=false
      rw[h25] at Dq
      simpa using Dq
     rw[c0,wG,this]
     rfl
    rw[hm] at g1 g2
    refine⟨([]++ts,_),g1,g2,?_⟩
    repeat' apply And.intro
    all_goals first|rfl|trivial|exact q2
   ·have wG:(!bn (cY (eN s (cr s++[y]))) (y.1,y.2)&& !bn (aP (eN s (cr s++[y]))) (y.1,y.2))=true:=by
     show(!bn (cY s) y&& !bn (aP s) y)=true
     rw[Vk] at BU
     revert BU
     cases bn (cY s) y<;>cases bn (aP s) y<;>decide
    have hm:iV y s=([],eN s (cr s++[y])):=by
     rw[HY,hN false (by rw[←sK,yi]),←Ic,yh,←C3,EA]
     show jP y _=_
     unfold jP
     have:bn (aP (eN s (cr s++[y]))) (y.1,3 - y.2)=true:=by
      show bn (aP s) _=true
      rw[h25] at Dq
      simpa using Dq
     rw[c0,wG,this]
     rfl
    rw[hm] at g1 g2
    refine⟨([]++ts,_),g1,g2,?_⟩
    repeat' apply And.intro
    all_goals first|rfl|trivial|exact q2
   ·-- straight on
    have hth:=AH FG (by rw[←Ic,yh]) (by rw[←C3,EA])
    have cz:(bL (eN s (cr s++[y])) y.1).1=true:=by rw[←Pf];exact cz
    have hm:iV y s=(mO s.1 y.1 (mi s.1 y.1 y.2 0).1,(bL (eN s (cr s++[y])) y.1).2):=by
     rw[HY,hN false (by rw[←sK,yi]),←Ic,yh,←C3,EA,cz]
     rfl
    rw[hm] at g1 g2
    have q1:(mO s.1 y.1 (mi s.1 y.1 y.2 0).1++ts).reverse=po n y.1 l8.1 ts.reverse:=by rw[o1,r1,h27,hth]
    refine⟨(mO s.1 y.1 (mi s.1 y.1 y.2 0).1++ts,_),g1,g2,?_⟩
    rw[Pe]
    repeat' apply And.intro
    all_goals first|rfl|trivial|exact q1|exact qz
   ·have cz:(bL (eN s (cr s++[y])) y.1).1=false:=by rw[←Pf];exact cz
    have hm:iV y s=([],(bL (eN s (cr s++[y])) y.1).2):=by
     rw[HY,hN false (by rw[←sK,yi]),←Ic,yh,←C3,EA,cz]
     rfl
    rw[hm] at g1 g2
    refine⟨([]++ts,_),g1,g2,?_⟩
    rw[Pe]
    repeat' apply And.intro
    all_goals first|rfl|trivial|exact qz
   ·have hth:=AH FG (by rw[←Ic,yh]) (by rw[←C3,EA])
    rw[h27,hth] at JI
    cases JI
theorem ag3:aM Tryz.prog 98 c98:=
 aM.bZ (l:=[(142,Dt),(76,BR),(99,VK),(143,LG),(144,uY),(146,LD),(147,Ds),(148,uX),(149,LC),(74,BS),(150,LB),(151,Lz),(145,LF)]) (wraps:=[]) (clos:=[]) (mclos:=[145]) (A:=a98) aH
  ⟨W4,OM,aa9,adi,Mq,adg,W3,Mp,adf,S3,adb,ada,adh,trivial⟩ Tryz.func98 (by kernel_rfl) (by kernel_rfl) fun x _ hp=>b98 x.1 x.2.1 hp.1 hp.2
theorem ab1:aM Tryz.prog 98 Tz:=ag3.ptr fun x h=>by
 obtain⟨⟨n,h1,h2⟩,h3⟩:=h
 refine⟨n,h1,h2,?_⟩
 rw[h1] at h3
 exact h3
theorem zZ (p:ab):(np p).1=p:=by unfold np;rfl
theorem S9 {p:ab} (h:bV p=0):pj (np p):=⟨by rw[zZ],by rw[zZ];exact h⟩
theorem D8 {p:ab} (h:bV p=0):kp p=some (np p):=by
 unfold kp
 rw[h]
 rfl
theorem v44 (p:ab):ai (ah ay [(50,NA),(97,KJ),(98,Tz),(99,Tx)]) Tryz.f44 P2 (a44 (p,())) (p,())=(
U (cZ (bH (kp p)).1).2 fun(y1:Int)=>
U (cZ (bH (kp p)).1).1 fun(y2:List af)=>
U ((0:Int),(0:Int),(0:Int),[],[],[],[],[],false) fun(y3:af)=>
cS p∧
((bV p !=(0:Int))=true→(([],[],[],[],(0:Int),(0:Int),(0:Int),(0:Int),false),[])=(cx p).1∧bV p=(cx p).2∧True)∧
((bV p !=(0:Int))=false→
sY (kp p)∧
((y1 !=(0:Int))=true→(([],[],[],[],(0:Int),(0:Int),(0:Int),(0:Int),false),[])=(cx p).1∧y1=(cx p).2∧True)∧
((y1 !=(0:Int))=false→
(∃(wg:Nat),
wg≤(cZ p).1.length∧
(↑wg:Int)=(0:Int)∧
kp p=kp p∧
(↑y2.length:Int)=(↑y2.length:Int)∧
gm p wg=y2∧(0:Int)=(0:Int)∧(0:Int)=(0:Int)∧(0:Int)=(0:Int)∧(0:Int)=(0:Int)∧false=false∧True)∧
∀(s4:Nat),
U (decide ((↑s4:Int)<(↑y2.length:Int))) fun(y5:Bool)=>
U ((gm p s4).getD (↑s4:Int).toNat y3) fun(y6:af)=>
s4≤(cZ p).1.length→
(y5=true→
aQ (↑s4:Int) (gm p s4).length∧
(sY (kp p)∧o6 (bH (kp p)).1 y6)∧
aQ (↑s4:Int) (gm p s4).length∧
bq IntKind.i64 ((↑s4:Int)+(1:Int))∧
∃(nv:Nat),
nv≤(cZ p).1.length∧
(cZ p).1.length - nv<(cZ p).1.length - s4∧
(↑nv:Int)=(↑s4:Int)+(1:Int)∧
kp p=kp p∧
(↑y2.length:Int)=(↑y2.length:Int)∧
gm p nv=(gm p s4).set (↑s4:Int).toNat (dT (bH (kp p)).1 y6)∧
(0:Int)=(0:Int)∧(0:Int)=(0:Int)∧(0:Int)=(0:Int)∧(0:Int)=(0:Int)∧false=false∧True)∧
(y5=false→(iL (kp p)∧kG (bH (kp p)).1)∧((bH (kp p)).1,gm p s4)=(cx p).1∧(0:Int)=(cx p).2∧True)))):=by kernel_rfl
theorem b44 (p:ab) (hp:cS p):ai (ah ay [(50,NA),(97,KJ),(98,Tz),(99,Tx)]) Tryz.f44 P2 (a44 (p,())) (p,()):=by
 have hB:cx p=bif bV p==0 then(bif(cZ p).2==0 then((p,(cZ p).1.map (dT p)),0) else(zC,(cZ p).2)) else(zC,bV p):=by unfold cx;rfl
 have C2:=DF p
 rw[v44]
 refine U.mk fun y1 e1=>U.mk fun y2 e2=>U.mk fun y3 e3=>⟨hp,fun h=> ?_,fun h=> ?_⟩
 ·rw[iH] at h
  have h:(bV p==0)=false:=by simpa using h
  rw[hB,h]
  exact⟨rfl,rfl,trivial⟩
 rw[iH] at h
 have h:(bV p==0)=true:=by simpa using h
 have hc:bV p=0:=eq_of_beq h
 have nD:sY (kp p):=⟨np p,D8 hc,S9 hc⟩
 have hof:(bH (kp p)).1=p:=by rw[D8 hc];exact zZ p
 rw[hof] at e1 e2 ⊢
 obtain⟨h3,h4⟩:=xM hc
 obtain⟨_,h5,_,_⟩:=xg h3
 rw[h] at hB
 refine⟨nD,fun h2=> ?_,fun h2=> ?_⟩
 ·rw[iH,e1] at h2
  have h2:((cZ p).2==0)=false:=by simpa using h2
  rw[hB,h2,e1]
  exact⟨rfl,rfl,trivial⟩
 rw[iH,e1] at h2
 have h2:((cZ p).2==0)=true:=by simpa using h2
 rw[h2] at hB
 have q0:gm p 0=y2:=by rw[e2];unfold gm;simp
 refine⟨⟨0,by omega,rfl,?_⟩,fun k=>U.mk fun y5 e5=>U.mk fun y6 e6=>fun hk=> ?_⟩
 ·repeat' apply And.intro
  all_goals first|rfl|trivial|exact q0
 have HZ:(List.map (dT p) (List.take k (cZ p).1)).length=k:=by rw[List.length_map,List.length_take];omega
 have hfl:(gm p k).length=(cZ p).1.length:=by
  unfold gm
  rw[List.length_append,HZ,List.length_drop]
  omega
 refine⟨fun h=> ?_,fun h=> ?_⟩
 ·have h:=ba e5 h
  have dK:k<(cZ p).1.length:=by rw[e2] at h;exact h
  have hd:(cZ p).1.drop k=(cZ p).1.getD k zR::(cZ p).1.drop (k+1):=by
   rw[eA zR dK]
   exact List.drop_eq_getElem_cons dK
  have e6:y6=(cZ p).1.getD k zR:=by
   rw[e6]
   unfold gm
   rw[hd,Int.toNat_natCast,List.getD_eq_getElem?_getD,List.getElem?_append_right (by omega),HZ,Nat.sub_self]
   rfl
  have mT:=GK h4 y6 (by rw[e6];exact fw zR dK)
  have q1:gm p (k+1)=(gm p k).set (k:Int).toNat (dT p y6):=by
   unfold gm
   rw[hd,Int.toNat_natCast,List.set_append_right _ _ (by omega),HZ,Nat.sub_self,List.set_cons_zero,nW _ zR dK,List.append_assoc,e6]
   rfl
  refine⟨⟨by omega,by omega⟩,⟨nD,hc,⟨by have:=mT.2.1;omega,mT.1⟩,by have:=mT.2.2;omega⟩,⟨by omega,by omega⟩,bg (by omega) (by omega),k+1,by omega,by omega,by omega,?_⟩
  repeat' apply And.intro
  all_goals first|rfl|trivial|exact q1
 ·have hle:=br e5 h
  have XU:k=(cZ p).1.length:=by rw[e2] at hle;omega
  have RN:=Hx (S9 hc)
  rw[zZ] at RN
  refine⟨⟨⟨_,D8 hc⟩,RN⟩,?_⟩
  rw[hB]
  unfold gm
  rw[XU,List.take_length,List.drop_length,List.append_nil]
  exact⟨rfl,rfl,trivial⟩
theorem abc:aM Tryz.prog 44 P2:=
 aM.bZ (l:=[(50,NA),(97,KJ),(98,Tz),(99,Tx)]) (A:=a44) aH ⟨abb,ab2,ab1,ab0,trivial⟩ Tryz.func44 (by kernel_rfl) (by kernel_rfl) fun x _ hp=>b44 x.1 hp
def TN:bh where
 args:=[.list B5,.list B5]
 out:= .data [.bool]
 pre:=fun(x:List mq×List mq×Unit)=>True
 fn:=fun(x:List mq×List mq×Unit)=>(x.1==x.2.1,())
def a162 (x:List mq×List mq×Unit):eC:=bj [(4,fun _=>dE x.1.length (n6 x.1 x.2.1) 13 [0,1,12] [])]
def TM:bh where
 args:=[.list B4,.list B4]
 out:= .data [.bool]
 pre:=fun(x:List nf×List nf×Unit)=>True
 fn:=fun(x:List nf×List nf×Unit)=>(x.1==x.2.1,())
def abI (x:List nf×List nf×Unit):eC:=bj [(4,fun _=>dE x.1.length (n6 x.1 x.2.1) 13 [0,1,12] [])]
def TL:bh where
 args:=[.list wW,.list wW]
 out:= .data [.bool]
 pre:=fun(x:List gw×List gw×Unit)=>True
 fn:=fun(x:List gw×List gw×Unit)=>(x.1==x.2.1,())
def a164 (x:List gw×List gw×Unit):eC:=bj [(4,fun _=>dE x.1.length (n6 x.1 x.2.1) 13 [0,1,12] [])]
def Lq:bh where
 args:=[.list I,.list I]
 out:= .data [.bool]
 pre:=fun(x:List Int×List Int×Unit)=>True
 fn:=fun(x:List Int×List Int×Unit)=>(x.1==x.2.1,())
def a167 (x:List Int×List Int×Unit):eC:=bj [(4,fun _=>dE x.1.length (n6 x.1 x.2.1) 13 [0,1,12] [])]
def TJ:bh where
 args:=[.list kz,.list kz]
 out:= .data [.bool]
 pre:=fun(x:List cv×List cv×Unit)=>True
 fn:=fun(x:List cv×List cv×Unit)=>(x.1==x.2.1,())
def a168 (x:List cv×List cv×Unit):eC:=bj [(4,fun _=>dE x.1.length (n6 x.1 x.2.1) 13 [0,1,12] [])]
def TH:bh where
 args:=[.list ek,.list ek]
 out:= .data [.bool]
 pre:=fun(x:List aY×List aY×Unit)=>True
 fn:=fun(x:List aY×List aY×Unit)=>(x.1==x.2.1,())
def abH (x:List aY×List aY×Unit):eC:=bj [(4,fun _=>dE x.1.length (n6 x.1 x.2.1) 13 [0,1,12] [])]
def TK:bh where
 args:=[xP,xP]
 out:= .data [.bool]
 pre:=fun(x:ll×ll×Unit)=>True
 fn:=fun(x:ll×ll×Unit)=>(x.1==x.2.1,())
abbrev aa5:Ty:= .lD 166 .unit
abbrev aa6:Ty:= .lD 107 .unit
def Af:bh where
 args:=[.list xP,.list xP,aa5]
 out:= .data [.bool]
 pre:=fun(x:List ll×List ll×Unit×Unit)=>True
 fn:=fun(x:List ll×List ll×Unit×Unit)=>(x.1==x.2.1,())
def LX (x:List ll×List ll×Unit×Unit):eC:=bj [(4,fun _=>dE x.1.length (n6 x.1 x.2.1) 17 [0,1,2,15,16] [])]
def TQ:bh where
 args:=[PlanT,PlanT]
 out:= .data [.bool]
 pre:=fun(x:ab×ab×Unit)=>True
 fn:=fun(x:ab×ab×Unit)=>(x.1==x.2.1,())
def TP:bh where
 args:=[eP,eP]
 out:= .data [.bool]
 pre:=fun(x:af×af×Unit)=>True
 fn:=fun(x:af×af×Unit)=>(x.1==x.2.1,())
def Ag:bh where
 args:=[.list eP,.list eP,aa6]
 out:= .data [.bool]
 pre:=fun(x:List af×List af×Unit×Unit)=>True
 fn:=fun(x:List af×List af×Unit×Unit)=>(x.1==x.2.1,())
def LY (x:List af×List af×Unit×Unit):eC:=bj [(4,fun _=>dE x.1.length (n6 x.1 x.2.1) 17 [0,1,2,15,16] [])]
def Yv:bh where
 args:=[mH,mH]
 out:= .data [.bool]
 pre:=fun(x:bP×bP×Unit)=>True
 fn:=fun(x:bP×bP×Unit)=>(x.1==x.2.1,())
abbrev Zt:Ty:= .pair mH (.pair (.list ml) (.pair (.ptr rb) (.pair (.ptr DH) (.list I))))
abbrev F3:=bP×List cM×Option av×Option eG×List Int
abbrev F1:eQ:= .cells true (.pair (.aC mH) (.pair (.row 73 ml) (.pair v7 (.pair NQ (.row 3 I)))))
abbrev gh:=bP×List cM×av×eG×List Int
def YG (p:ab):av:=(max 0 (min (p.1.length:Int) 40),[],[],[],[])
def LQ (c:bP):gh:=(c,List.replicate c.2.length gR,YG c.1,(some (np c.1),[]),List.replicate c.1.2.2.1.length 0)
def aeL (b:gh):F3:=(b.1,b.2.1,some b.2.2.1,some b.2.2.2.1,b.2.2.2.2)
@[irreducible] def xG (c:bP):Int:=bif !((cx c.1).2==0) then(cx c.1).2 else bif c==(cx c.1).1 then 0 else 1
@[irreducible] def aeC (c:bP):Option F3:=bif xG c==0 then some (aeL (LQ c)) else none
def VZ:bh where
 args:=[mH]
 out:= .data [.ptr Zt,I]
 pre:=fun(x:bP×Unit)=>cS x.1.1
 fn:=fun(x:bP×Unit)=>(aeC x.1,xG x.1,())
def P8:fq where
 args:=[.aC mH]
 outs:=[F1,.aC I]
 pre:=fun(x:bP×Unit)=>cS x.1.1∧xG x.1=0
 fn:=fun(x:bP×Unit)=>(LQ x.1,0,())
def De {α:Type} (a b:List α) (same:Bool) (ne:Nat→Bool) (R:Prop) (W:Prop→Prop):Prop:=
 (((a.length:Int) !=(b.length:Int))=true→false=same∧True)∧
 (((a.length:Int) !=(b.length:Int))=false→
  (∃s0:Nat,(s0≤a.length∧n6 a b s0)∧(s0:Int)=(0:Int)∧R)∧
  ∀s:Nat,s≤a.length∧n6 a b s→
   (decide ((s:Int)<(a.length:Int))=true→aQ (s:Int) a.length∧aQ (s:Int) b.length∧W ((ne s=true→false=same∧True)∧
    (ne s=false→bq IntKind.i64 ((s:Int)+(1:Int))∧∃t:Nat,(t≤a.length∧n6 a b t)∧a.length - t<a.length - s∧(t:Int)=(s:Int)+(1:Int)∧R)))∧
   (decide ((s:Int)<(a.length:Int))=false→true=same∧True))
theorem sA {α:Type} [BEq α] [LawfulBEq α] {a b:List α} {ne:Nat→Bool} {R:Prop} {W:Prop→Prop} (d:α) (hw:a.length≤aK) (hR:R) (hW:∀X,X→W X) (h:∀s,ne s= !(a.getD s d==b.getD s d)):De a b (a==b) ne R W:=by
 refine⟨fun h=>⟨Mx rfl h,trivial⟩,fun hl=> ?_⟩
 have hl:=Eu rfl hl
 refine⟨⟨0,⟨by omega,hl,rfl⟩,rfl,hR⟩,fun s=> ?_⟩
 rintro⟨h1,h2,h3⟩
 refine⟨fun hs=> ?_,fun hs=>⟨Bf hl h3 (br rfl hs),trivial⟩⟩
 have hs:=ba rfl hs
 refine⟨⟨by omega,by omega⟩,⟨by omega,by omega⟩,hW _ ⟨fun e=>⟨?_,trivial⟩,fun e=>⟨dr hs hw,s+1,⟨by omega,hl,?_⟩,by omega,by omega,hR⟩⟩⟩
 ·exact D1 (s:=s) d (by rw[h] at e;simpa using e)
 ·exact Be d hl h3 hs (by rw[h] at e;simpa using e)
theorem I6 {α β:Type} [BEq α] [BEq β] (x y:α×β):(x==y)=(x.1==y.1&&x.2==y.2):=rfl
theorem v162 (a b:List mq):ai (ah ay []) Tryz.f162 TN (a162 (a,b,())) (a,b,())=
 De a b (a==b) (fun s=> !((a.getD (s:Int).toNat zE).1==(b.getD (s:Int).toNat zE).1&&((a.getD (s:Int).toNat zE).2.1==(b.getD (s:Int).toNat zE).2.1&&((a.getD (s:Int).toNat zE).2.2==(b.getD (s:Int).toNat zE).2.2&&true))))
  (a=a∧b=b∧(a.length:Int)=(a.length:Int)∧True) fun X=>X:=by kernel_rfl
theorem acZ:aM Tryz.prog 162 TN:=
 aM.bZ (l:=[]) (A:=a162) aH trivial Tryz.func162 (by kernel_rfl) (by kernel_rfl) fun x hw _=>by
  obtain⟨a,b,⟨⟩⟩:=x
  rw[v162]
  exact sA zE hw.1.1 ⟨rfl,rfl,rfl,trivial⟩ (fun _ h=>h) fun s=>by simp only[I6,Bool.and_true,Int.toNat_natCast]
theorem agt (a b:List nf):ai (ah ay []) Tryz.f163 TM (abI (a,b,())) (a,b,())=
 De a b (a==b) (fun s=> !((a.getD (s:Int).toNat zJ).1.1==(b.getD (s:Int).toNat zJ).1.1&&((a.getD (s:Int).toNat zJ).1.2==(b.getD (s:Int).toNat zJ).1.2&&true)&&((a.getD (s:Int).toNat zJ).2.1==(b.getD (s:Int).toNat zJ).2.1&&((a.getD (s:Int).toNat zJ).2.2==(b.getD (s:Int).toNat zJ).2.2&&true)&&true)))
  (a=a∧b=b∧(a.length:Int)=(a.length:Int)∧True) fun X=>X:=by kernel_rfl
theorem acY:aM Tryz.prog 163 TM:=
 aM.bZ (l:=[]) (A:=abI) aH trivial Tryz.func163 (by kernel_rfl) (by kernel_rfl) fun x hw _=>by
  obtain⟨a,b,⟨⟩⟩:=x
  rw[agt]
  exact sA zJ hw.1.1 ⟨rfl,rfl,rfl,trivial⟩ (fun _ h=>h) fun s=>by simp only[I6,Bool.and_true,Int.toNat_natCast]
theorem v164 (a b:List gw):ai (ah ay []) Tryz.f164 TL (a164 (a,b,())) (a,b,())=
 De a b (a==b) (fun s=> !((a.getD (s:Int).toNat zS).1==(b.getD (s:Int).toNat zS).1&&((a.getD (s:Int).toNat zS).2.1.1==(b.getD (s:Int).toNat zS).2.1.1&&((a.getD (s:Int).toNat zS).2.1.2==(b.getD (s:Int).toNat zS).2.1.2&&true)&&((a.getD (s:Int).toNat zS).2.2==(b.getD (s:Int).toNat zS).2.2&&true))))
  (a=a∧b=b∧(a.length:Int)=(a.length:Int)∧True) fun X=>X:=by kernel_rfl
theorem acX:aM Tryz.prog 164 TL:=
 aM.bZ (l:=[]) (A:=a164) aH trivial Tryz.func164 (by kernel_rfl) (by kernel_rfl) fun x hw _=>by
  obtain⟨a,b,⟨⟩⟩:=x
  rw[v164]
  exact sA zS hw.1.1 ⟨rfl,rfl,rfl,trivial⟩ (fun _ h=>h) fun s=>by simp only[I6,Bool.and_true,Int.toNat_natCast]
theorem v167 (a b:List Int):ai (ah ay []) Tryz.f167 Lq (a167 (a,b,())) (a,b,())=
 De a b (a==b) (fun s=>a.getD (s:Int).toNat 0 !=b.getD (s:Int).toNat 0) (a=a∧b=b∧(a.length:Int)=(a.length:Int)∧True) fun X=>X:=by kernel_rfl
theorem W2:aM Tryz.prog 167 Lq:=
 aM.bZ (l:=[]) (A:=a167) aH trivial Tryz.func167 (by kernel_rfl) (by kernel_rfl) fun x hw _=>by
  obtain⟨a,b,⟨⟩⟩:=x
  rw[v167]
  exact sA 0 hw.1.1 ⟨rfl,rfl,rfl,trivial⟩ (fun _ h=>h) fun s=>by simp only[Int.toNat_natCast,iH]
theorem v168 (a b:List cv):ai (ah ay []) Tryz.f168 TJ (a168 (a,b,())) (a,b,())=
 De a b (a==b) (fun s=> !((a.getD (s:Int).toNat iq).1==(b.getD (s:Int).toNat iq).1&&((a.getD (s:Int).toNat iq).2.1==(b.getD (s:Int).toNat iq).2.1&&((a.getD (s:Int).toNat iq).2.2==(b.getD (s:Int).toNat iq).2.2&&true))))
  (a=a∧b=b∧(a.length:Int)=(a.length:Int)∧True) fun X=>X:=by kernel_rfl
theorem acV:aM Tryz.prog 168 TJ:=
 aM.bZ (l:=[]) (A:=a168) aH trivial Tryz.func168 (by kernel_rfl) (by kernel_rfl) fun x hw _=>by
  obtain⟨a,b,⟨⟩⟩:=x
  rw[v168]
  exact sA iq hw.1.1 ⟨rfl,rfl,rfl,trivial⟩ (fun _ h=>h) fun s=>by simp only[I6,Bool.and_true,Int.toNat_natCast]
theorem agr (a b:List aY):ai (ah ay []) Tryz.f169 TH (abH (a,b,())) (a,b,())=
 De a b (a==b) (fun s=> !((a.getD (s:Int).toNat (0,0)).1==(b.getD (s:Int).toNat (0,0)).1&&((a.getD (s:Int).toNat (0,0)).2==(b.getD (s:Int).toNat (0,0)).2&&true)))
  (a=a∧b=b∧(a.length:Int)=(a.length:Int)∧True) fun X=>X:=by kernel_rfl
theorem acU:aM Tryz.prog 169 TH:=
 aM.bZ (l:=[]) (A:=abH) aH trivial Tryz.func169 (by kernel_rfl) (by kernel_rfl) fun x hw _=>by
  obtain⟨a,b,⟨⟩⟩:=x
  rw[agr]
  exact sA (0,0) hw.1.1 ⟨rfl,rfl,rfl,trivial⟩ (fun _ h=>h) fun s=>by simp only[I6,Bool.and_true,Int.toNat_natCast]
theorem ags (a b:ll):ai (ah ay [(167,Lq)]) Tryz.f166 TK aq (a,b,())=(
 ((a.1==b.1)=true→True)∧(bif a.1==b.1 then a.2==b.2 else false)=(a==b)∧True):=by kernel_rfl
theorem acW:aM Tryz.prog 166 TK:=
 aM.bZ (l:=[(167,Lq)]) (A:=fun _=>aq) aH ⟨W2,trivial⟩ Tryz.func166 (by kernel_rfl) (by kernel_rfl) fun x hw _=>by
  obtain⟨a,b,⟨⟩⟩:=x
  rw[ags,Bool.cond_false_right]
  exact⟨fun _=>trivial,rfl,trivial⟩
theorem Uj (a b:List ll) (f:Unit):ai (ah ay [(166,TK)]) Tryz.f165 Af (LX (a,b,f,())) (a,b,f,())=
 De a b (a==b) (fun s=> !(a.getD (s:Int).toNat zL==b.getD (s:Int).toNat zL)) (a=a∧b=b∧f=f∧a=a∧(a.length:Int)=(a.length:Int)∧True) fun X=>True∧X:=by kernel_rfl
theorem Ri:aM Tryz.prog 165 Af:=
 aM.bZ (l:=[(166,TK)]) (A:=LX) aH ⟨acW,trivial⟩ Tryz.func165 (by kernel_rfl) (by kernel_rfl) fun x hw _=>by
  obtain⟨a,b,f,⟨⟩⟩:=x
  rw[Uj]
  exact sA zL hw.1.1 ⟨rfl,rfl,rfl,rfl,rfl,trivial⟩ (fun _ h=>⟨trivial,h⟩) fun s=>by rw[Int.toNat_natCast]
theorem v105 (a b:ab):ai (ah ay [(162,TN),(163,TM),(164,TL),(1670165,Af)] [] [(166,.unit)]) Tryz.f105 TQ aq (a,b,())=(
U (bif a.1==b.1 then a.2.1==b.2.1 else false) fun y2=>
U (bif y2 then a.2.2.1==b.2.2.1 else false) fun y3=>
True∧((a.1==b.1)=true→True)∧(y2=true→True)∧(y3=true→True)∧
(bif bif bif bif bif bif y3 then a.2.2.2.1==b.2.2.2.1 else false then a.2.2.2.2.1==b.2.2.2.2.1 else false then a.2.2.2.2.2.1==b.2.2.2.2.2.1 else false then a.2.2.2.2.2.2.1==b.2.2.2.2.2.2.1 else false then a.2.2.2.2.2.2.2.1==b.2.2.2.2.2.2.2.1 else false then
 a.2.2.2.2.2.2.2.2==b.2.2.2.2.2.2.2.2 else false)=(a==b)∧True):=by kernel_rfl
theorem adx:aM Tryz.prog 105 TQ:=
 aM.bZ (l:=[(162,TN),(163,TM),(164,TL),(1670165,Af)]) (clos:=[(166,.unit)]) (A:=fun _=>aq) aH ⟨acZ,acY,acX,Ri,trivial⟩ Tryz.func105 (by kernel_rfl) (by kernel_rfl) fun x hw _=>by
  obtain⟨a,b,⟨⟩⟩:=x
  rw[v105]
  refine U.mk fun y2 e2=>U.mk fun y3 e3=>⟨trivial,fun _=>trivial,fun _=>trivial,fun _=>trivial,?_,trivial⟩
  subst e3 e2
  simp only[I6,Bool.cond_false_right,Bool.and_assoc]
theorem v107 (a b:af):ai (ah ay [(168,TJ),(169,TH),(167,Lq)]) Tryz.f107 TP aq (a,b,())=(
U (bif bif a.1==b.1 then a.2.1==b.2.1 else false then a.2.2.1==b.2.2.1 else false) fun y2=>
U (bif y2 then a.2.2.2.1==b.2.2.2.1 else false) fun y3=>
U (bif y3 then a.2.2.2.2.1==b.2.2.2.2.1 else false) fun y4=>
U (bif y4 then a.2.2.2.2.2.1==b.2.2.2.2.2.1 else false) fun y5=>
U (bif y5 then a.2.2.2.2.2.2.1==b.2.2.2.2.2.2.1 else false) fun y6=>
(y2=true→True)∧(y3=true→True)∧(y4=true→True)∧(y5=true→True)∧(y6=true→True)∧
(bif bif y6 then a.2.2.2.2.2.2.2.1==b.2.2.2.2.2.2.2.1 else false then a.2.2.2.2.2.2.2.2==b.2.2.2.2.2.2.2.2 else false)=(a==b)∧True):=by kernel_rfl
theorem adw:aM Tryz.prog 107 TP:=
 aM.bZ (l:=[(168,TJ),(169,TH),(167,Lq)]) (A:=fun _=>aq) aH ⟨acV,acU,W2,trivial⟩ Tryz.func107 (by kernel_rfl) (by kernel_rfl) fun x hw _=>by
  obtain⟨a,b,⟨⟩⟩:=x
  rw[v107]
  refine U.mk fun y2 e2=>U.mk fun y3 e3=>U.mk fun y4 e4=>U.mk fun y5 e5=>U.mk fun y6 e6=>⟨fun _=>trivial,fun _=>trivial,fun _=>trivial,fun _=>trivial,fun _=>trivial,?_,trivial⟩
  subst e6 e5 e4 e3 e2
  simp only[I6,Bool.cond_false_right,Bool.and_assoc]
theorem Uk (a b:List af) (f:Unit):ai (ah ay [(107,TP)]) Tryz.f106 Ag (LY (a,b,f,())) (a,b,f,())=
 De a b (a==b) (fun s=> !(a.getD (s:Int).toNat zR==b.getD (s:Int).toNat zR)) (a=a∧b=b∧f=f∧a=a∧(a.length:Int)=(a.length:Int)∧True) fun X=>True∧X:=by kernel_rfl
theorem Rj:aM Tryz.prog 106 Ag:=
 aM.bZ (l:=[(107,TP)]) (A:=LY) aH ⟨adw,trivial⟩ Tryz.func106 (by kernel_rfl) (by kernel_rfl) fun x hw _=>by
  obtain⟨a,b,f,⟨⟩⟩:=x
  rw[Uk]
  exact sA zR hw.1.1 ⟨rfl,rfl,rfl,rfl,rfl,trivial⟩ (fun _ h=>⟨trivial,h⟩) fun s=>by rw[Int.toNat_natCast]
theorem v49 (a b:bP):ai (ah ay [(105,TQ),(1080106,Ag)] [] [(107,.unit)]) Tryz.f49 Yv aq (a,b,())=(
 True∧((a.1==b.1)=true→True)∧(bif a.1==b.1 then a.2==b.2 else false)=(a==b)∧True):=by kernel_rfl
theorem ahn:aM Tryz.prog 49 Yv:=
 aM.bZ (l:=[(105,TQ),(1080106,Ag)]) (clos:=[(107,.unit)]) (A:=fun _=>aq) aH ⟨adx,Rj,trivial⟩ Tryz.func49 (by kernel_rfl) (by kernel_rfl) fun x hw _=>by
  obtain⟨a,b,⟨⟩⟩:=x
  rw[v49,Bool.cond_false_right]
  exact⟨trivial,fun _=>trivial,rfl,trivial⟩
def VN:bh:=c88
def Ak (b:av) (o:Int):av:=(b.1,iQ I b.2.1 o,iQ I b.2.2.1 o,iQ I b.2.2.2.1 o,iQ I b.2.2.2.2 o)
def Sn:fq where
 args:=[v7,.aC I]
 outs:=[]
 pre:=fun(x:av×Int×Unit)=>True
 fn:=fun _=>()
 fO:=fun(x:av×Int×Unit)=>(Ak x.1 x.2.1,x.2)
def xy (v y:Int):Bool:=v==y
def rB (e:Int) (x:aY):Bool:= !(x.1==e)
def ib (b:av) (o e:Int):Int:=fj (xy e) (j9 b.2.1 o)
def om (b:av) (o e:Int):av:=(b.1,dc I b.2.1 o ((j9 b.2.1 o).eraseIdx (ib b o e).toNat),b.2.2.1,dc I b.2.2.2.1 o ((j9 b.2.2.2.1 o).filter (rB e)),b.2.2.2.2)
@[irreducible] def nF (b:av) (o e:Int):av:=bif decide (ib b o e<0) then b else bif gE (om b o e) o then om b o e else Ak (om b o e) o
@[irreducible] def qo (b:av) (o e:Int):Bool:= !decide (ib b o e<0)
def tT (b:av):Prop:=ga b∧b.2.1.length≤900∧b.2.2.2.1.length≤900
def NJ:bh where
 args:=[.list I,I]
 out:= .data [I]
 pre:=fun(x:List Int×Int×Unit)=>True
 fn:=fun(x:List Int×Int×Unit)=>(fj (xy x.2.1) x.1,())
def VR:fq where
 args:=[v7,.aC I,.aC I]
 outs:=[.aC .bool]
 pre:=fun(x:av×Int×Int×Unit)=>tT x.1
 fn:=fun(x:av×Int×Int×Unit)=>(qo x.1 x.2.1 x.2.2.1,())
 fO:=fun(x:av×Int×Int×Unit)=>(nF x.1 x.2.1 x.2.2.1,x.2)
def iD (e:Int) (l:List aY) (k:Nat):List aY:=(l.take k).filter (rB e)
def a68 (x:av×Int×Int×Unit):eC:=bj [(7,fun _=>mN (j9 x.1.2.2.2.1 x.2.1).length 44 8 1000 90 ek (iD x.2.2.1 (j9 x.1.2.2.2.1 x.2.1)) [0,1,2,42,43] [1000000,1000001,1000002,1000003,1000004])] [51]
@[irreducible] def lr (b:av) (o:Int):av:=bif gE b o then Ak b o else b
def Yy:fq where
 args:=[v7,.aC I]
 outs:=[.aC .bool]
 pre:=fun(x:av×Int×Unit)=>ga x.1
 fn:=fun(x:av×Int×Unit)=>(gE x.1 x.2.1,())
 fO:=fun(x:av×Int×Unit)=>(lr x.1 x.2.1,x.2)
def k8 (b:av) (l:List (Int×List Int)):List Int:=(l.filter fun x=>gE b x.1).map fun x=>x.1
@[irreducible] def Iu (b:av):List Int:=mJ (k8 b b.2.1) (k8 b b.2.1).length
def EA:bh where
 args:=[.ref rb]
 out:= .row 3 I
 pre:=fun(x:av×Unit)=>ga x.1
 fn:=fun(x:av×Unit)=>(Iu x.1,())
def a20 (x:av×Unit):eC:=bj [(3,fun _=>{
 σ:=List (Int×List Int)×List (Int×List Int)
 ok:=fun s=>jD x.1.2.1 s
 mu:=fun s=>s.1.length
 sl:=fun s=>[(9,.one (.ptr 9 0)),(3,.one (.row I 1000))]
 bl:=fun s=>[(9,.iter I (.list I) s.1 none),(1000,.row false 3 I (k8 x.1 s.2))]
 keep:=[0]
 cy:=[]})] [16]
def c60:fq where
 args:=[v7]
 outs:=[v7]
 pre:=fun(x:av×Unit)=>True
 fn:=fun(x:av×Unit)=>x
theorem v72 (n:Int):ai (ah ay []) Tryz.f72 VN aq (n,())=(
U (bif decide (n<(1:Int)) then true else decide (n>(12:Int))) fun(y1:Bool)=>
(y1=true→((0:Int),(0:Int),false,[])=o8 n∧True)∧
(y1=false→((0:Int)≤n∧n≤n)∧(roomFor n.toNat (1:Nat)∧n≤(↑aK:Int))∧((1:Int),(0:Int),false,List.replicate n.toNat false)=o8 n∧True)):=by kernel_rfl
theorem ag7:aM Tryz.prog 72 VN:=
 aM.bZ (l:=[]) (A:=fun _=>aq) aH trivial Tryz.func72 (by kernel_rfl) (by kernel_rfl) fun x hw _=>by
  obtain⟨(n:Int),⟨⟩⟩:=x
  show ai _ _ VN aq (n,())
  rw[v72]
  refine U.mk fun y1 e1=>⟨fun h=> ?_,fun h=> ?_⟩
  ·have h2:(decide (n<1)||decide (n>12))=true:=by rw[←h,e1];cases decide (n<1)<;>rfl
   unfold o8
   rw[h2]
   exact⟨rfl,trivial⟩
  ·have h2:(decide (n<1)||decide (n>12))=false:=by rw[←h,e1];cases decide (n<1)<;>rfl
   have h3:=Bool.or_eq_false_iff.1 h2
   have h4:=of_decide_eq_false h3.1
   have h5:=of_decide_eq_false h3.2
   have:(aK:Int)=9223372036854775807:=rfl
   refine⟨⟨by omega,by omega⟩,⟨c6 (by omega) (by decide),by omega⟩,?_,trivial⟩
   unfold o8
   rw[h2]
   rfl
theorem ZX:aM Tryz.prog 117 NJ:=W7
theorem v96 (b:av) (o:Int):bN (ah ay []) Tryz.f96 Sn aq (b,o,())=(
b.1=b.1∧
(iQ I b.2.1 o).Perm (iQ I b.2.1 o)∧
(iQ I b.2.2.1 o).Perm (iQ I b.2.2.1 o)∧
(iQ I b.2.2.2.1 o).Perm (iQ I b.2.2.2.1 o)∧(iQ I b.2.2.2.2 o).Perm (iQ I b.2.2.2.2 o)∧True):=by kernel_rfl
theorem aba:ew Tryz.prog 96 Sn:=
 ew.bZ (l:=[]) (A:=fun _=>aq) aH trivial Tryz.func96 (by kernel_rfl) (by kernel_rfl) fun x hw _=>by
  obtain⟨b,o,⟨⟩⟩:=x
  rw[v96]
  exact⟨rfl,.refl _,.refl _,.refl _,.refl _,trivial⟩
theorem Eb {β:Type} {k:Int} {v:β}:∀{m:List (Int×β)} {x:Int×β},x∈dc I m k v→x=(k,v)∨x∈m
 |[],x,h=> .inl (List.mem_singleton.1 h)
 |y::m,x,h=>by
  unfold dc at h
  cases hb:Ty.iW I k y.1 with
  |true=>
   rw[hb] at h
   rcases List.mem_cons.1 h with h|h
   ·exact .inl h
   ·exact .inr (List.mem_cons_of_mem _ h)
  |false=>
   rw[hb] at h
   rcases List.mem_cons.1 h with h|h
   ·exact .inr (h▸List.mem_cons_self)
   ·rcases Eb h with h|h
    ·exact .inl h
    ·exact .inr (List.mem_cons_of_mem _ h)
theorem Ea {β:Type} {k:Int} {v:β}:∀(m:List (Int×β)),(dc I m k v).length≤m.length+1
 |[]=>Nat.le_refl _
 |y::m=>by
  unfold dc
  cases Ty.iW I k y.1 with
  |true=>exact Nat.le_succ _
  |false=>
   have:=Ea (k:=k) (v:=v) m
   show(dc I m k v).length+1≤m.length+1+1
   omega
theorem Nn {b:av} (h:tT b) (o e:Int):ga (om b o e):=by
 obtain⟨hb,h1,h2⟩:=h
 refine⟨fun x hx=> ?_,hb.nk,fun x hx=> ?_,hb.guards,?_,hb.rU.2.1,?_⟩
 ·rcases Eb hx with rfl|hx
  ·have:=qP hb.steps o
   have h3:=List.length_eraseIdx_le (j9 b.2.1 o) (ib b o e).toNat
   show((j9 b.2.1 o).eraseIdx (ib b o e).toNat).length≤1000
   omega
  ·exact hb.steps x hx
 ·rcases Eb hx with rfl|hx
  ·have:=qP hb.uv o
   have h3:=List.length_filter_le (rB e) (j9 b.2.2.2.1 o)
   show((j9 b.2.2.2.1 o).filter (rB e)).length≤1000
   omega
  ·exact hb.uv x hx
 ·have:=Ea (k:=o) (v:=(j9 b.2.1 o).eraseIdx (ib b o e).toNat) b.2.1
  show(dc I b.2.1 o _).length≤1000
  omega
 ·have:=Ea (k:=o) (v:=(j9 b.2.2.2.1 o).filter (rB e)) b.2.2.2.1
  show(dc I b.2.2.2.1 o _).length≤1000
  omega
theorem Ry (e:Int) (l:List aY) {k:Nat} (hk:k<l.length):iD e l (k+1)=iD e l k++(bif rB e (l.getD k (0,0)) then[l.getD k (0,0)] else[]):=by
 unfold iD
 rw[eM (0,0) hk,List.filter_append]
 generalize l.getD k (0,0)=z
 cases h:rB e z<;>simp[h]
theorem Im {b:av} {o e:Int} (h:decide (ib b o e<0)=true):nF b o e=b∧qo b o e=false:=by
 unfold nF qo
 rw[h]
 exact⟨rfl,rfl⟩
theorem Ky {b:av} {o e:Int} (h:decide (ib b o e<0)=false):nF b o e=(bif gE (om b o e) o then om b o e else Ak (om b o e) o)∧qo b o e=true:=by
 unfold nF qo
 rw[h]
 exact⟨rfl,rfl⟩
theorem Vx {α:Type} (p:α→Bool) (xs:List α) (h0:0≤fj p xs):fj p xs<(xs.length:Int):=by
 unfold fj at h0 ⊢
 cases h:xs.any p with
 |true=>
  obtain⟨x,hx,hp⟩:=List.any_eq_true.1 h
  have:=List.findIdx_lt_length_of_exists ⟨x,hx,hp⟩
  rw[if_pos rfl]
  omega
 |false=>
  rw[h] at h0
  simp at h0
theorem v68 (b:av) (o:Int) (e:Int):bN (ah ay [(117,NJ),(59,IL),(118,TO),(28,BT),(96,Sn)]) Tryz.f68 VR (a68 (b,o,e,())) (b,o,e,())=(
U ((aT I b.2.1 o).getD []) fun(y3:List Int)=>
U (decide (fj (xy e) y3<(0:Int))) fun(y4:Bool)=>
U (nF b o e).2.1 fun(y5:List (Int×List Int))=>
U (nF b o e).2.2 fun(y6:List (Int×List Int)×List (Int×List (Int×Int))×List (Int×List (Int×Int)))=>
U (fj (xy e) y3+(1:Int)) fun(y7:Int)=>
U (j9 b.2.2.2.1 o) fun(y8:List aY)=>
U ((aT I b.2.2.2.1 o).getD []) fun(y9:List (Int×Int))=>
U (dc I b.2.1 o (y3.eraseIdx (fj (xy e) y3).toNat)) fun(bp:List (Int×List Int))=>
True∧
(y4=true→
false=qo b o e∧
b.1=(nF b o e).1∧b.2.1.Perm y5∧b.2.2.1.Perm y6.1∧b.2.2.2.1.Perm y6.2.1∧b.2.2.2.2.Perm y6.2.2∧True)∧
(y4=false→
cQ y3∧
bq IntKind.i64 y7∧
((0:Int)≤fj (xy e) y3∧y7=y7∧y7≤(↑y3.length:Int))∧
(∃(sf:Nat),
sf≤y8.length∧
(↑sf:Int)=(0:Int)∧
o=o∧
e=e∧
y9=y9∧
(↑y9.length:Int)=(↑y9.length:Int)∧
iD e y8 sf=[]∧
b.1=b.1∧bp=bp∧b.2.2.1=b.2.2.1∧b.2.2.2.1=b.2.2.2.1∧b.2.2.2.2=b.2.2.2.2∧True)∧
∀(kd:Nat),
U (decide ((↑kd:Int)<(↑y9.length:Int))) fun(aw:Bool)=>
U (y9.getD (↑kd:Int).toNat ((0:Int),(0:Int))) fun(cb:Int×Int)=>
U ((List.replicate (1:Nat) ((0:Int),(0:Int))).set (0:Nat) cb) fun(cW:List (Int×Int))=>
U (dc I b.2.2.2.1 o (iD e y8 kd)) fun(bz:List (Int×List (Int×Int)))=>
U (b.1,bp,b.2.2.1,bz,b.2.2.2.2)
fun(cT:av)=>
kd≤y8.length→
(aw=true→
aQ (↑kd:Int) y9.length∧
((cb.1 !=e)=true→
roomFor ((iD e y8 kd).length+cW.length) (16:Nat)∧
bq IntKind.i64 ((↑kd:Int)+(1:Int))∧
∃(vi:Nat),
vi≤y8.length∧
y8.length - vi<y8.length - kd∧
(↑vi:Int)=(↑kd:Int)+(1:Int)∧
o=o∧
e=e∧
y9=y9∧
(↑y9.length:Int)=(↑y9.length:Int)∧
iD e y8 vi=iD e y8 kd++cW∧
b.1=b.1∧
bp=bp∧
b.2.2.1=b.2.2.1∧b.2.2.2.1=b.2.2.2.1∧b.2.2.2.2=b.2.2.2.2∧True)∧
((cb.1 !=e)=false→
bq IntKind.i64 ((↑kd:Int)+(1:Int))∧
∃(vi:Nat),
vi≤y8.length∧
y8.length - vi<y8.length - kd∧
(↑vi:Int)=(↑kd:Int)+(1:Int)∧
o=o∧
e=e∧
y9=y9∧
(↑y9.length:Int)=(↑y9.length:Int)∧
iD e y8 vi=iD e y8 kd∧
b.1=b.1∧
bp=bp∧
b.2.2.1=b.2.2.1∧b.2.2.2.1=b.2.2.2.1∧b.2.2.2.2=b.2.2.2.2∧True))∧
(aw=false→
ga cT∧
((!gE cT o)=true→
True∧
true=qo b o e∧
b.1=(nF b o e).1∧
(iQ I bp o).Perm y5∧
(iQ I b.2.2.1 o).Perm y6.1∧(iQ I bz o).Perm y6.2.1∧(iQ I b.2.2.2.2 o).Perm y6.2.2∧True)∧
((!gE cT o)=false→
true=qo b o e∧
b.1=(nF b o e).1∧bp.Perm y5∧b.2.2.1.Perm y6.1∧bz.Perm y6.2.1∧b.2.2.2.2.Perm y6.2.2∧True)))):=by kernel_rfl
theorem b68 (b:av) (o e:Int) (h:tT b):bN (ah ay [(117,NJ),(59,IL),(118,TO),(28,BT),(96,Sn)]) Tryz.f68 VR (a68 (b,o,e,())) (b,o,e,()):=by
 rw[v68]
 obtain⟨hb,h1,h2⟩:=id h
 simp only[true_and,and_true,eq_self]
 refine U.mk fun y3 e3=>U.mk fun y4 e4=>U.mk fun y5 e5=>U.mk fun y6 e6=>U.mk fun y7 e7=>U.mk fun y8 e8=>U.mk fun y9 e9=>U.mk fun bp du=> ?_
 have e3:y3=j9 b.2.1 o:=e3
 have e9:y9=y8:=by rw[e9,e8];rfl
 subst e9
 have l3:y3.length≤1000:=by rw[e3];exact qP hb.steps o
 have l9:y9.length≤1000:=by rw[e8];exact qP hb.uv o
 have hx:fj (xy e) y3=ib b o e:=by rw[e3];rfl
 rw[hx] at e4 e7 du ⊢
 refine⟨fun h4=> ?_,fun h4=> ?_⟩
 ·obtain⟨f1,f2⟩:=Im (b:=b) (o:=o) (e:=e) (by rw[←e4];exact h4)
  rw[e5,e6,f1,f2]
  exact⟨rfl,rfl,.refl _,.refl _,.refl _,.refl _⟩
 ·have h4':decide (ib b o e<0)=false:=by rw[←e4];exact h4
  obtain⟨f1,f2⟩:=Ky h4'
  have h0:=of_decide_eq_false h4'
  have dK:ib b o e<(y3.length:Int):=by
   rw[e3]
   exact Vx (xy e) (j9 b.2.1 o) (by show 0≤ib b o e;omega)
  refine⟨l3,by rw[e7];exact bg (by omega) (by omega),⟨by omega,by omega⟩,⟨0,by omega,rfl,rfl⟩,fun k=>U.mk fun aw dM=>U.mk fun cb hX=>U.mk fun cW jG=>U.mk fun bz gJ=>U.mk fun cT kT=>fun hk=>⟨fun hs=> ?_,fun hs=> ?_⟩⟩
  ·have hs:=ba dM hs
   have hX:cb=y9.getD k (0,0):=hX
   have hsu:=Ry e y9 hs
   have XT:(iD e y9 k).length≤k:=by
    unfold iD
    exact Nat.le_trans (List.length_filter_le _ _) (by rw[List.length_take];omega)
   refine⟨⟨by omega,by omega⟩,fun hn=>⟨c6 (by rw[jG];show _+1≤_;omega) (by decide),bg (by omega) (by omega),k+1,by omega,by omega,by omega,?_⟩,fun hn=>⟨bg (by omega) (by omega),k+1,by omega,by omega,by omega,?_⟩⟩
   ·rw[hsu,←hX,show rB e cb=true from hn,jG];rfl
   ·rw[hsu,←hX,show rB e cb=false from hn];exact List.append_nil _
  ·have hs:=br dM hs
   have XU:k=y9.length:=by omega
   have gJ:bz=dc I b.2.2.2.1 o ((j9 b.2.2.2.1 o).filter (rB e)):=by
    rw[gJ,XU,e8]
    unfold iD
    rw[List.take_length]
   have kT:cT=om b o e:=by rw[kT,du,gJ,e3];rfl
   rw[kT]
   refine⟨Nn h o e,fun hn=> ?_,fun hn=> ?_⟩
   ·have hn:gE (om b o e) o=false:=by simpa using hn
    rw[e5,e6,f2,f1,hn,du,gJ,e3]
    exact⟨rfl,rfl,.refl _,.refl _,.refl _,.refl _⟩
   ·have hn:gE (om b o e) o=true:=by simpa using hn
    rw[e5,e6,f2,f1,hn,du,gJ,e3]
    exact⟨rfl,rfl,.refl _,.refl _,.refl _,.refl _⟩
theorem ahb:ew Tryz.prog 68 VR:=
 ew.bZ (l:=[(117,NJ),(59,IL),(118,TO),(28,BT),(96,Sn)]) (A:=a68) aH ⟨ZX,S4,ado,S5,aba,trivial⟩ Tryz.func68 (by kernel_rfl) (by kernel_rfl) fun x hw hp=>b68 x.1 x.2.1 x.2.2.1 hp
theorem v43 (b:av) (o:Int):bN (ah ay [(28,BT),(96,Sn)]) Tryz.f43 Yy aq (b,o,())=(
U (lr b o).2.2.1 fun(y2:List (Int×List Int))=>
U (lr b o).2.2.2 fun(y3:List (Int×List (Int×Int))×List (Int×List (Int×Int)))=>
ga b∧
((!gE b o)=true→
false=gE b o∧b.1=(lr b o).1∧b.2.1.Perm (lr b o).2.1∧b.2.2.1.Perm y2∧b.2.2.2.1.Perm y3.1∧b.2.2.2.2.Perm y3.2∧True)∧
((!gE b o)=false→
True∧
true=gE b o∧
b.1=(lr b o).1∧
(iQ I b.2.1 o).Perm (lr b o).2.1∧(iQ I b.2.2.1 o).Perm y2∧(iQ I b.2.2.2.1 o).Perm y3.1∧(iQ I b.2.2.2.2 o).Perm y3.2∧True)):=by kernel_rfl
theorem ahs:ew Tryz.prog 43 Yy:=
 ew.bZ (l:=[(28,BT),(96,Sn)]) (A:=fun _=>aq) aH ⟨S5,aba,trivial⟩ Tryz.func43 (by kernel_rfl) (by kernel_rfl) fun x hw hp=>by
  obtain⟨b,o,⟨⟩⟩:=x
  have hp:ga b:=hp
  rw[v43]
  refine U.mk fun y2 e2=>U.mk fun y3 e3=>⟨hp,fun hn=> ?_,fun hn=> ?_⟩
  ·have hn:gE b o=false:=by simpa using hn
   have hd:lr b o=b:=by unfold lr;rw[hn];rfl
   rw[e2,e3,hd,hn]
   exact⟨rfl,rfl,.refl _,.refl _,.refl _,.refl _,trivial⟩
  ·have hn:gE b o=true:=by simpa using hn
   have hd:lr b o=Ak b o:=by unfold lr;rw[hn];rfl
   rw[e2,e3,hd,hn]
   exact⟨trivial,rfl,rfl,.refl _,.refl _,.refl _,.refl _,trivial⟩
theorem v20 (b:av):ai (ah ay [(28,BT),(61,Yt)]) Tryz.f20 EA (a20 (b,())) (b,())=(
(∃(py:List (Int×List Int)×List (Int×List Int)),jD b.2.1 py∧[b]=[b]∧(0:Nat)=(0:Nat)∧py.1=b.2.1∧k8 b py.2=[]∧True)∧
∀(s1:List (Int×List Int)×List (Int×List Int)),
jD b.2.1 s1→
(s1.1=[]→(false=true→False)∧(false=false→(k8 b s1.2).length≤(1000000:Nat)∧mJ (k8 b s1.2) (k8 b s1.2).length=Iu b∧True))∧
∀(x2:Int×List Int),
U ((List.replicate (1:Nat) (0:Int)).set (0:Nat) x2.1) fun(y3:List Int)=>
∀(D6:List (Int×List Int)),
s1.1.Perm (x2::D6)→
(true=true→
ga b∧
(gE b x2.1=true→
roomFor ((k8 b s1.2).length+y3.length) (8:Nat)∧
∃(fQ:List (Int×List Int)×List (Int×List Int)),
jD b.2.1 fQ∧fQ.1.length<s1.1.length∧[b]=[b]∧(0:Nat)=(0:Nat)∧fQ.1=D6∧k8 b fQ.2=k8 b s1.2++y3∧True)∧
(gE b x2.1=false→
∃(fQ:List (Int×List Int)×List (Int×List Int)),
jD b.2.1 fQ∧fQ.1.length<s1.1.length∧[b]=[b]∧(0:Nat)=(0:Nat)∧fQ.1=D6∧k8 b fQ.2=k8 b s1.2∧True))∧
(true=false→(k8 b s1.2).length≤(1000000:Nat)∧mJ (k8 b s1.2) (k8 b s1.2).length=Iu b∧True)):=by kernel_rfl
theorem v60 (b:av):bN (ah ay [(110,YE),(111,YD)]) Tryz.f60 c60 aq (b,())=(
True∧
True∧
True∧
True∧
b.1=b.1∧
b.2.1.Perm b.2.1∧
b.2.2.1.Perm b.2.2.1∧
b.2.2.2.1.Perm b.2.2.2.1∧
b.2.2.2.2.Perm b.2.2.2.2∧
b.1=b.1∧b.2.1.Perm b.2.1∧b.2.2.1.Perm b.2.2.1∧b.2.2.2.1.Perm b.2.2.2.1∧b.2.2.2.2.Perm b.2.2.2.2∧True):=by kernel_rfl
theorem ahh:ew Tryz.prog 60 c60:=
 ew.bZ (l:=[(110,YE),(111,YD)]) (A:=fun _=>aq) aH ⟨adu,adt,trivial⟩ Tryz.func60 (by kernel_rfl) (by kernel_rfl) fun x hw hp=>by
  obtain⟨b,⟨⟩⟩:=x
  rw[v60]
  exact⟨trivial,trivial,trivial,trivial,rfl,.refl _,.refl _,.refl _,.refl _,rfl,.refl _,.refl _,.refl _,.refl _,trivial⟩

theorem v58 (l:List Bool):ai (ah ay []) Tryz.f58 IM aq (l,())=(
∀(b1:Bool),
(b1=true→l=[])→(b1=true→[]=l∧True)∧(b1=false→roomFor ((List.replicate (0:Nat) false).length+l.length) (1:Nat)∧List.replicate (0:Nat) false++l=l∧True)):=by kernel_rfl
theorem WO:aM Tryz.prog 58 IM:=
 aM.bZ (l:=[]) (A:=fun _=>aq) aH trivial Tryz.func58 (by kernel_rfl) (by kernel_rfl) fun x hw hp=>by
  obtain⟨l,⟨⟩⟩:=x
  have hp:l.length≤1000:=hp
  rw[v58]
  exact fun b1 h=>⟨fun e=>⟨(h e).symm,trivial⟩,fun _=>⟨c6 (by show 0+_≤_;omega) (by decide),rfl,trivial⟩⟩
theorem afV (l:List Bool) (v:Bool):ai (ah ay []) Tryz.f245 TE (abG (l,v,())) (l,v,())=(
(∃(dp:Nat),(dp≤l.length∧(List.take dp l).any (CQ v)=false)∧(↑dp:Int)=(0:Int)∧l=l∧v=v∧(↑l.length:Int)=(↑l.length:Int)∧True)∧
∀(s2:Nat),
U (decide ((↑s2:Int)<(↑l.length:Int))) fun(y3:Bool)=>
U (v==l.getD (↑s2:Int).toNat false) fun(y4:Bool)=>
s2≤l.length∧(List.take s2 l).any (CQ v)=false→
(y3=true→
aQ (↑s2:Int) l.length∧
(y4=true→(↑s2:Int)=fj (CQ v) l∧True)∧
(y4=false→
bq IntKind.i64 ((↑s2:Int)+(1:Int))∧
∃(fQ:Nat),
(fQ≤l.length∧(List.take fQ l).any (CQ v)=false)∧
l.length - fQ<l.length - s2∧(↑fQ:Int)=(↑s2:Int)+(1:Int)∧l=l∧v=v∧(↑l.length:Int)=(↑l.length:Int)∧True))∧
(y3=false→(-1:Int)=fj (CQ v) l∧True)):=by kernel_rfl
theorem ach:aM Tryz.prog 245 TE:=
 aM.bZ (l:=[]) (A:=abG) aH trivial Tryz.func245 (by kernel_rfl) (by kernel_rfl) fun x hw hp=>by
  obtain⟨l,v,⟨⟩⟩:=x
  have hw:l.length≤aK:=hw.1.1
  rw[afV]
  simp only[true_and,and_true,eq_self]
  refine⟨⟨0,⟨by omega,by simp⟩,by omega⟩,fun s=>U.mk fun y4 e4=>U.mk fun y5 e5=> ?_⟩
  rintro⟨h1,h2⟩
  rw[Int.toNat_natCast] at e5
  refine⟨fun hs=> ?_,fun hs=> ?_⟩
  ·have hs:=ba e4 hs
   refine⟨⟨by omega,by omega⟩,fun e=> ?_,fun e=>⟨dr hs hw,s+1,⟨by omega,?_⟩,by omega,by omega⟩⟩
   ·exact rJ false hs h2 (by unfold CQ;rw[fF,←e5];exact e)
   ·exact any_succ false hs h2 (by unfold CQ;rw[fF,←e5];exact e)
  ·exact qn (s:=s) (br e4 hs) h2
theorem agh (l:List Bool) (v:Bool):ai (ah ay [(245,TE)]) Tryz.f195 TG aq (l,v,())=(
cQ l∧decide (fj (CQ v) l≥(0:Int))=l.any (CQ v)∧True):=by kernel_rfl
theorem acG:aM Tryz.prog 195 TG:=
 aM.bZ (l:=[(245,TE)]) (A:=fun _=>aq) aH ⟨ach,trivial⟩ Tryz.func195 (by kernel_rfl) (by kernel_rfl) fun x hw hp=>by
  obtain⟨l,v,⟨⟩⟩:=x
  rw[agh]
  exact⟨hp,p6,trivial⟩
def SX (a b:Int):Prop:=
 (∃s0:Nat,(a+(s0:Int)≤b∨s0=(0:Nat))∧a+(s0:Int)=a∧b=b∧gp a (a+(s0:Int))=[]∧True)∧
 ∀s:Nat,a+(s:Int)≤b∨s=(0:Nat)→
  (decide (a+(s:Int)<b)=true→roomFor ((gp a (a+(s:Int))).length+((List.replicate (1:Nat) (0:Int)).set (0:Nat) (a+(s:Int))).length) (8:Nat)∧bq IntKind.i64 (a+(s:Int)+(1:Int))∧
   ∃t:Nat,(a+(t:Int)≤b∨t=(0:Nat))∧(b - a).toNat - t<(b - a).toNat - s∧a+(t:Int)=a+(s:Int)+(1:Int)∧b=b∧gp a (a+(t:Int))=gp a (a+(s:Int))++(List.replicate (1:Nat) (0:Int)).set (0:Nat) (a+(s:Int))∧True)∧
  (decide (a+(s:Int)<b)=false→gp a (a+(s:Int))=gp a b∧True)
theorem yz (a:Int) (k:Nat):gp a (a+(k:Int))=(List.range k).map fun(i:Nat)=>a+(i:Int):=by
 unfold gp
 rw[show(a+(k:Int) - a).toNat=k by omega]
theorem WD {a b:Int} (h1:0≤a) (h2:b≤1000):SX a b:=by
 refine⟨⟨0,.inr rfl,by omega,rfl,by rw[yz];rfl,trivial⟩,fun s hs=>⟨fun h=> ?_,fun h=> ?_⟩⟩
 ·have h:=of_decide_eq_true h
  refine⟨c6 ?_ (by decide),bg (by omega) (by omega),s+1,.inl (by omega),by omega,by omega,rfl,?_,trivial⟩
  ·rw[yz,List.length_map,List.length_range]
   show s+1≤_
   omega
  ·rw[yz,yz,List.range_succ,List.map_append]
   rfl
 ·have h:=of_decide_eq_false h
  refine⟨?_,trivial⟩
  rcases hs with hs|hs
  ·rw[show a+(s:Int)=b by omega]
  ·subst hs
   rw[yz]
   unfold gp
   rw[show(b - a).toNat=0 by omega]
theorem agL (a b:Int):ai (ah ay []) Tryz.f116 P9 (a116 (a,b,())) (a,b,())=SX a b:=by kernel_rfl
theorem adp:aM Tryz.prog 116 P9:=
 aM.bZ (l:=[]) (A:=a116) aH trivial Tryz.func116 (by kernel_rfl) (by kernel_rfl) fun x hw hp=>by
  obtain⟨a,b,⟨⟩⟩:=x
  rw[agL]
  exact WD hp.1 hp.2
theorem agM (iC:List Bool) (v:List Bool×Bool×Bool×Bool×Bool×Bool×Bool):ai (ah ay [(195,TG)]) Tryz.f115 Qa aq (iC,v,())=(
cQ iC∧(bif !iC.any (CQ true) then bif !v.2.2.2.2.1 then true else v.2.2.2.2.2.1 else false)=vU iC v∧True):=by kernel_rfl
theorem adq:aM Tryz.prog 115 Qa:=
 aM.bZ (l:=[(195,TG)]) (A:=fun _=>aq) aH ⟨acG,trivial⟩ Tryz.func115 (by kernel_rfl) (by kernel_rfl) fun x hw hp=>by
  obtain⟨l,v,⟨⟩⟩:=x
  rw[agM]
  refine⟨hp,?_,trivial⟩
  unfold vU
  rw[Bool.cond_false_right,Bool.cond_true_left]
theorem BL {seen o:List Bool} {k:Nat} (hl:seen.length=o.length) (i:Nat):(lg seen o k)[i]? =if i<k then(seen[i]?).bind (fun a=>(o[i]?).map fun b=>a||b) else seen[i]? :=by
 have U2:∀xs ys:List Bool,(List.zipWith (fun a b=>a||b) xs ys)[i]? =(xs[i]?).bind (fun a=>(ys[i]?).map fun b=>a||b):=fun xs ys=>by
  rw[List.getElem?_zipWith]
  cases xs[i]? <;>cases ys[i]? <;>rfl
 unfold lg
 by_cases hk:k≤seen.length
 ·have hz:(List.zipWith (fun a b=>a||b) (seen.take k) (o.take k)).length=k:=by simp;omega
  by_cases h:i<k
  ·rw[if_pos h,List.getElem?_append_left (by rw[hz];exact h),U2,List.getElem?_take_of_lt h,List.getElem?_take_of_lt h]
  ·rw[if_neg h,List.getElem?_append_right (by rw[hz];omega),hz,List.getElem?_drop]
   congr 1
   omega
 ·have h1:seen.take k=seen:=List.take_of_length_le (by omega)
  have h2:o.take k=o:=List.take_of_length_le (by omega)
  have h3:seen.drop k=[]:=List.drop_eq_nil_of_le (by omega)
  rw[h1,h2,h3,List.append_nil,U2]
  by_cases h:i<k
  ·rw[if_pos h]
  ·rw[if_neg h,List.getElem?_eq_none (by omega:seen.length≤i)]
   rfl
theorem r5 {seen o:List Bool} {k:Nat} (hl:seen.length=o.length) (hk:k≤seen.length):(lg seen o k).length=seen.length:=by
 simp[lg]
 omega
theorem PL {seen o:List Bool}:lg seen o 0=seen:=by simp[lg]
theorem Vw {seen o:List Bool} {k:Nat} (hl:seen.length=o.length):(lg seen o k).getD k false=seen.getD k false:=by
 rw[List.getD_eq_getElem?_getD,BL hl,if_neg (Nat.lt_irrefl k),←List.getD_eq_getElem?_getD]
theorem PM {seen o:List Bool} {k:Nat} (hl:seen.length=o.length) (hk:k<seen.length):lg seen o (k+1)=(lg seen o k).set k (seen.getD k false||o.getD k false):=by
 apply List.ext_getElem?
 intro i
 have u9:k<o.length:=hl▸hk
 rw[BL hl,List.getElem?_set,r5 hl (by omega)]
 by_cases e:k=i
 ·subst e
  rw[if_pos (Nat.lt_succ_self k),if_pos rfl,if_pos hk,List.getElem?_eq_getElem hk,List.getElem?_eq_getElem u9]
  simp[List.getD_eq_getElem?_getD,hk,u9]
 ·rw[if_neg e,BL hl]
  by_cases h:i<k
  ·rw[if_pos (by omega),if_pos h]
  ·rw[if_neg (by omega),if_neg h]
theorem Da (v:kN):(lV v).length=v.1.length:=by
 unfold lV
 cases v.2.1<;>simp
theorem PG {l:cM} {v:kN} (h:l.1=0):da l v=(l,[]):=by
 unfold da
 rw[if_pos h]
theorem R6 {l:cM} {v:kN} (h:l.1≠0) (hb:sP l v):da l v=(gR,[]):=by
 unfold da
 rw[if_neg h]
 exact if_pos hb
theorem Kx {l:cM} {f:Nat} {v:kN} (h:l.1≠0) (hb:¬sP l v) (hf:l.2.1=(f:Int)):
  da l v=xq l.1 f (l.2.2.1||v.2.2.2.2.2.2) (lg l.2.2.2 (lV v) v.1.length) (lV v) v.1.length v:=by
 unfold da
 rw[if_neg h]
 refine(if_neg hb).trans ?_
 simp only[hf,Int.toNat_natCast]
theorem PN {seen o:List Bool} {gate:Bool} {last f:Nat} (h:f<last):
  m7 seen o gate last (last - f) f=if seen.getD f false&&(!o.getD f false&&(o.getD (f+1) false||gate&&f+1==last)) then m7 seen o gate last (last - (f+1)) (f+1) else f:=by
 have:last - f=(last - (f+1))+1:=by omega
 rw[this,m7]
theorem R9 {seen o:List Bool} {gate:Bool} {last f:Nat} (h:last≤f):m7 seen o gate last (last - f) f=f:=by
 have:last - f=0:=by omega
 rw[this,m7]
theorem aac {α:Type} {P Q:Prop} [Decidable P] [Decidable Q] (h:P↔Q) {a b:α}:(if P then a else b)=if Q then a else b:=by
 by_cases hp:P
 ·rw[if_pos hp,if_pos (h.1 hp)]
 ·rw[if_neg hp,if_neg (fun hq=>hp (h.2 hq))]
theorem v66 (l:Int×Int×Bool×List Bool) (v:List Bool×Bool×Bool×Bool×Bool×Bool×Bool):ai (ah ay [(58,IM),(115,Qa),(116,P9)]) Tryz.f66 VS (a66 (l,v,())) (l,v,())=(
U
(bif
bif
bif bif bif decide (l.1<(0:Int)) then true else decide (l.1>(3:Int)) then true else(↑v.1.length:Int)==(0:Int) then true
else(↑l.2.2.2.length:Int) !=(↑v.1.length:Int) then
true
else decide (l.2.1<(0:Int)) then
true
else decide (l.2.1≥(↑v.1.length:Int)))
fun(y2:Bool)=>
U ((↑v.1.length:Int) - (1:Int)) fun(y3:Int)=>
U (bif v.2.1 then v.1.set y3.toNat false else v.1) fun(y4:List Bool)=>
U (bif l.2.2.1 then true else v.2.2.2.2.2.2) fun(y5:Bool)=>
U (bif l.1 !=(3:Int) then y4.getD (Int.toNat (0:Int)) false else false) fun(y6:Bool)=>
U ((bif y6 then(3:Int) else l.1) !=(3:Int)) fun(y7:Bool)=>
U (bif y6 then l.2.1 else l.2.1) fun(y8:Int)=>
U (List.take (y4.length - y8.toNat) (List.drop y8.toNat y4)) fun(y9:List Bool)=>
U (bif bif y6 then y5 else y5 then vU y9 v else false) fun(bp:Bool)=>
U (bif bif !bif y6 then y5 else y5 then v.2.2.1 else false then v.2.2.2.1 else false) fun(bI:Bool)=>
U (lg l.2.2.2 (lV v) v.1.length) fun(aw:List Bool)=>
U (bif v.2.1 then true else y4.getD y3.toNat false) fun(cb:Bool)=>
cQ l.2.2.2∧
((l.1==(0:Int))=true→l=(da l v).1∧[]=(da l v).2∧True)∧
((l.1==(0:Int))=false→
(y2=true→((0:Int),(0:Int),false,[])=(da l v).1∧[]=(da l v).2∧True)∧
(y2=false→
cQ v.1∧
(v.2.1=true→bq IntKind.i64 y3)∧
(v.2.1=true→aQ y3 v.1.length)∧
(∃(Fb:Nat),
Fb≤v.1.length∧
(↑Fb:Int)=(0:Int)∧
(↑v.1.length:Int)=(↑v.1.length:Int)∧
l.2.1=l.2.1∧
(↑y4.length:Int)=(↑y4.length:Int)∧
lg l.2.2.2 (lV v) Fb=l.2.2.2∧
l.1=l.1∧
l.2.1=l.2.1∧
y5=y5∧
v.1=v.1∧
v.2.1=v.2.1∧
v.2.2.1=v.2.2.1∧
v.2.2.2.1=v.2.2.2.1∧
v.2.2.2.2.1=v.2.2.2.2.1∧
v.2.2.2.2.2.1=v.2.2.2.2.2.1∧
v.2.2.2.2.2.2=v.2.2.2.2.2.2∧
(0:Int)=(0:Int)∧(0:Int)=(0:Int)∧false=false∧y4=y4∧True)∧
∀(u7:Nat),
U (decide ((↑u7:Int)<(↑y4.length:Int))) fun(bz:Bool)=>
U (lg l.2.2.2 (lV v) u7) fun(cT:List Bool)=>
U (cT.getD (↑u7:Int).toNat false) fun(cF:Bool)=>
U (bif y6 then y5 else y5,cT) fun(dI:Bool×List Bool)=>
u7≤v.1.length→
(bz=true→
aQ (↑u7:Int) cT.length∧
(cF=false→aQ (↑u7:Int) y4.length)∧
aQ (↑u7:Int) cT.length∧
bq IntKind.i64 ((↑u7:Int)+(1:Int))∧
∃(iP:Nat),
iP≤v.1.length∧
v.1.length - iP<v.1.length - u7∧
(↑iP:Int)=(↑u7:Int)+(1:Int)∧
(↑v.1.length:Int)=(↑v.1.length:Int)∧
l.2.1=l.2.1∧
(↑y4.length:Int)=(↑y4.length:Int)∧
lg l.2.2.2 (lV v) iP=
cT.set (↑u7:Int).toNat (bif cF then true else y4.getD (↑u7:Int).toNat false)∧
l.1=l.1∧
l.2.1=l.2.1∧
y5=y5∧
v.1=v.1∧
v.2.1=v.2.1∧
v.2.2.1=v.2.2.1∧
v.2.2.2.1=v.2.2.2.1∧
v.2.2.2.2.1=v.2.2.2.2.1∧
v.2.2.2.2.2.1=v.2.2.2.2.2.1∧
v.2.2.2.2.2.2=v.2.2.2.2.2.2∧
(0:Int)=(0:Int)∧(0:Int)=(0:Int)∧false=false∧y4=y4∧True)∧
(bz=false→
((l.1 !=(3:Int))=true→aQ (0:Int) y4.length)∧
(y7=true→
((bif y6 then y5 else y5)=true→(0:Int)≤y8∧y8≤(↑y4.length:Int))∧
((bif y6 then y5 else y5)=true→cQ y9)∧
(bp=true→
((0:Int)≤l.2.1∧(↑v.1.length:Int)≤(1000:Int))∧
((0:Int),(0:Int),false,[])=(da l v).1∧gp l.2.1 (↑v.1.length:Int)=(da l v).2∧True)∧
(bp=false→
(bif bI then(2:Int) else(1:Int),bif bI then y8 else y8,
bif bI then bif y6 then y5 else y5 else bif y6 then y5 else y5,cT)=
(da l v).1∧
[]=(da l v).2∧True))∧
(y7=false→
bq IntKind.i64 y3∧
(∃(xT:Nat),
(l.2.1.toNat≤xT∧
xT≤v.1.length - (1:Nat)∧
m7 aw (lV v) v.2.1 (v.1.length - (1:Nat)) (v.1.length - (1:Nat) - l.2.1.toNat) l.2.1.toNat=
m7 aw (lV v) v.2.1 (v.1.length - (1:Nat)) (v.1.length - (1:Nat) - xT) xT)∧
(↑v.1.length:Int)=(↑v.1.length:Int)∧
l.2.1=l.2.1∧
y3=y3∧
((bif y6 then(3:Int) else l.1)=bif y6 then(3:Int) else l.1)∧
(↑xT:Int)=y8∧
((bif y6 then y5 else y5)=bif y6 then y5 else y5)∧
v.1=v.1∧
v.2.1=v.2.1∧
v.2.2.1=v.2.2.1∧
v.2.2.2.1=v.2.2.2.1∧
v.2.2.2.2.1=v.2.2.2.2.1∧
v.2.2.2.2.2.1=v.2.2.2.2.2.1∧
v.2.2.2.2.2.2=v.2.2.2.2.2.2∧
(0:Int)=(0:Int)∧(0:Int)=(0:Int)∧false=false∧cT=cT∧y4=y4∧True)∧
∀(jh:Nat),
U (!cT.getD (↑jh:Int).toNat false) fun(dJ:Bool)=>
U (bif dJ then true else y4.getD (↑jh:Int).toNat false) fun(fo:Bool)=>
U (bif(↑jh:Int)==y3 then cb else false) fun(dG:Bool)=>
U (List.take (y4.length - (↑jh:Int).toNat) (List.drop (↑jh:Int).toNat y4)) fun(eX:List Bool)=>
U (bif dG then true else bif bif y6 then y5 else y5 then vU eX v else false) fun(gS:Bool)=>
U
(bif y4.getD ((↑jh:Int)+(1:Int)).toNat false then true
else bif v.2.1 then(↑jh:Int)+(1:Int)==y3 else false)
fun(kE:Bool)=>
l.2.1.toNat≤jh∧
jh≤v.1.length - (1:Nat)∧
m7 aw (lV v) v.2.1 (v.1.length - (1:Nat)) (v.1.length - (1:Nat) - l.2.1.toNat)
l.2.1.toNat=
m7 aw (lV v) v.2.1 (v.1.length - (1:Nat)) (v.1.length - (1:Nat) - jh) jh→
(decide ((↑jh:Int)<y3)=true→
bq IntKind.i64 ((↑jh:Int)+(1:Int))∧
aQ (↑jh:Int) cT.length∧
(dJ=false→aQ (↑jh:Int) y4.length)∧
(fo=true→
(((↑jh:Int)==y3)=true→v.2.1=false→aQ y3 y4.length)∧
(dG=false→
(bif y6 then y5 else y5)=true→
(0:Int)≤(↑jh:Int)∧(↑jh:Int)≤(↑y4.length:Int))∧
(dG=false→(bif y6 then y5 else y5)=true→cQ eX)∧
(gS=true→
((0:Int)≤l.2.1∧(↑v.1.length:Int)≤(1000:Int))∧
((0:Int),(0:Int),false,[])=(da l v).1∧
gp l.2.1 (↑v.1.length:Int)=(da l v).2∧True)∧
(gS=false→
((0:Int)≤l.2.1∧(↑jh:Int)≤(1000:Int))∧
(bif y6 then(3:Int) else l.1,(↑jh:Int),dI)=(da l v).1∧
gp l.2.1 (↑jh:Int)=(da l v).2∧True))∧
(fo=false→
aQ ((↑jh:Int)+(1:Int)) y4.length∧
(kE=true→
∃(J1:Nat),
(l.2.1.toNat≤J1∧
J1≤v.1.length - (1:Nat)∧
m7 aw (lV v) v.2.1 (v.1.length - (1:Nat))
(v.1.length - (1:Nat) - l.2.1.toNat) l.2.1.toNat=
m7 aw (lV v) v.2.1 (v.1.length - (1:Nat))
(v.1.length - (1:Nat) - J1) J1)∧
v.1.length - J1<v.1.length - jh∧
(↑v.1.length:Int)=(↑v.1.length:Int)∧
l.2.1=l.2.1∧
y3=y3∧
((bif y6 then(3:Int) else l.1)=bif y6 then(3:Int) else l.1)∧
(↑J1:Int)=(↑jh:Int)+(1:Int)∧
((bif y6 then y5 else y5)=bif y6 then y5 else y5)∧
v.1=v.1∧
v.2.1=v.2.1∧
v.2.2.1=v.2.2.1∧
v.2.2.2.1=v.2.2.2.1∧
v.2.2.2.2.1=v.2.2.2.2.1∧
v.2.2.2.2.2.1=v.2.2.2.2.2.1∧
v.2.2.2.2.2.2=v.2.2.2.2.2.2∧
(0:Int)=(0:Int)∧
(0:Int)=(0:Int)∧
false=false∧cT=cT∧y4=y4∧True)∧
(kE=false→
(((↑jh:Int)==y3)=true→v.2.1=false→aQ y3 y4.length)∧
(dG=false→
(bif y6 then y5 else y5)=true→
(0:Int)≤(↑jh:Int)∧(↑jh:Int)≤(↑y4.length:Int))∧
(dG=false→(bif y6 then y5 else y5)=true→cQ eX)∧
(gS=true→
((0:Int)≤l.2.1∧(↑v.1.length:Int)≤(1000:Int))∧
((0:Int),(0:Int),false,[])=(da l v).1∧
gp l.2.1 (↑v.1.length:Int)=(da l v).2∧True)∧
(gS=false→
((0:Int)≤l.2.1∧(↑jh:Int)≤(1000:Int))∧
(bif y6 then(3:Int) else l.1,(↑jh:Int),dI)=(da l v).1∧
gp l.2.1 (↑jh:Int)=(da l v).2∧True))))∧
(decide ((↑jh:Int)<y3)=false→
(((↑jh:Int)==y3)=true→v.2.1=false→aQ y3 y4.length)∧
(dG=false→
(bif y6 then y5 else y5)=true→(0:Int)≤(↑jh:Int)∧(↑jh:Int)≤(↑y4.length:Int))∧
(dG=false→(bif y6 then y5 else y5)=true→cQ eX)∧
(gS=true→
((0:Int)≤l.2.1∧(↑v.1.length:Int)≤(1000:Int))∧
((0:Int),(0:Int),false,[])=(da l v).1∧
gp l.2.1 (↑v.1.length:Int)=(da l v).2∧True)∧
(gS=false→
((0:Int)≤l.2.1∧(↑jh:Int)≤(1000:Int))∧
(bif y6 then(3:Int) else l.1,(↑jh:Int),dI)=(da l v).1∧
gp l.2.1 (↑jh:Int)=(da l v).2∧True))))))):=by kernel_rfl
theorem b66 (l:cM) (v:kN) (h1:l.2.2.2.length≤1000) (h2:v.1.length≤1000):ai (ah ay [(58,IM),(115,Qa),(116,P9)]) Tryz.f66 VS (a66 (l,v,())) (l,v,()):=by
 rw[v66]
 simp only[U]
 have ho:(bif v.2.1 then v.1.set ((v.1.length:Int) - 1).toNat false else v.1)=lV v:=by
  have:((v.1.length:Int) - 1).toNat=v.1.length - 1:=by omega
  rw[this]
  rfl
 have XK:=Da v
 simp only[Int.toNat_natCast,true_and,and_true,Bool.cond_self,ho,XK]
 have htk:∀f,List.take (v.1.length - f) (List.drop f (lV v))=List.drop f (lV v):=fun f=>List.take_of_length_le (by simp;omega)
 simp only[htk]
 have ze:cQ v.1:=h2
 generalize hoo:lV v=o at *
 generalize hn:v.1.length=n at *
 refine⟨h1,fun e=> ?_,fun e=>⟨fun e2=> ?_,fun e2=> ?_⟩⟩
 ·have e:l.1=0:=by simpa using e
  rw[PG e]
  exact⟨rfl,rfl⟩
 ·have e:l.1≠0:=by simpa using e
  have hb:sP l v:=by
   simp only[Bool.cond_true_left,Bool.or_eq_true,decide_eq_true_eq,beq_iff_eq,bne_iff_ne] at e2
   unfold sP
   omega
  rw[R6 e hb]
  exact⟨rfl,rfl⟩
 ·have e:l.1≠0:=by simpa using e
  have hb:¬sP l v:=by
   simp only[Bool.cond_true_left,Bool.or_eq_false_iff,decide_eq_false_iff_not,beq_eq_false_iff_ne,bne_eq_false_iff_eq] at e2
   unfold sP
   omega
  have gI:=hb
  unfold sP at gI
  rw[hn] at gI
  obtain⟨f,hf⟩:∃f:Nat,l.2.1=(f:Int):=⟨l.2.1.toNat,by omega⟩
  have dK:f<n:=by omega
  have yd:l.2.2.2.length=o.length:=by omega
  have hN:=Kx e hb hf
  rw[hoo,hn] at hN
  rw[hN]
  simp only[hf,Int.toNat_natCast]
  refine⟨ze,fun _=>bg (by omega) (by omega),fun _=>⟨by omega,by omega⟩,⟨0,by omega,rfl,PL⟩,fun s hs=>⟨fun dK=> ?_,fun dK=> ?_⟩⟩
  ·have dK:s<n:=by simpa using dK
   have hL:(lg l.2.2.2 o s).length=n:=by rw[r5 yd (by omega)];omega
   refine⟨⟨by omega,by omega⟩,fun _=>⟨by omega,by omega⟩,⟨by omega,by omega⟩,bg (by omega) (by omega),s+1,by omega,by omega,by omega,?_⟩
   rw[PM yd (by omega),Vw yd,Bool.cond_true_left]
  ·have dK:s=n:=by
    have:n≤s:=by simpa using dK
    omega
   subst dK
   have adV:(v.fst,v.snd.fst,v.snd.snd.fst,v.snd.snd.snd.fst,v.snd.snd.snd.snd.fst,v.snd.snd.snd.snd.snd.fst,v.snd.snd.snd.snd.snd.snd)=v:=rfl
   have h0n:(Int.toNat 0)=0:=rfl
   have htn:((s:Int) - 1).toNat=s - 1:=by omega
   have rD:∀k:Nat,((k:Int)+1).toNat=k+1:=fun k=>by omega
   have hdl:∀k,(List.drop k o).length≤1000:=fun k=>by rw[List.length_drop];omega
   simp only[adV,h0n,htn,rD,Bool.cond_true_left,Bool.cond_false_right]
   generalize Tk:(l.snd.snd.fst||v.snd.snd.snd.snd.snd.snd)=Hr
   have U5:(lg l.snd.snd.snd o s).length=s:=by rw[r5 yd (by omega)];omega
   generalize lg l.snd.snd.snd o s=sn at *
   refine⟨fun _=>⟨by omega,by omega⟩,fun hu=> ?_,fun hu=> ?_⟩
   ·have ju:l.1≠3∧o.getD 0 false=false:=by
     cases h:o.getD 0 false with
     |true=>
      rw[h] at hu
      by_cases e3:l.1=3
      ·simp[e3] at hu
      ·have:(l.1 !=3)=true:=by simpa using e3
       rw[this] at hu
       simp at hu
     |false=>
      rw[h] at hu
      refine⟨fun e3=> ?_,rfl⟩
      simp[e3] at hu
    have hNI:∀x y,xq l.1 f x y o s v=if x=true∧vU (o.drop f) v=true then(gR,gp f s) else if x=false∧v.2.2.1=true∧v.2.2.2.1=true then((2,f,x,y),[]) else((1,f,x,y),[]):=fun x y=>by
     unfold xq
     rw[if_pos ju]
    refine⟨fun _=>⟨by omega,by omega⟩,fun _=>hdl _,fun hc=> ?_,fun hc=> ?_⟩
    ·rw[hNI,if_pos (by simpa using hc)]
     exact⟨⟨by omega,by omega⟩,rfl,rfl⟩
    ·have Nc:¬(Hr=true∧vU (o.drop f) v=true):=by
      rw[←Bool.and_eq_true,hc]
      simp
     rw[hNI,if_neg Nc]
     by_cases hg:Hr=false∧v.2.2.1=true∧v.2.2.2.1=true
     ·rw[if_pos hg]
      obtain⟨g1,g2,g3⟩:=hg
      simp[g1,g2,g3]
     ·rw[if_neg hg]
      have:(!Hr&&v.2.2.1&&v.2.2.2.1)=false:=by
       cases Hr<;>cases h1:v.2.2.1<;>cases h2:v.2.2.2.1<;>simp_all
      simp[this]
   ·have h3:(bif l.1 !=3&&o.getD 0 false then 3 else l.1)=3:=by simpa using hu
    have Em:¬(l.1≠3∧o.getD 0 false=false):=by
     rintro⟨e3,e4⟩
     rw[e4,Bool.and_false] at h3
     exact e3 h3
    have cq:∀k,f≤k→k≤s - 1→m7 sn o v.2.1 (s - 1) (s - 1 - f) f=k→∀b,((((k:Int)==(s:Int) - 1)&&(v.2.1||o.getD (s - 1) false))||(Hr&&vU (List.drop k o) v))=b→
      xq l.1 f Hr sn o s v=if b=true then(gR,gp f s) else((3,k,Hr,sn),gp f k):=fun k k1 k2 k3 b hb=>by
     subst hb
     unfold xq
     rw[if_neg Em]
     simp only[k3]
     refine aac ?_
     simp only[Bool.or_eq_true,Bool.and_eq_true,beq_iff_eq]
     have:((k:Int)=(s:Int) - 1)↔k=s - 1:=by omega
     rw[this]
    refine⟨bg (by omega) (by omega),⟨f,⟨by omega,by omega,rfl⟩,rfl⟩,fun k ⟨KF,KL,KE⟩=>⟨fun hk=> ?_,fun hk=> ?_⟩⟩
    ·have hk:k<s - 1:=by
      have:(k:Int)<(s:Int) - 1:=by simpa using hk
      omega
     have ju:=PN (seen:=sn) (o:=o) (gate:=v.2.1) hk
     refine⟨bg (by omega) (by omega),⟨by omega,by omega⟩,fun _=>⟨by omega,by omega⟩,fun hc=> ?_,fun hc=>⟨⟨by omega,by omega⟩,fun hd=> ?_,fun hd=> ?_⟩⟩
     ·rw[ju,if_neg (by
       intro h
       simp only[Bool.and_eq_true,Bool.not_eq_true'] at h
       rw[h.1,h.2.1] at hc
       simp at hc)] at KE
      refine⟨fun _ _=>⟨by omega,by omega⟩,fun _ _=>⟨by omega,by omega⟩,fun _ _=>hdl _,fun hc=> ?_,fun hc=> ?_⟩
      ·rw[cq k KF KL KE _ hc];exact⟨⟨by omega,by omega⟩,rfl,rfl⟩
      ·rw[cq k KF KL KE _ hc,h3];exact⟨⟨by omega,by omega⟩,rfl,rfl⟩
     ·refine⟨k+1,⟨by omega,by omega,?_⟩,by omega,by omega⟩
      rw[KE,ju,if_pos]
      have hx:(((k:Int)+1==(s:Int) - 1))=(k+1==s - 1):=by
       rw[Bool.eq_iff_iff,beq_iff_eq,beq_iff_eq]
       omega
      rw[hx] at hd
      simp only[Bool.or_eq_false_iff,Bool.not_eq_false'] at hc
      rw[hc.1,hc.2,hd]
      rfl
     ·rw[ju,if_neg (by
       intro h
       have hx:(((k:Int)+1==(s:Int) - 1))=(k+1==s - 1):=by
        rw[Bool.eq_iff_iff,beq_iff_eq,beq_iff_eq]
        omega
       rw[hx] at hd
       rw[hd] at h
       simp at h)] at KE
      refine⟨fun _ _=>⟨by omega,by omega⟩,fun _ _=>⟨by omega,by omega⟩,fun _ _=>hdl _,fun hc=> ?_,fun hc=> ?_⟩
      ·rw[cq k KF KL KE _ hc];exact⟨⟨by omega,by omega⟩,rfl,rfl⟩
      ·rw[cq k KF KL KE _ hc,h3];exact⟨⟨by omega,by omega⟩,rfl,rfl⟩
    ·have hk:s - 1≤k:=by
      have:¬(k:Int)<(s:Int) - 1:=by simpa using hk
      omega
     rw[R9 hk] at KE
     refine⟨fun _ _=>⟨by omega,by omega⟩,fun _ _=>⟨by omega,by omega⟩,fun _ _=>hdl _,fun hc=> ?_,fun hc=> ?_⟩
     ·rw[cq k KF KL KE _ hc];exact⟨⟨by omega,by omega⟩,rfl,rfl⟩
     ·rw[cq k KF KL KE _ hc,h3];exact⟨⟨by omega,by omega⟩,rfl,rfl⟩
theorem ahd:aM Tryz.prog 66 VS:=
 aM.bZ (l:=[(58,IM),(115,Qa),(116,P9)]) (A:=a66) aH ⟨WO,adq,adp,trivial⟩ Tryz.func66 (by kernel_rfl) (by kernel_rfl) fun x _ hp=>b66 x.1 x.2.1 hp.1 hp.2
def GD (rs:List af) (i:Nat):Int:=(rs.getD i zR).1
def pw (rs:List af) (ls:List cM) (i:Nat):Bool:=decide (i<ls.length)&&((ls.getD i gR).1==2&&(decide (0≤GD rs i)&&decide (GD rs i<24)))
def setRow (rs:List af) (ls:List cM):Nat→List Int
 |0=>List.replicate 24 (-1)
 |k+1=>bif pw rs ls (rs.length - 1 - k) then(setRow rs ls k).set (GD rs (rs.length - 1 - k)).toNat ((rs.length - 1 - k:Nat):Int) else setRow rs ls k
def II (set:List Int) (r:af):Bool:=r.2.2.1==2||(r.2.2.1==1&&(decide (0≤r.2.1)&&(decide (r.2.1<24)&&decide (0≤set.getD r.2.1.toNat 0))))
def Tv (rs:List af) (set:List Int) (s:Nat):Int:=
 bif decide (24≤s)||decide (set.getD s 0<0) then 0 else bif II set (rs.getD (set.getD s 0).toNat zR) then 2 else 1
@[irreducible] def p9 (rs:List af) (set:List Int) (n k:Nat):List Int:=(List.range k).map (fun s=>Tv rs set s)++List.replicate (n - k) 0
@[irreducible] def iM (c:bP) (ls:List cM):List Int:=p9 c.2 (setRow c.2 ls c.2.length) c.1.2.2.1.length c.1.2.2.1.length
def VM:bh where
 args:=[mH,.list ml]
 out:= .row 3 I
 pre:=fun(x:bP×List cM×Unit)=>x.1.1.2.2.1.length≤1000
 fn:=fun(x:bP×List cM×Unit)=>(iM x.1 x.2.1,())
def rZ (k:Nat):List Int:=List.replicate k (-1)++List.replicate (24 - k) 0
def a73 (x:bP×List cM×Unit):eC:=bj [(3,fun _=>{
 σ:=Nat
 ok:=fun k=>k≤24
 mu:=fun k=>24 - k
 sl:=fun k=>[(12,.one (.aC I (k:Int))),(5,.one (.mw I 1000 0 0))]
 bl:=fun k=>[(1000,.row false 197 I (rZ k))]
 keep:=[1,2]
 cy:=[2]}),(8,fun _=>{
 σ:=Nat
 ok:=fun k=>k≤x.1.2.length
 mu:=fun k=>x.1.2.length - k
 sl:=fun k=>[(7,.one (.aC I ((x.1.2.length:Int) - 1 - (k:Int)))),(5,.one (.mw I 1001 0 0))]
 bl:=fun k=>[(1001,.row false 197 I (setRow x.1.2 x.2.1 k))]
 keep:=[1,2]
 cy:=[2]}),(15,fun _=>{
 σ:=Nat
 ok:=fun k=>k≤x.1.1.2.2.1.length
 mu:=fun k=>x.1.1.2.2.1.length - k
 sl:=fun k=>[(62,.one (.aC I (k:Int))),(9,.one (.row I 1002)),(5,.one (.mw I 1003 0 0))]
 bl:=fun k=>[(1002,.row false 3 I (p9 x.1.2 (setRow x.1.2 x.2.1 x.1.2.length) x.1.1.2.2.1.length k)),(1003,.row false 197 I (setRow x.1.2 x.2.1 x.1.2.length))]
 keep:=[2,61]
 cy:=[2]})]
theorem R8:∀s,s<24→rZ (s+1)=(rZ s).set s (-1):=by decide
theorem Vt:∀s,s≤24→(rZ s).length=24:=fun s h=>by unfold rZ;simp;omega
theorem abZ:∀s,s<24→(List.replicate 24 (-1:Int)).getD s 0= -1:=by decide
theorem wK {α:Type} (l:List α) (i j:Nat) (x d:α) (h:j<l.length):(l.set i x).getD j d=if i=j then x else l.getD j d:=by
 simp only[List.getD_eq_getElem?_getD]
 rw[List.getElem?_set]
 by_cases e:i=j
 ·subst e;simp[h]
 ·simp[e]
theorem Ck (rs:List af) (ls:List cM):∀k,(setRow rs ls k).length=24
 |0=>rfl
 |k+1=>by
  have ih:=Ck rs ls k
  show(bif pw rs ls (rs.length - 1 - k) then _ else _:List Int).length=24
  cases pw rs ls (rs.length - 1 - k)
  ·exact ih
  ·rw[cond_true,List.length_set];exact ih
theorem G7 (rs:List af) (ls:List cM):∀k,k≤rs.length→∀s,s<24→ -1≤(setRow rs ls k).getD s 0∧(setRow rs ls k).getD s 0<rs.length
 |0,_,s,hs=>by
  have e:(setRow rs ls 0).getD s 0= -1:=by
   exact abZ s hs
  rw[e]
  omega
 |k+1,hk,s,hs=>by
  have ih:=G7 rs ls k (by omega) s hs
  show -1≤(bif pw rs ls (rs.length - 1 - k) then _ else _:List Int).getD s 0∧(bif pw rs ls (rs.length - 1 - k) then _ else _:List Int).getD s 0<_
  cases pw rs ls (rs.length - 1 - k)
  ·exact ih
  ·rw[cond_true,wK _ _ _ _ _ (by rw[Ck];exact hs)]
   split
   ·omega
   ·exact ih
theorem I7 (rs:List af) (set:List Int) {n k:Nat} (h:k≤n):(p9 rs set n k).length=n:=by
 unfold p9
 simp
 omega
theorem Wb (rs:List af) (set:List Int) (n:Nat):p9 rs set n 0=List.replicate n 0:=by
 unfold p9
 rfl
theorem Wc (rs:List af) (set:List Int) {n k:Nat} (h:k<n):p9 rs set n (k+1)=(p9 rs set n k).set k (Tv rs set k):=by
 unfold p9
 have e:n - k=(n - (k+1))+1:=by omega
 rw[List.set_append_right _ _ (by simp),List.length_map,List.length_range,Nat.sub_self,e,List.replicate_succ,List.set_cons_zero,List.range_succ,List.map_append,List.append_assoc]
 rfl
theorem aaW (rs:List af) (set:List Int) {n k:Nat} (h:k<n):(p9 rs set n k).getD k 0=0:=by
 unfold p9
 rw[List.getD_eq_getElem?_getD,List.getElem?_append_right (by simp)]
 simp
 have:0<n - k:=by omega
 simp[this]
theorem DZ {α:Type} {l:List α} {i:Nat} {x d:α} (h:i<l.length) (e:l.getD i d=x):l.set i x=l:=by
 rw[←e,eA d h,List.set_getElem_self]
theorem v73 (c:(ab)×List (af)) (ls:List (Int×Int×Bool×List Bool)):ai (ah ay []) Tryz.f73 VM (a73 (c,ls,())) (c,ls,())=(
U ((↑c.2.length:Int) - (1:Int)) fun(y2:Int)=>
U ((↑c.2.length:Int) - (1:Int)) fun(y3:Int)=>
U ((0:Int),(0:Int),false,[]) fun(y4:Int×Int×Bool×List Bool)=>
U ((0:Int),(0:Int),(0:Int),[],[],[],[],[],false) fun(y5:af)=>
U (List.replicate (↑c.1.2.2.1.length:Int).toNat (0:Int)) fun(y6:List Int)=>
U (setRow c.2 ls c.2.length) fun(y7:List Int)=>
(∃(mL:Nat),
mL≤(24:Nat)∧
(↑mL:Int)=(0:Int)∧
(0:Nat)=(0:Nat)∧
ls=ls∧
rZ mL=
[(0:Int),(0:Int),(0:Int),(0:Int),(0:Int),(0:Int),(0:Int),(0:Int),(0:Int),(0:Int),(0:Int),(0:Int),(0:Int),(0:Int),(0:Int),
(0:Int),(0:Int),(0:Int),(0:Int),(0:Int),(0:Int),(0:Int),(0:Int),(0:Int)]∧
c.1.1=c.1.1∧
c.1.2.1=c.1.2.1∧
c.1.2.2.1=c.1.2.2.1∧
c.1.2.2.2.1=c.1.2.2.2.1∧
c.1.2.2.2.2.1=c.1.2.2.2.2.1∧
c.1.2.2.2.2.2.1=c.1.2.2.2.2.2.1∧
c.1.2.2.2.2.2.2.1=c.1.2.2.2.2.2.2.1∧
c.1.2.2.2.2.2.2.2.1=c.1.2.2.2.2.2.2.2.1∧
c.1.2.2.2.2.2.2.2.2=c.1.2.2.2.2.2.2.2.2∧c.2=c.2∧True)∧
∀(s8:Nat),
s8≤(24:Nat)→
(decide ((↑s8:Int)<(24:Int))=true→
(aQ (↑s8:Int) (24:Nat)∧(rZ s8).length=(24:Nat))∧
bq IntKind.i64 ((↑s8:Int)+(1:Int))∧
∃(Cm:Nat),
Cm≤(24:Nat)∧
(24:Nat) - Cm<(24:Nat) - s8∧
(↑Cm:Int)=(↑s8:Int)+(1:Int)∧
(0:Nat)=(0:Nat)∧
ls=ls∧
rZ Cm=(rZ s8).set (↑s8:Int).toNat (-1:Int)∧
c.1.1=c.1.1∧
c.1.2.1=c.1.2.1∧
c.1.2.2.1=c.1.2.2.1∧
c.1.2.2.2.1=c.1.2.2.2.1∧
c.1.2.2.2.2.1=c.1.2.2.2.2.1∧
c.1.2.2.2.2.2.1=c.1.2.2.2.2.2.1∧
c.1.2.2.2.2.2.2.1=c.1.2.2.2.2.2.2.1∧
c.1.2.2.2.2.2.2.2.1=c.1.2.2.2.2.2.2.2.1∧
c.1.2.2.2.2.2.2.2.2=c.1.2.2.2.2.2.2.2.2∧c.2=c.2∧True)∧
(decide ((↑s8:Int)<(24:Int))=false→
bq IntKind.i64 y2∧
(∃(Au:Nat),
Au≤c.2.length∧
y3 - (↑Au:Int)=y2∧
(0:Nat)=(0:Nat)∧
ls=ls∧
setRow c.2 ls Au=rZ s8∧
c.1.1=c.1.1∧
c.1.2.1=c.1.2.1∧
c.1.2.2.1=c.1.2.2.1∧
c.1.2.2.2.1=c.1.2.2.2.1∧
c.1.2.2.2.2.1=c.1.2.2.2.2.1∧
c.1.2.2.2.2.2.1=c.1.2.2.2.2.2.1∧
c.1.2.2.2.2.2.2.1=c.1.2.2.2.2.2.2.1∧
c.1.2.2.2.2.2.2.2.1=c.1.2.2.2.2.2.2.2.1∧
c.1.2.2.2.2.2.2.2.2=c.1.2.2.2.2.2.2.2.2∧c.2=c.2∧True)∧
∀(s9:Nat),
U (decide (y3 - (↑s9:Int)≥(0:Int))) fun(bp:Bool)=>
U (decide (y3 - (↑s9:Int)<(↑ls.length:Int))) fun(bI:Bool)=>
U (c.2.getD (y3 - (↑s9:Int)).toNat y5).1 fun(aw:Int)=>
U
(bif bif bif bI then(ls.getD (y3 - (↑s9:Int)).toNat y4).1==(2:Int) else false then decide (aw≥(0:Int)) else false then decide (aw<(24:Int))
else false)
fun(cb:Bool)=>
U (y3 - (↑s9:Int) - (1:Int)) fun(cW:Int)=>
s9≤c.2.length→
(bp=true→
aQ (y3 - (↑s9:Int)) c.2.length∧
(bI=true→aQ (y3 - (↑s9:Int)) ls.length)∧
(cb=true→aQ aw (24:Nat)∧(setRow c.2 ls s9).length=(24:Nat))∧
bq IntKind.i64 cW∧
∃(k6:Nat),
k6≤c.2.length∧
c.2.length - k6<c.2.length - s9∧
y3 - (↑k6:Int)=cW∧
(0:Nat)=(0:Nat)∧
ls=ls∧
(setRow c.2 ls k6=bif cb then(setRow c.2 ls s9).set aw.toNat (y3 - (↑s9:Int)) else setRow c.2 ls s9)∧
c.1.1=c.1.1∧
c.1.2.1=c.1.2.1∧
c.1.2.2.1=c.1.2.2.1∧
c.1.2.2.2.1=c.1.2.2.2.1∧
c.1.2.2.2.2.1=c.1.2.2.2.2.1∧
c.1.2.2.2.2.2.1=c.1.2.2.2.2.2.1∧
c.1.2.2.2.2.2.2.1=c.1.2.2.2.2.2.2.1∧
c.1.2.2.2.2.2.2.2.1=c.1.2.2.2.2.2.2.2.1∧
c.1.2.2.2.2.2.2.2.2=c.1.2.2.2.2.2.2.2.2∧c.2=c.2∧True)∧
(bp=false→
((0:Int)≤(↑c.1.2.2.1.length:Int)∧(↑c.1.2.2.1.length:Int)≤(↑c.1.2.2.1.length:Int))∧
(roomFor (↑c.1.2.2.1.length:Int).toNat (8:Nat)∧(↑c.1.2.2.1.length:Int)≤(↑aK:Int))∧
(∃(mM:Nat),
mM≤c.1.2.2.1.length∧
(↑mM:Int)=(0:Int)∧
(0:Nat)=(0:Nat)∧
(↑y6.length:Int)=(↑y6.length:Int)∧
p9 c.2 y7 c.1.2.2.1.length mM=y6∧
y7=setRow c.2 ls s9∧
c.1.1=c.1.1∧
c.1.2.1=c.1.2.1∧
c.1.2.2.1=c.1.2.2.1∧
c.1.2.2.2.1=c.1.2.2.2.1∧
c.1.2.2.2.2.1=c.1.2.2.2.2.1∧
c.1.2.2.2.2.2.1=c.1.2.2.2.2.2.1∧
c.1.2.2.2.2.2.2.1=c.1.2.2.2.2.2.2.1∧
c.1.2.2.2.2.2.2.2.1=c.1.2.2.2.2.2.2.2.1∧
c.1.2.2.2.2.2.2.2.2=c.1.2.2.2.2.2.2.2.2∧c.2=c.2∧True)∧
∀(eI:Nat),
U (decide ((↑eI:Int)<(↑y6.length:Int))) fun(cT:Bool)=>
U (y7.getD (↑eI:Int).toNat (0:Int)) fun(cF:Int)=>
U (bif decide ((↑eI:Int)≥(24:Int)) then true else decide (cF<(0:Int))) fun(dI:Bool)=>
U (p9 c.2 y7 c.1.2.2.1.length eI) fun(fC:List Int)=>
U (c.2.getD cF.toNat y5).2
fun(dJ:Int×Int×List (Int×Int×Int)×List (Int×Int)×List (Int×Int)×List Int×List Int×Bool)=>
U (bif bif dJ.2.1==(1:Int) then decide (dJ.1≥(0:Int)) else false then decide (dJ.1<(24:Int)) else false)
fun(fo:Bool)=>
U (y7.getD dJ.1.toNat (0:Int)) fun(dG:Int)=>
U (bif dJ.2.1==(2:Int) then true else bif fo then decide (dG≥(0:Int)) else false) fun(eX:Bool)=>
U (fC.set (↑eI:Int).toNat (1:Int)) fun(gS:List Int)=>
eI≤c.1.2.2.1.length→
(cT=true→
(decide ((↑eI:Int)≥(24:Int))=false→aQ (↑eI:Int) (24:Nat)∧y7.length=(24:Nat))∧
(dI=true→
bq IntKind.i64 ((↑eI:Int)+(1:Int))∧
∃(rj:Nat),
rj≤c.1.2.2.1.length∧
c.1.2.2.1.length - rj<c.1.2.2.1.length - eI∧
(↑rj:Int)=(↑eI:Int)+(1:Int)∧
(0:Nat)=(0:Nat)∧
(↑y6.length:Int)=(↑y6.length:Int)∧
p9 c.2 y7 c.1.2.2.1.length rj=fC∧
y7=y7∧
c.1.1=c.1.1∧
c.1.2.1=c.1.2.1∧
c.1.2.2.1=c.1.2.2.1∧
c.1.2.2.2.1=c.1.2.2.2.1∧
c.1.2.2.2.2.1=c.1.2.2.2.2.1∧
c.1.2.2.2.2.2.1=c.1.2.2.2.2.2.1∧
c.1.2.2.2.2.2.2.1=c.1.2.2.2.2.2.2.1∧
c.1.2.2.2.2.2.2.2.1=c.1.2.2.2.2.2.2.2.1∧
c.1.2.2.2.2.2.2.2.2=c.1.2.2.2.2.2.2.2.2∧
c.2=c.2∧True)∧
(dI=false→
(aQ (↑eI:Int) (24:Nat)∧y7.length=(24:Nat))∧
aQ cF c.2.length∧
aQ (↑eI:Int) fC.length∧
((dJ.2.1==(2:Int))=false→fo=true→aQ dJ.1 (24:Nat)∧y7.length=(24:Nat))∧
(eX=true→aQ (↑eI:Int) gS.length)∧
bq IntKind.i64 ((↑eI:Int)+(1:Int))∧
∃(rj:Nat),
rj≤c.1.2.2.1.length∧
c.1.2.2.1.length - rj<c.1.2.2.1.length - eI∧
(↑rj:Int)=(↑eI:Int)+(1:Int)∧
(0:Nat)=(0:Nat)∧
(↑y6.length:Int)=(↑y6.length:Int)∧
(p9 c.2 y7 c.1.2.2.1.length rj=
bif eX then gS.set (↑eI:Int).toNat (2:Int) else gS)∧
y7=y7∧
c.1.1=c.1.1∧
c.1.2.1=c.1.2.1∧
c.1.2.2.1=c.1.2.2.1∧
c.1.2.2.2.1=c.1.2.2.2.1∧
c.1.2.2.2.2.1=c.1.2.2.2.2.1∧
c.1.2.2.2.2.2.1=c.1.2.2.2.2.2.1∧
c.1.2.2.2.2.2.2.1=c.1.2.2.2.2.2.2.1∧
c.1.2.2.2.2.2.2.2.1=
c.1.2.2.2.2.2.2.2.1∧
c.1.2.2.2.2.2.2.2.2=
c.1.2.2.2.2.2.2.2.2∧
c.2=c.2∧True))∧
(cT=false→fC=iM c ls∧True)))):=by kernel_rfl
theorem b73 (c:bP) (ls:List cM) (hp:c.1.2.2.1.length≤1000) (hw:c.2.length≤aK):ai (ah ay []) Tryz.f73 VM (a73 (c,ls,())) (c,ls,()):=by
 have H0:aK=9223372036854775807:=rfl
 rw[v73]
 refine U.mk fun y2 e2=>U.mk fun y3 e3=>U.mk fun y4 e4=>U.mk fun y5 e5=>U.mk fun y6 e6=>U.mk fun y7 e7=> ?_
 simp only[true_and,and_true,Int.toNat_natCast]
 have e6:y6=List.replicate c.1.2.2.1.length 0:=e6
 have hl6:y6.length=c.1.2.2.1.length:=by rw[e6];simp
 have hl7:y7.length=24:=by rw[e7];exact Ck _ _ _
 refine⟨⟨0,by omega,rfl,rfl⟩,fun s hs=>⟨fun h=> ?_,fun h=> ?_⟩⟩
 ·have h:=of_decide_eq_true h
  exact⟨⟨⟨by omega,by omega⟩,Vt s hs⟩,bg (by omega) (by omega),s+1,by omega,by omega,by omega,R8 s (by omega)⟩
 have h:=of_decide_eq_false h
 have ah4:s=24:=by omega
 subst ah4
 refine⟨Ab (by omega) (by omega),⟨0,by omega,by omega,rfl⟩,fun t=>U.mk fun bp du=>U.mk fun bI eH=>U.mk fun aw dM=>U.mk fun cb hX=>U.mk fun cW jG=> ?_⟩
 intro ht
 refine⟨fun h=> ?_,fun h=> ?_⟩
 ·rw[du] at h
  have h:=of_decide_eq_true h
  have hi:y3 - (t:Int)=((c.2.length - 1 - t:Nat):Int):=by omega
  rw[hi] at eH dM hX ⊢
  rw[Int.toNat_natCast] at dM hX
  have dM:aw=GD c.2 (c.2.length - 1 - t):=by rw[dM,e5];rfl
  have hc:cb=pw c.2 ls (c.2.length - 1 - t):=by
   have eH:bI=decide (c.2.length - 1 - t<ls.length):=by
    rw[eH]
    by_cases h:c.2.length - 1 - t<ls.length
    ·rw[decide_eq_true h,decide_eq_true (by omega)]
    ·rw[decide_eq_false h,decide_eq_false (by omega)]
   rw[hX,eH,dM,e4,xC]
   unfold pw
   have key:∀a b c d:Bool,(bif(bif(bif a then b else false) then c else false) then d else false)=(a&&(b&&(c&&d))):=by decide
   exact key _ _ _ _
  refine⟨⟨by omega,by omega⟩,fun mC=> ?_,fun mg=>⟨?_,Ck _ _ _⟩,Ab (by omega) (by omega),t+1,by omega,by omega,by omega,?_⟩
  ·rw[eH] at mC
   have:=of_decide_eq_true mC
   exact⟨by omega,this⟩
  ·rw[hc] at mg
   unfold pw at mg
   simp only[Bool.and_eq_true] at mg
   have h1:=of_decide_eq_true mg.2.2.1
   have h2:=of_decide_eq_true mg.2.2.2
   rw[dM]
   exact⟨h1,h2⟩
  ·show(bif pw c.2 ls (c.2.length - 1 - t) then _ else _)=_
   rw[hc,dM]
 rw[du] at h
 have h:=of_decide_eq_false h
 have Pk:t=c.2.length:=by omega
 subst Pk
 refine⟨by omega,⟨c6 (by omega) (by omega),by omega⟩,⟨0,by omega,rfl,by rw[Wb,e6],e7⟩,fun u=>U.mk fun cT kT=>U.mk fun cF iN=>U.mk fun dI m8=>U.mk fun fC nH=>U.mk fun dJ pb=>U.mk fun fo qZ=>U.mk fun dG sB=>U.mk fun eX xJ=>U.mk fun gS wQ=> ?_⟩
 intro hu
 have anD:fC.length=c.1.2.2.1.length:=by rw[nH];exact I7 _ _ hu
 rw[R5 _ 24 24 rfl] at m8 ⊢
 refine⟨fun h=> ?_,fun h=> ?_⟩
 ·have h:=ba kT h
  rw[hl6] at h
  have rD:=Wc c.2 y7 h
  have hA:Tv c.2 y7 u=bif dI then 0 else bif eX then 2 else 1:=by
   have pb:dJ=(c.2.getD cF.toNat zR).2:=by rw[pb,e5];rfl
   have mf:II y7 (c.2.getD cF.toNat zR)=eX:=by
    rw[xJ,sB,qZ,pb,xC,xC]
    unfold II
    have key:∀a b c d e:Bool,(a||(b&&(c&&(d&&e))))=(bif a then true else(bif(bif(bif b then c else false) then d else false) then e else false)):=by decide
    exact key _ _ _ _ _
   unfold Tv
   rw[←iN,mf,m8]
   have key:∀a b:Bool,(a||b)=(bif a then true else b):=by decide
   rw[key]
  refine⟨fun R3=>⟨⟨by omega,by have:=of_decide_eq_false R3;omega⟩,hl7⟩,fun zf=>⟨bg (by omega) (by omega),u+1,by omega,by omega,by omega,?_⟩,fun zf=> ?_⟩
  ·rw[rD,hA,zf,nH]
   exact DZ (by rw[I7 _ _ hu];exact h) (aaW c.2 y7 h)
  ·rw[m8] at zf
   obtain⟨g1,g2⟩:=vF zf
   rw[←m8] at zf
   have g1:=of_decide_eq_false g1
   have g2:=of_decide_eq_false g2
   have hr:=G7 c.2 ls c.2.length (Nat.le_refl _) u (by omega)
   rw[←e7,←iN] at hr
   refine⟨⟨⟨by omega,by omega⟩,hl7⟩,⟨by omega,hr.2⟩,⟨by omega,by omega⟩,fun _ R4=> ?_,fun _=>⟨by omega,by rw[wQ,List.length_set];omega⟩,bg (by omega) (by omega),u+1,by omega,by omega,by omega,?_⟩
   ·rw[qZ] at R4
    have key:∀a b c:Bool,(bif(bif a then b else false) then c else false)=true→b=true∧c=true:=by decide
    obtain⟨k1,k2⟩:=key _ _ _ R4
    exact⟨⟨of_decide_eq_true k1,of_decide_eq_true k2⟩,hl7⟩
   ·rw[rD,hA,zf,wQ,nH]
    cases eX
    ·rfl
    ·rw[cond_true,List.set_set];rfl
 ·have hle:=br kT h
  rw[hl6] at hle
  have:u=c.1.2.2.1.length:=by omega
  subst this
  rw[nH,e7]
  unfold iM
  rfl
theorem ag6:aM Tryz.prog 73 VM:=
 aM.bZ (l:=[]) (A:=a73) aH trivial Tryz.func73 (by kernel_rfl) (by kernel_rfl) fun x hw hp=>b73 x.1 x.2.1 hp hw.1.2.1
theorem DC (c:bP) (ls:List cM):(iM c ls).length=c.1.2.2.1.length:=by
 unfold iM
 exact I7 _ _ (Nat.le_refl _)
theorem QA (r:af) (s:cv) (pos stop to:Int):(eK r s pos stop to).1=r.1:=by unfold eK;rfl
theorem Kc {p:ab}:∀(n:Nat) (r:af) (x:ak) (met:List Int),r.2.2.2.1.length≤12→∀q∈mZ p n r x met,q.1=r.1∧1≤q.2.2.2.1.length∧q.2.2.2.1.length≤12
 |0,_,_,_,_,q,hq=>absurd hq List.not_mem_nil
 |n+1,r,x,met,hl,q,hq=>by
  have hq:q∈nA p (mZ p n) r x met:=hq
  unfold nA at hq
  have fin:∀(s:cv) (pos stop to:Int),r.2.2.2.1.length≠12→(eK r s pos stop to).1=r.1∧1≤(eK r s pos stop to).2.2.2.1.length∧(eK r s pos stop to).2.2.2.1.length≤12:=fun s pos stop to h=>by
   rw[QA,jJ,List.length_append]
   refine⟨rfl,?_,?_⟩
   ·show 1≤_+1;omega
   ·show _+1≤12;omega
  cases h1:bG met x.1||decide (r.2.2.2.1.length=12) with
  |true=>rw[h1] at hq;cases hq
  |false=>
   rw[h1] at hq
   have AB:=of_decide_eq_false (Bool.or_eq_false_iff.1 h1).2
   cases h2:aI p x.1==4 with
   |true=>
    rw[h2] at hq
    have hq:q=eK r (x.1,x.2, -1) 0 2 (-1):=by simpa using hq
    rw[hq]
    exact fin _ _ _ _ AB
   |false=>
    rw[h2] at hq
    have hq:q∈jc p (mZ p n) r x (met++[x.1]) (bF p x.1 x.2).length:=hq
    unfold jc at hq
    rw[List.take_length] at hq
    obtain⟨w,hw,hq⟩:=List.mem_flatMap.1 hq
    unfold qJ at hq
    cases h3:decide (0≤b8 p (x.1,w.1)) with
    |true=>
     rw[h3] at hq
     have hq:q=eK r (x.1,x.2,w.1) w.2 1 (b8 p (x.1,w.1)):=by simpa using hq
     rw[hq]
     exact fin _ _ _ _ AB
    |false=>
     rw[h3] at hq
     cases h4:(bu p (x.1,w.1)).2 with
     |false=>
      rw[h4] at hq
      have hq:q=eK r (x.1,x.2,w.1) w.2 3 (-1):=by simpa using hq
      rw[hq]
      exact fin _ _ _ _ AB
     |true=>
      rw[h4] at hq
      have hq:q∈mZ p n (eK r (x.1,x.2,w.1) w.2 0 (-1)) (bu p (x.1,w.1)).1 (met++[x.1]):=hq
      have h5:=fin (x.1,x.2,w.1) w.2 0 (-1) AB
      have:=Kc n _ _ _ h5.2.2 q hq
      rw[h5.1] at this
      exact this
theorem Sx {p:ab} {q:af} (hq:q∈(cZ p).1):(0≤q.1∧q.1<(p.2.2.1.length:Int))∧1≤q.2.2.2.1.length∧q.2.2.2.1.length≤12:=by
 unfold cZ at hq
 cases h:cd (jW p) p.2.2.1.length with
 |true=>rw[h] at hq;cases hq
 |false=>
  rw[h] at hq
  have hq:q∈fL p p.2.2.1.length:=hq
  unfold fL at hq
  obtain⟨s,hs,hq⟩:=List.mem_flatMap.1 hq
  have hs:=List.mem_range.1 hs
  unfold pr at hq
  cases h1:(lB p (s:Int)).2 with
  |false=>rw[h1] at hq;cases hq
  |true=>
   rw[h1] at hq
   cases h2:(bu p (lB p (s:Int)).1).2 with
   |false=>rw[h2] at hq;cases hq
   |true=>
    rw[h2] at hq
    have:=Kc 13 (wo (s:Int)) _ _ (by show 0≤12;omega) q hq
    obtain⟨e,h3,h4⟩:=this
    have e:q.1=(s:Int):=e
    exact⟨⟨by omega,by omega⟩,h3,h4⟩
structure TU (p:ab) (r:af) (s:au):Prop where
 still:still p r s
 each:∀e∈cL s,(0≤e∧e<(p.1.length:Int))∧kD r e=false
 nodup:(cL s).Nodup
 len:(cL s).length≤12
theorem OQ {p:ab} (hJ:bR p=true) {y:ak} (hn:mQ p y):0≤y.1∧y.1<(p.1.length:Int):=by
 obtain⟨x,hx,rfl⟩:=hn
 have:=lT (xo hJ (x:=x) (by rw[mP,hx];rfl))
 exact⟨this.1,this.2.1⟩
theorem LZ {p:ab} (hJ:bR p=true) (r:af):Kept p (TU p r) where
 qG s h:=h.still.1
 bare s h:=⟨h.still,h.each,h.nodup,h.len⟩
 hold s z h:=⟨h.still,h.each,h.nodup,h.len⟩
 met s m h:=⟨h.still,h.each,h.nodup,h.len⟩
 guard s y h _ _ _ _ _ _:=⟨h.still,h.each,h.nodup,h.len⟩
 nk s y h hn ho hm hl:=by
  refine⟨h.still,fun e he=> ?_,?_,?_⟩
  ·rcases List.mem_append.1 (show e∈cL s++[y.1] from he) with he|he
   ·exact h.each e he
   ·rw[List.mem_singleton.1 he]
    exact⟨OQ hJ hn,by rw[←Ho h.still];exact ho⟩
  ·show(cL s++[y.1]).Nodup
   rw[List.nodup_append]
   refine⟨h.nodup,by simp,fun a ha b hb e=> ?_⟩
   rw[List.mem_singleton.1 hb] at e
   unfold bG at hm
   have:=List.any_eq_false.1 hm a ha
   rw[e] at this
   simp at this
  ·show(cL s++[y.1]).length≤12
   rw[List.length_append]
   show _+1≤12
   omega
structure EM (p:ab) (r:af):Prop where
 sig:0≤r.1∧r.1<(p.2.2.1.length:Int)
 len:1≤r.2.2.2.1.length∧r.2.2.2.1.length≤12
 steps:∀s∈r.2.2.2.1,0≤s.1∧s.1<(p.1.length:Int)
 once:(cm r).Nodup
 nk:∀e∈r.2.2.2.2.2.2.1,(0≤e∧e<(p.1.length:Int))∧bG (cm r) e=false
 akr:r.2.2.2.2.2.2.1.Nodup
 yl:r.2.2.2.2.2.2.1.length≤12
 uv:Qj p (bC r)
 small:r.2.2.2.2.1.length≤1000∧r.2.2.2.2.2.1.length≤1000
 ahF:∀n∈r.2.2.2.2.1,bG (cm r) n.1=true
 afv:∀n∈r.2.2.2.2.2.1,bG (cm r) n.1=false
theorem Nf {p:ab} (hJ:bR p=true) {r:af} {s:au} {y:ak} (h:tW p r s) (hn:mQ p y) (hk:aI p y.1=2) (h0:(y.2==0)=false)
  (n1:bn (aP s) (y.1,y.2)=false) (n2:bn (aP s) (y.1,3 - y.2)=false):∀g∈aP s,g.1≠y.1:=fun g hg e=>by
 have hh:dx p y=true:=by
  obtain⟨x,hx,rfl⟩:=hn
  exact xo hJ (x:=x) (by rw[mP,hx];rfl)
 have hy:=Fh hh hk h0
 have hg2:=(h.each g hg).1
 have:g=(y.1,y.2)∨g=(y.1,3 - y.2):=by
  have e2:g.2=y.2∨g.2=3 - y.2:=by omega
  rcases e2 with e2|e2
  ·exact .inl (by rw[←e,←e2])
  ·exact .inr (by rw[←e,←e2])
 rcases this with e'|e'
 ·exact Cx n1 (by rw[←e'];exact hg)
 ·exact Cx n2 (by rw[←e'];exact hg)
theorem Ie {p:ab} (hJ:bR p=true) (r:af):Kept p (fun s=>tW p r s∧((aP s).map Prod.fst).Nodup) where
 qG s h:=h.1.still.1
 bare s h:=⟨(nE hJ r).bare s h.1,h.2⟩
 nk s y h a b c d:=⟨(nE hJ r).nk s y h.1 a b c d,h.2⟩
 hold s z h:=⟨(nE hJ r).hold s z h.1,h.2⟩
 met s m h:=⟨(nE hJ r).met s m h.1,h.2⟩
 guard s y h hn ho hk h0 n1 n2:=by
  refine⟨(nE hJ r).guard s y h.1 hn ho hk h0 n1 n2,?_⟩
  have fresh:=Nf hJ h.1 hn hk h0 n1 n2
  show((aP s++[(y.1,3 - y.2)]).map Prod.fst).Nodup
  rw[List.map_append,List.nodup_append]
  refine⟨h.2,by simp,fun a ha b hb e=> ?_⟩
  obtain⟨g,hg,rfl⟩:=List.mem_map.1 ha
  have hb:b=y.1:=by simpa using hb
  exact fresh g hg (e.trans hb)
theorem Bp:∀{n:Nat} {l:List Int},l.Nodup→(∀e∈l,0≤e∧e<(n:Int))→l.length≤n
 |0,l,_,hr=>by
  cases l with
  |nil=>exact Nat.le_refl _
  |cons x l=>have:=hr x List.mem_cons_self;omega
 |n+1,l,hn,hr=>by
  have h1:(l.filter fun e=> !(e==(n:Int))).length≤n:=Bp (hn.filter _) fun e he=>by
   have he:=List.mem_filter.1 he
   have:=hr e he.1
   have h2:e≠(n:Int):=fun e2=>by rw[e2] at he;simp at he
   omega
  by_cases hm:(n:Int)∈l
  ·have h2:l.filter (fun e=> !(e==(n:Int)))=l.erase (n:Int):=by
    rw[hn.erase_eq_filter]
    refine List.filter_congr fun e _=> ?_
    rfl
   rw[h2,List.length_erase_of_mem hm] at h1
   omega
  ·have h2:l.filter (fun e=> !(e==(n:Int)))=l:=List.filter_eq_self.2 fun e he=>by
    have:e≠(n:Int):=fun e2=>hm (e2▸he)
    simpa using this
   rw[h2] at h1
   omega
theorem PC {p:ab} {r:af} (h:pL p) (hr:r∈(ct p).1):r.2.2.2.2.2.1.length≤1000:=by
 obtain⟨_,_,hJ,_,_⟩:=gr h.check
 obtain⟨q,hq,rfl⟩:=h.qF r hr
 have hg:tW p q (bE p q (bA p q).length)∧((aP (bE p q (bA p q).length)).map Prod.fst).Nodup:=
  qm (Ie hJ q) ⟨⟨⟨rfl,rfl,rfl,rfl,rfl,rfl⟩,fun g hg=>absurd hg List.not_mem_nil,fun g hg=>absurd hg List.not_mem_nil⟩,List.nodup_nil⟩ _
 have eg:(dT p q).2.2.2.2.2.1=aP (bE p q (bA p q).length):=by unfold dT iT;rfl
 rw[eg]
 have:=Bp (n:=p.1.length) hg.2 fun e he=>by
  obtain⟨g,RX,rfl⟩:=List.mem_map.1 he
  exact qi (by rw[(hg.1.each g RX).2.1];decide)
 rw[List.length_map] at this
 have hs:=(jB (gr h.check).1).1
 omega
theorem Hi {p:ab} (h:pL p) {r:af} (hr:r∈(ct p).1):EM p r:=by
 obtain⟨_,_,hJ,_,_⟩:=gr h.check
 have dA:=J2 h hr
 have hnd:=OA h hr
 have hlen:=J3 h hr
 have Pv:=PC h hr
 obtain⟨q,hq,rfl⟩:=h.qF r hr
 have hs:=th p q
 have RN:=Sx hq
 have hz:TU p q (bE p q (bA p q).length):=
  qm (LZ hJ q) ⟨⟨rfl,rfl,rfl,rfl,rfl,rfl⟩,fun g hg=>absurd hg List.not_mem_nil,List.nodup_nil,Nat.zero_le _⟩ _
 have hg:tW p q (bE p q (bA p q).length):=
  qm (nE hJ q) ⟨⟨rfl,rfl,rfl,rfl,rfl,rfl⟩,fun g hg=>absurd hg List.not_mem_nil,fun g hg=>absurd hg List.not_mem_nil⟩ _
 have ez:(dT p q).2.2.2.2.2.2.1=cL (bE p q (bA p q).length):=by unfold dT iT;rfl
 have eg:(dT p q).2.2.2.2.2.1=aP (bE p q (bA p q).length):=by unfold dT iT;rfl
 have eo:∀e,bG (cm (dT p q)) e=kD q e:=fun e=>by unfold kD cm;rw[hs.2.2.2.1]
 refine⟨by rw[hs.1];exact RN.1,by rw[hs.2.2.2.1];exact RN.2,fun s nC=> ?_,?_,?_,by rw[ez];exact hz.nodup,by rw[ez];exact hz.len,hnd,⟨hlen.2,Pv⟩,fun n hn=> ?_,fun n hn=> ?_⟩
 ·rcases dA.pass s nC with hk|⟨w,hw,_⟩
  ·exact qi (by rw[hk];decide)
  ·have hh:dx p (s.1,s.2.1)=true:=by
    cases hh:dx p (s.1,s.2.1) with
    |true=>rfl
    |false=>unfold bF at hw;rw[hh] at hw;cases hw
   have:=lT hh
   exact⟨this.1,this.2.1⟩
 ·unfold cm
  exact dA.nodup
 ·intro e he
  rw[ez] at he
  rw[eo]
  exact hz.each e he
 ·obtain⟨⟨s,nC,e⟩,_⟩:=dA.Kg n hn
  unfold bG cm
  exact List.any_eq_true.2 ⟨n.1,List.mem_map.2 ⟨s,nC,e⟩,by simp⟩
 ·rw[eg] at hn
  rw[eo]
  exact(hg.each n hn).2.2
abbrev eW:=List Int×List Int×List aY×List aY
def jK (c9:Int→Option eW) (o:Int) (v:Option eW) (k:Int):Option eW:=if k=o then v else c9 k
theorem GY (c9:Int→Option eW) (o:Int) (v:Option eW):jK c9 o v o=v:=if_pos rfl
structure cI (c9:Int→Option eW) (b:av):Prop where
 k1:(b.2.1.map Prod.fst).Nodup
 k2:(b.2.2.1.map Prod.fst).Nodup
 k3:(b.2.2.2.1.map Prod.fst).Nodup
 k4:(b.2.2.2.2.map Prod.fst).Nodup
 g1:∀o,aT I b.2.1 o=(c9 o).map fun x=>x.1
 g2:∀o,aT I b.2.2.1 o=(c9 o).map fun x=>x.2.1
 g3:∀o,aT I b.2.2.2.1 o=(c9 o).map fun x=>x.2.2.1
 g4:∀o,aT I b.2.2.2.2 o=(c9 o).map fun x=>x.2.2.2
theorem mF:Ty.isKey I=true:=rfl
theorem cI.clear {c9:Int→Option eW} {b:av} (h:cI c9 b) (o:Int):cI (jK c9 o none) (Ak b o):=by
 have key:∀{β:Type} {m:List (Int×β)} {f:eW→β},(m.map Prod.fst).Nodup→(∀o,aT I m o=(c9 o).map f)→∀k,aT I (iQ I m o) k=(jK c9 o none k).map f:=fun {β m f} hn hg k=>by
  rw[z6 mF _ _ _ hn,hg,O6]
  unfold jK
  by_cases hk:k=o
  ·subst hk;simp
  ·rw[beq_false_of_ne hk,if_neg hk];rfl
 exact⟨tF _ _ mF h.k1,tF _ _ mF h.k2,tF _ _ mF h.k3,tF _ _ mF h.k4,key h.k1 h.g1,key h.k2 h.g2,key h.k3 h.g3,key h.k4 h.g4⟩
theorem wu {c9:Int→Option eW} {o:Int} {x:eW} {β:Type} {m:List (Int×β)} {f:eW→β} (hg:∀o,aT I m o=(c9 o).map f) (k:Int):aT I (dc I m o (f x)) k=(jK c9 o (some x) k).map f:=by
 rw[wz mF,hg,O6]
 unfold jK
 by_cases hk:k=o
 ·subst hk;simp
 ·rw[beq_false_of_ne hk,if_neg hk];rfl
theorem JZ {c9:Int→Option eW} {o:Int} {x:eW} {β:Type} {m:List (Int×β)} {f:eW→β} (hg:∀o,aT I m o=(c9 o).map f) (hx:(c9 o).map f=some (f x)) (k:Int):aT I m k=(jK c9 o (some x) k).map f:=by
 rw[hg]
 unfold jK
 by_cases hk:k=o
 ·subst hk;rw[if_pos rfl];exact hx
 ·rw[if_neg hk]
def vB (r:af):eW:=(cm r,r.2.2.2.2.2.2.1,r.2.2.2.2.1,r.2.2.2.2.2.1)
theorem cI.take {c9:Int→Option eW} {b:av} (h:cI c9 b) (o:Int) (r:af):cI (jK c9 o (some (vB r))) (taken b o r):=
 ⟨qk mF _ _ _ h.k1,qk mF _ _ _ h.k2,qk mF _ _ _ h.k3,qk mF _ _ _ h.k4,
  wu (x:=vB r) (f:=fun x=>x.1) h.g1,wu (x:=vB r) (f:=fun x=>x.2.1) h.g2,wu (x:=vB r) (f:=fun x=>x.2.2.1) h.g3,wu (x:=vB r) (f:=fun x=>x.2.2.2) h.g4⟩
theorem cI.steps {c9:Int→Option eW} {b:av} (h:cI c9 b) (o:Int):j9 b.2.1 o=((c9 o).map fun x=>x.1).getD []:=by unfold j9;rw[h.g1]
theorem cI.nk {c9:Int→Option eW} {b:av} (h:cI c9 b) (o:Int):j9 b.2.2.1 o=((c9 o).map fun x=>x.2.1).getD []:=by unfold j9;rw[h.g2]
theorem cI.uv {c9:Int→Option eW} {b:av} (h:cI c9 b) (o:Int):j9 b.2.2.2.1 o=((c9 o).map fun x=>x.2.2.1).getD []:=by unfold j9;rw[h.g3]
theorem cI.guards {c9:Int→Option eW} {b:av} (h:cI c9 b) (o:Int):j9 b.2.2.2.2 o=((c9 o).map fun x=>x.2.2.2).getD []:=by unfold j9;rw[h.g4]
def AZ (x:eW):Bool:=decide (0<x.1.length+x.2.1.length+x.2.2.2.length)
def aiL (o:Option eW):Bool:=match o with
 |some x=>AZ x
 |none=>false
theorem cI.has {c9:Int→Option eW} {b:av} (h:cI c9 b) (o:Int):gE b o=aiL (c9 o):=by
 unfold gE
 rw[h.steps,h.nk,h.guards]
 cases c9 o with
 |none=>rfl
 |some x=>
  show decide (((x.1.length:Int)+(x.2.1.length:Int)+(x.2.2.2.length:Int))>0)=decide (0<x.1.length+x.2.1.length+x.2.2.2.length)
  by_cases hp:0<x.1.length+x.2.1.length+x.2.2.2.length
  ·rw[decide_eq_true hp];exact decide_eq_true (by omega)
  ·rw[decide_eq_false hp];exact decide_eq_false (by omega)
theorem Ul {c9:Int→Option eW} {o:Int} (h:c9 o=none):jK c9 o none=c9:=by
 funext k
 unfold jK
 by_cases hk:k=o
 ·subst hk;rw[if_pos rfl,h]
 ·rw[if_neg hk]
theorem GX {c9:Int→Option eW} {o:Int} {u v:Option eW}:jK (jK c9 o u) o v=jK c9 o v:=by
 funext k
 unfold jK
 by_cases hk:k=o
 ·rw[if_pos hk,if_pos hk]
 ·rw[if_neg hk,if_neg hk,if_neg hk]
def Full (c9:Int→Option eW):Prop:=∀o x,c9 o=some x→AZ x=true
theorem cI.drop {c9:Int→Option eW} {b:av} (h:cI c9 b) (hf:Full c9) (o:Int):cI (jK c9 o none) (lr b o):=by
 unfold lr
 rw[h.has]
 cases he:c9 o with
 |none=>
  rw[Ul he]
  exact h
 |some x=>
  show cI _ (bif AZ x then _ else _)
  rw[hf o x he]
  exact h.clear o
def sL (x:eW) (e:Int):eW:=(x.1.eraseIdx (fj (xy e) x.1).toNat,x.2.1,x.2.2.1.filter (rB e),x.2.2.2)
def Io (o:Option eW) (e:Int):Option eW:=match o with
 |none=>none
 |some x=>if bG x.1 e=true then(if AZ (sL x e)=true then some (sL x e) else none) else some x
theorem Ec (l:List Int) (e:Int):decide (fj (xy e) l<0)= !bG l e:=by
 have h:=p6 (p:=xy e) (xs:=l)
 have h2:l.any (xy e)=bG l e:=by
  unfold bG
  congr 1
  funext y
  unfold xy
  rw[fF]
 rw[←h2,←h]
 by_cases hp:fj (xy e) l<0
 ·rw[decide_eq_true hp,decide_eq_false (by omega)];rfl
 ·rw[decide_eq_false hp,decide_eq_true (by omega)];rfl
theorem cI.free {c9:Int→Option eW} {b:av} (h:cI c9 b) (o e:Int):cI (jK c9 o (Io (c9 o) e)) (nF b o e):=by
 have uI:∀{v:Option eW},c9 o=v→jK c9 o v=c9:=fun {v} hv=>by
  funext k
  unfold jK
  by_cases hk:k=o
  ·subst hk;rw[if_pos rfl,hv]
  ·rw[if_neg hk]
 cases he:c9 o with
 |none=>
  have h0:decide (ib b o e<0)=true:=by
   unfold ib
   rw[Ec,h.steps,he]
   unfold bG
   rfl
  rw[(Im h0).1,show Io none e=none from rfl,uI he]
  exact h
 |some x=>
  have ju:j9 b.2.1 o=x.1:=by rw[h.steps,he];rfl
  cases hm:bG x.1 e with
  |false=>
   have h0:decide (ib b o e<0)=true:=by
    unfold ib
    rw[Ec,ju,hm];rfl
   rw[(Im h0).1]
   have:Io (some x) e=some x:=by
    show(if bG x.1 e=true then _ else _)=_
    rw[hm,if_neg Bool.false_ne_true]
   rw[this,uI he]
   exact h
  |true=>
   have h0:decide (ib b o e<0)=false:=by
    unfold ib
    rw[Ec,ju,hm];rfl
   have hF:cI (jK c9 o (some (sL x e))) (om b o e):=by
    have e1:om b o e=(b.1,dc I b.2.1 o (sL x e).1,b.2.2.1,dc I b.2.2.2.1 o (sL x e).2.2.1,b.2.2.2.2):=by
     unfold om sL ib
     rw[ju,h.uv,he]
     rfl
    rw[e1]
    exact⟨qk mF _ _ _ h.k1,h.k2,qk mF _ _ _ h.k3,h.k4,wu (f:=fun x=>x.1) h.g1,JZ (f:=fun x=>x.2.1) h.g2 (by rw[he];rfl),wu (f:=fun x=>x.2.2.1) h.g3,JZ (f:=fun x=>x.2.2.2) h.g4 (by rw[he];rfl)⟩
   rw[(Ky h0).1,hF.has,GY]
   have e2:Io (some x) e=if AZ (sL x e)=true then some (sL x e) else none:=by
    show(if bG x.1 e=true then _ else _)=_
    rw[hm,if_pos rfl]
   rw[e2]
   show cI _ (bif AZ (sL x e) then _ else _)
   cases hq:AZ (sL x e) with
   |true=>rw[if_pos rfl];exact hF
   |false=>
    rw[if_neg Bool.false_ne_true]
    have:=hF.clear o
    rw[GX] at this
    exact this
structure Ar (m:Nat) (c9:Int→Option eW):Prop where
 who:∀o x,c9 o=some x→0≤o∧o<(m:Int)
 Kh:∀o x,c9 o=some x→x.1.length≤1000∧x.2.1.length≤1000∧x.2.2.1.length≤1000∧x.2.2.2.length≤1000
theorem OZ {β:Type} {m:List (Int×β)} (hn:(m.map Prod.fst).Nodup) {x:Int×β} (hx:x∈m):aT I m x.1=some x.2:=o2 mF hn hx
theorem Bt {c9:Int→Option eW} {n:Nat} (hs:Ar n c9) {β:Type} {m:List (Int×β)} {f:eW→β} (hn:(m.map Prod.fst).Nodup) (hg:∀o,aT I m o=(c9 o).map f):m.length≤n:=by
 have:=Bp (n:=n) hn fun e he=>by
  obtain⟨x,hx,rfl⟩:=List.mem_map.1 he
  have h1:=OZ hn hx
  rw[hg] at h1
  obtain⟨y,hy,_⟩:=Option.map_eq_some_iff.1 h1
  exact hs.who _ _ hy
 rw[List.length_map] at this
 exact this
theorem cI.c9 {c9:Int→Option eW} {β:Type} {m:List (Int×β)} {f:eW→β} (hn:(m.map Prod.fst).Nodup) (hg:∀o,aT I m o=(c9 o).map f) {x:Int×β} (hx:x∈m):∃y,c9 x.1=some y∧f y=x.2:=by
 have h1:=OZ hn hx
 rw[hg] at h1
 exact Option.map_eq_some_iff.1 h1
theorem cI.small {c9:Int→Option eW} {b:av} (h:cI c9 b) {n:Nat} (hs:Ar n c9) (hn:n≤900):tT b:=by
 have l1:=Bt hs h.k1 h.g1
 have l2:=Bt hs h.k2 h.g2
 have l3:=Bt hs h.k3 h.g3
 refine⟨⟨fun x hx=> ?_,fun x hx=> ?_,fun x hx=> ?_,fun x hx=> ?_,by omega,by omega,by omega⟩,by omega,by omega⟩
 ·obtain⟨y,hy,e⟩:=cI.c9 h.k1 h.g1 hx
  rw[←e];exact(hs.Kh _ _ hy).1
 ·obtain⟨y,hy,e⟩:=cI.c9 h.k2 h.g2 hx
  rw[←e];exact(hs.Kh _ _ hy).2.1
 ·obtain⟨y,hy,e⟩:=cI.c9 h.k3 h.g3 hx
  rw[←e];exact(hs.Kh _ _ hy).2.2.1
 ·obtain⟨y,hy,e⟩:=cI.c9 h.k4 h.g4 hx
  rw[←e];exact(hs.Kh _ _ hy).2.2.2
structure A6 (c9:Int→Option eW):Prop where
 one:∀o x k y e,c9 o=some x→c9 k=some y→bG x.1 e=true→bG y.1 e=true→o=k
 held:∀o x k y,c9 o=some x→c9 k=some y→∀u∈x.2.2.1++x.2.2.2,∀v∈y.2.2.1++y.2.2.2,u.1=v.1→u.2=v.2
theorem cI.one {c9:Int→Option eW} {b:av} (h:cI c9 b) (hx:A6 c9):kj b:=by
 intro e x hx1 y MW h1 h2
 obtain⟨u,hu,e1⟩:=cI.c9 h.k1 h.g1 hx1
 obtain⟨v,hv,e2⟩:=cI.c9 h.k1 h.g1 MW
 exact hx.one _ _ _ _ e hu hv (by rw[e1];exact h1) (by rw[e2];exact h2)
def H6 (x:eW) (e:Int):Option aY:=(x.2.2.1++x.2.2.2).find? fun n=>n.1==e
theorem cI.lS {c9:Int→Option eW} {b:av} (h:cI c9 b) (o e:Int):lS b o e=(c9 o).bind fun x=>H6 x e:=by
 unfold YtjnappfomhkeeaaGreat.lS lP
 rw[h.uv,h.guards]
 cases c9 o with
 |none=>rfl
 |some x=>rfl
theorem cI.pG {c9:Int→Option eW} {b:av} (h:cI c9 b) (hx:A6 c9) (e:Int):pG b e:=by
 intro x hx1 y MW u v hu hv
 rw[h.lS] at hu hv
 obtain⟨p,hp,hu⟩:=Option.bind_eq_some_iff.1 hu
 obtain⟨q,hq,hv⟩:=Option.bind_eq_some_iff.1 hv
 have e1:=List.find?_some hu
 have e2:=List.find?_some hv
 have e1:u.1=e:=by simpa using e1
 have e2:v.1=e:=by simpa using e2
 exact hx.held _ _ _ _ hp hq u (List.mem_of_find?_eq_some hu) v (List.mem_of_find?_eq_some hv) (e1.trans e2.symm)
theorem cI.ok {c9:Int→Option eW} {b:av} (h:cI c9 b) {n:Nat} (hs:Ar n c9) (hn:n≤900) (hx:A6 c9):pT b:=
 ⟨(h.small hs hn).1,h.one hx,h.pG hx,fun _=>(h.small hs hn).1.rU.2.1⟩
theorem cI.owner {c9:Int→Option eW} {b:av} (h:cI c9 b) (hx:A6 c9) {o:Int} {x:eW} {e:Int} (ho:c9 o=some x) (hm:bG x.1 e=true):eT b e=o:=by
 have h1:aT I b.2.1 o=some x.1:=by rw[h.g1,ho];rfl
 exact Ka (h.one hx e) (x:=(o,x.1)) (fI mF h1) hm
theorem cI.ZZ {c9:Int→Option eW} {b:av} (h:cI c9 b) {e:Int} (nD:∀o x,c9 o=some x→bG x.1 e=false):eT b e= -1:=by
 refine Fj (List.any_eq_false.2 fun x hx=> ?_)
 obtain⟨y,hy,e1⟩:=cI.c9 h.k1 h.g1 hx
 rw[←e1,nD _ _ hy]
 exact Bool.false_ne_true
theorem cI.xm {c9:Int→Option eW} {b:av} (h:cI c9 b) (hx:A6 c9) (e:Int):(∃o x,c9 o=some x∧bG x.1 e=true∧eT b e=o)∨((∀o x,c9 o=some x→bG x.1 e=false)∧eT b e= -1):=by
 by_cases hex:∃o x,c9 o=some x∧bG x.1 e=true
 ·obtain⟨o,x,h1,h2⟩:=hex
  exact .inl ⟨o,x,h1,h2,h.owner hx h1 h2⟩
 ·have nD:∀o x,c9 o=some x→bG x.1 e=false:=fun o x h1=>by
   cases hm:bG x.1 e with
   |false=>rfl
   |true=>exact absurd ⟨o,x,h1,hm⟩ hex
  exact .inr ⟨nD,h.ZZ nD⟩
theorem Ma (l:List Int):(mJ l l.length).Perm l:=ve l _ (Nat.le_refl _)
theorem cI.Qq {c9:Int→Option eW} {b:av} (h:cI c9 b) (e o:Int):o∈kb b e↔∃x,c9 o=some x∧bG x.2.1 e=true:=by
 unfold kb
 rw[(Ma _).mem_iff]
 unfold eD
 rw[List.mem_map]
 constructor
 ·rintro⟨x,hx,rfl⟩
  have hx:=List.mem_filter.1 hx
  obtain⟨y,hy,e1⟩:=cI.c9 h.k2 h.g2 hx.1
  exact⟨y,hy,by rw[e1];exact hx.2⟩
 ·rintro⟨x,hx,hm⟩
  have h1:aT I b.2.2.1 o=some x.2.1:=by rw[h.g2,hx];rfl
  exact⟨(o,x.2.1),List.mem_filter.2 ⟨fI mF h1,hm⟩,rfl⟩
end YtjnappfomhkeeaaGreat
end Go.Proofs
end
