/-
  The program's plans: small functions, names, numbers, rows, lengths; The program's plans: numbers, joins, signals, rows, lines, lengths; Check; The program's pl.
-/
import Derived.Test.YtjnappfomhkeeaaGreatM3
import Derived.Shelf.Sort.Plain
import Derived.Shelf.Slices.In.SortNone
import Derived.Shelf.Slices.Delete
import Derived.Shelf.SlMaps.Clone

section
set_option maxRecDepth 100000
set_option linter.unusedVariables false
set_option linter.unusedSimpArgs false
set_option maxHeartbeats 2000000
namespace Go.Proofs
open Go Go.Vc
namespace YtjnappfomhkeeaaGreat
theorem agk (k:Int):ah (aj aA []) Tryz.f235 yq ar (k,())=(
((k==(1:Int))=true->(2:Int)=cQ k/\True)/\
((k==(1:Int))=false->
((k==(2:Int))=true->(3:Int)=cQ k/\True)/\
((k==(2:Int))=false->
((k==(3:Int))=true->(4:Int)=cQ k/\True)/\
((k==(3:Int))=false->((k==(4:Int))=true->(1:Int)=cQ k/\True)/\((k==(4:Int))=false->(0:Int)=cQ k/\True))))):=by kernel_rfl
theorem Re:aN Tryz.prog 235 yq:=
 aN.b3 (l:=[]) (A:=fun _=>ar) aJ trivial Tryz.func235 (by kernel_rfl) (by kernel_rfl) fun x _ hp=>by
  obtain⟨k,u⟩:=x
  show ah (aj aA []) Tryz.f235 yq ar (k,())
  rw[agk]
  unfold cQ
  cases k==1<;>cases k==2<;>cases k==3<;>cases k==4<;>simp
theorem v236 (p:ab) (x:Int×Int):ah (aj aA [(235,yq)]) Tryz.f236 DD ar (p,x,())=(
U (bif bif decide (x.1>=(0:Int)) then decide (x.1<(↑p.1.length:Int)) else false then decide (x.2>=(0:Int)) else false) fun(y2:Bool)=>
U (cQ (p.1.getD x.1.toNat ([],(0:Int),(0:Int))).2.1) fun(y3:Int)=>
(y2=true->aL x.1 p.1.length)/\(y2=true->True)/\(bif y2 then decide (x.2<y3) else false)=dC p x/\True):=by kernel_rfl
theorem ajN (p:ab) (x:ak):ah (aj aA [(235,yq)]) Tryz.f236 DD ar (p,x,()):=by
 rw[v236]
 refine U.mk fun y2 e2=>U.mk fun y3 e3=> ?_
 refine⟨fun h=> ?_,fun _=>trivial,?_,trivial⟩
 ·rw[e2] at h
  by_cases h1:x.1>=0
  ·by_cases h2:x.1<(p.1.length:Int)
   ·exact⟨h1,h2⟩
   ·rw[decide_eq_false h2] at h;cases hb:decide (x.1>=0)<;>rw[hb] at h<;>cases h
  ·rw[decide_eq_false h1] at h;cases h
 ·have hE:y2=true->y3=cQ (aK p x.1):=fun h=>by
   rw[e2] at h
   rw[e3]
   unfold aK
   by_cases h1:x.1>=0
   ·by_cases h2:x.1<(p.1.length:Int)
    ·rw[decide_eq_false (show ¬x.1<0 by omega),decide_eq_false (show ¬(p.1.length:Int)<=x.1 by omega)]
     rfl
    ·rw[decide_eq_false h2] at h;cases hb:decide (x.1>=0)<;>rw[hb] at h<;>cases h
   ·rw[decide_eq_false h1] at h;cases h
  unfold dC
  cases hy:y2 with
  |true=>
   rw[hE hy]
   rw[hy,wY,wY] at e2
   generalize decide (x.2<cQ (aK p x.1))=q
   revert e2
   generalize decide (0<=x.1)=a;generalize decide (x.1<(p.1.length:Int))=b;generalize decide (0<=x.2)=c
   cases a<;>cases b<;>cases c<;>simp
  |false=>
   rw[hy,wY,wY] at e2
   revert e2
   generalize decide (0<=x.1)=a;generalize decide (x.1<(p.1.length:Int))=b;generalize decide (0<=x.2)=c
   cases a<;>cases b<;>cases c<;>simp
theorem W7:aN Tryz.prog 236 DD:=
 aN.b3 (l:=[(235,yq)]) (A:=fun _=>ar) aJ ⟨Re,trivial⟩ Tryz.func236 (by kernel_rfl) (by kernel_rfl) fun x _ hp=>ajN x.1 x.2.1
theorem af5 (c:Int):ah (aj aA []) Tryz.f260 K1 ar (c,())=(
(bif bif decide (c>=(97:Int)) then decide (c<=(122:Int)) else false then true else bif decide (c>=(65:Int)) then decide (c<=(90:Int)) else false)=IG c/\True):=by kernel_rfl
theorem acr:aN Tryz.prog 260 K1:=
 aN.b3 (l:=[]) (A:=fun _=>ar) aJ trivial Tryz.func260 (by kernel_rfl) (by kernel_rfl) fun x _ hp=>by
  obtain⟨c,u⟩:=x
  show ah (aj aA []) Tryz.f260 K1 ar (c,())
  rw[af5,wY,wY]
  unfold IG
  refine⟨?_,trivial⟩
  generalize decide (97<=c)=a;generalize decide (c<=122)=b;generalize decide (65<=c)=d;generalize decide (c<=90)=e
  cases a<;>cases b<;>cases d<;>cases e<;>rfl
theorem v234 (s:List UInt8):ah (aj aA [(260,K1)]) Tryz.f234 K9 (a234 (s,())) (s,())=(
U (bif s==[] then true else decide ((↑s.length:Int)>(8:Int))) fun(y1:Bool)=>
U (bif y1 then true else !IG (↑(s.getD (Int.toNat (0:Int)) (0:UInt8)).toNat:Int)) fun(y2:Bool)=>
(y1=false->aL (0:Int) s.length)/\
(y1=false->True)/\
(y2=true->false=kB s/\True)/\
(y2=false->
(∃(fB:Nat),(fB<=s.length/\Nx (dX (jv s)) fB)/\(↑fB:Int)=(1:Int)/\s=s/\True)/\
∀(s3:Nat),
U (decide ((↑s3:Int)<(↑s.length:Int))) fun(y4:Bool)=>
U (!IG (↑(s.getD (↑s3:Int).toNat (0:UInt8)).toNat:Int)) fun(y5:Bool)=>
U (decide ((↑(s.getD (↑s3:Int).toNat (0:UInt8)).toNat:Int)<(48:Int))) fun(y6:Bool)=>
U (bif y5 then bif y6 then true else decide ((↑(s.getD (↑s3:Int).toNat (0:UInt8)).toNat:Int)>(57:Int)) else false) fun(y7:Bool)=>
s3<=s.length/\Nx (dX (jv s)) s3->
(y4=true->
aL (↑s3:Int) s.length/\
True/\
(y5=true->aL (↑s3:Int) s.length)/\
(y5=true->y6=false->aL (↑s3:Int) s.length)/\
(y7=true->false=kB s/\True)/\
(y7=false->
bo IntKind.i64 ((↑s3:Int)+(1:Int))/\
∃(jq:Nat),(jq<=s.length/\Nx (dX (jv s)) jq)/\s.length - jq<s.length - s3/\(↑jq:Int)=(↑s3:Int)+(1:Int)/\s=s/\True))/\
(y4=false->true=kB s/\True))):=by kernel_rfl
theorem HX (c:UInt8):IG (c.toNat:Int)=u3 c:=by
 unfold IG u3
 have g:∀(k:Nat),decide ((k:Int)<=(c.toNat:Int))=decide (k<=c.toNat):=fun k=>by
  by_cases h:k<=c.toNat
  ·rw[decide_eq_true h,decide_eq_true (by omega)]
  ·rw[decide_eq_false h,decide_eq_false (by omega)]
 have g':∀(k:Nat),decide ((c.toNat:Int)<=(k:Int))=decide (c.toNat<=k):=fun k=>by
  by_cases h:c.toNat<=k
  ·rw[decide_eq_true h,decide_eq_true (by omega)]
  ·rw[decide_eq_false h,decide_eq_false (by omega)]
 have a:decide ((97:Int)<=(c.toNat:Int))=decide (97<=c.toNat):=g 97
 have b:decide ((c.toNat:Int)<=(122:Int))=decide (c.toNat<=122):=g' 122
 have d:decide ((65:Int)<=(c.toNat:Int))=decide (65<=c.toNat):=g 65
 have e:decide ((c.toNat:Int)<=(90:Int))=decide (c.toNat<=90):=g' 90
 rw[a,b,d,e]
theorem ajO (s:n4) (hw:s.length<=aM):ah (aj aA [(260,K1)]) Tryz.f234 K9 (a234 (s,())) (s,()):=by
 rw[v234]
 have hN:kB s=(de (jv s) s.length&&(decide (1<=s.length)&&decide (s.length<=8))):=by unfold kB;rfl
 refine U.mk fun y1 e1=>U.mk fun y2 e2=> ?_
 simp only[true_and,and_true,eq_self,Int.toNat_natCast]
 have hz:(Int.toNat (0:Int))=0:=rfl
 rw[hz,HX] at e2
 have h8:decide ((s.length:Int)>8)= !decide (s.length<=8):=wc _ 8 8 rfl
 rw[h8] at e1
 have PC:y1=false->1<=s.length:=fun h=>by
  rw[h] at e1
  cases s with
  |nil=>cases e1
  |cons c s=>simp
 have n0:jv s 0=u3 (s.getD 0 0):=by unfold jv;simp
 refine⟨fun h=>⟨by omega,by have:=PC h;omega⟩,fun _=>trivial,fun h=> ?_,fun h=> ?_⟩
 ·rw[hN]
  rw[h] at e2
  cases hy:y1 with
  |true=>
   rw[hy] at e1
   cases hs:s with
   |nil=>rfl
   |cons c t=>
    rw[hs] at e1
    have:decide ((c::t).length<=8)=false:=by
     have e1:true=(bif(c::t)==[] then true else !decide ((c::t).length<=8)):=e1
     have:((c::t)==([]:n4))=false:=rfl
     rw[this] at e1
     simpa using e1.symm
    rw[this];simp
  |false=>
   rw[hy] at e2
   have hl:u3 (s.getD 0 0)=false:=by simpa using e2.symm
   rw[fX (k:=0) (by have:=PC hy;omega) (by rw[n0,hl])]
   rfl
 have Nb:y1=false:=by
  cases hy:y1 with
  |false=>rfl
  |true=>rw[h,hy] at e2;cases e2
 have hl:u3 (s.getD 0 0)=true:=by rw[h,Nb] at e2;simpa using e2.symm
 have BU:=PC Nb
 have hlen:decide (s.length<=8)=true:=by
  rw[Nb] at e1
  cases hs:s with
  |nil=>rw[hs] at BU;simp at BU
  |cons c t=>
   rw[hs] at e1
   have e1:false=(bif(c::t)==[] then true else !decide ((c::t).length<=8)):=e1
   have:((c::t)==([]:n4))=false:=rfl
   rw[this] at e1
   simpa using e1.symm
 refine⟨⟨1,⟨by omega,by omega,?_⟩,rfl⟩,fun i=>U.mk fun y4 e4=>U.mk fun y5 e5=>U.mk fun y6 e6=>U.mk fun y7 e7=> ?_⟩
 ·exact ff (k:=0) rfl (by rw[n0,hl])
 rintro⟨g0,g1,g2⟩
 have g2:de (jv s) i=true:=g2
 have hc:jv s i= !y7:=by
  rw[HX] at e5
  rw[ltN _ 48 48 rfl] at e6
  rw[wc _ 57 57 rfl] at e7
  rw[e7,e6,e5]
  unfold jv NH
  have:(i==0)=false:=by rw[beq_eq_false_iff_ne];omega
  rw[this]
  have key:∀l e f:Bool,(l||(!false&&(e&&f)))= !(bif !l then(bif !e then true else !f) else false):=by decide
  exact key _ _ _
 refine⟨fun hs=> ?_,fun hs=> ?_⟩
 ·have hs:=aZ e4 hs
  refine⟨⟨by omega,by omega⟩,fun _=>⟨by omega,by omega⟩,fun _ _=>⟨by omega,by omega⟩,fun h7=> ?_,fun h7=>⟨dw hs hw,i+1,⟨by omega,by omega,?_⟩,by omega,by omega⟩⟩
  ·rw[hN,fX hs (by rw[hc,h7];rfl)]
   rfl
  ·exact ff g2 (by rw[hc,h7];rfl)
 ·have hs:=bt e4 hs
  have:i=s.length:=by omega
  subst this
  rw[hN,g2,hlen,decide_eq_true BU]
  rfl
theorem acC:aN Tryz.prog 234 K9:=
 aN.b3 (l:=[(260,K1)]) (A:=a234) aJ ⟨acr,trivial⟩ Tryz.func234 (by kernel_rfl) (by kernel_rfl) fun x hw _=>ajO x.1 hw.1
theorem agi (v:Int) (b:Int):ah (aj aA []) Tryz.f238 K7 (Y7 (v,b,())) (v,b,())=(
U (bif bif bif decide (v<(0:Int)) then true else decide (v>(60:Int)) then true else decide (b<(1:Int)) then true else decide (b>(10:Int))) fun(y2:Bool)=>
(y2=true->(0:Int)=m9 v b/\True)/\
(y2=false->
bo IntKind.i64 (v - b)/\
(∃(fB:Nat),(fB<=(60:Nat)/\eb (gR v b) fB)/\v - b*((↑fB:Int)+(1:Int))=v - b/\ka v b fB=(0:Int)/\b=b/\True)/\
∀(s3:Nat),
U (v - b*((↑s3:Int)+(1:Int))) fun(y4:Int)=>
U (ka v b s3+y4) fun(y5:Int)=>
s3<=(60:Nat)/\eb (gR v b) s3->
(decide (y4>(0:Int))=true->
bo IntKind.i64 y5/\
bo IntKind.i64 (y4 - b)/\
∃(eV:Nat),
(eV<=(60:Nat)/\eb (gR v b) eV)/\(60:Nat) - eV<(60:Nat) - s3/\v - b*((↑eV:Int)+(1:Int))=y4 - b/\ka v b eV=y5/\b=b/\True)/\
(decide (y4>(0:Int))=false->ka v b s3=m9 v b/\True))):=by kernel_rfl
theorem ajL (v:Int) (b:Int):ah (aj aA []) Tryz.f238 K7 (Y7 (v,b,())) (v,b,()):=by
 rw[agi]
 refine U.mk fun y2 e2=> ?_
 simp only[true_and,and_true,eq_self,Int.toNat_natCast]
 have e2:y2= !(rq 0 60 v&&rq 1 10 b):=by
  rw[e2,CX,Nu,CX,Nu]
  unfold rq
  have key:∀a b c d:Bool,(bif(bif(bif !a then true else !b) then true else !c) then true else !d)= !((a&&b)&&(c&&d)):=by decide
  exact key _ _ _ _
 refine⟨fun h=> ?_,fun h=> ?_⟩
 ·rw[e2] at h
  simp only[Bool.not_eq_true'] at h
  unfold m9
  rw[h]
  rfl
 rw[e2] at h
 simp only[Bool.not_eq_false'] at h
 have hS:m9 v b=ka v b (qA v b):=by
  unfold m9
  rw[h]
  rfl
 rw[Bool.and_eq_true] at h
 unfold rq at h
 rw[Bool.and_eq_true,Bool.and_eq_true] at h
 obtain⟨⟨h1,h2⟩,h3,h4⟩:=h
 have h1:=of_decide_eq_true h1
 have h2:=of_decide_eq_true h2
 have h3:=of_decide_eq_true h3
 have h4:=of_decide_eq_true h4
 refine⟨aY (by omega) (by omega),⟨0,⟨by omega,rfl⟩,by simp,rfl⟩,fun s=>U.mk fun y4 e4=>U.mk fun y5 e5=> ?_⟩
 rintro⟨g1,g2⟩
 have g2:cj (gR v b) s=false:=g2
 have hr:=vn ⟨h1,h2⟩ h3 s g2
 have hq:=yL (v:=v) h3 s
 refine⟨fun h=> ?_,fun h=> ?_⟩
 ·have h:=of_decide_eq_true h
  refine⟨aY (by omega) (by omega),aY (by omega) (by omega),s+1,⟨by omega,?_⟩,by omega,?_,?_⟩
  ·exact j6 g2 (decide_eq_false (by omega))
  ·have:((s+1:Nat):Int)=(s:Int)+1:=by omega
   rw[this,e4,Int.mul_add b ((s:Int)+1) 1,Int.mul_one]
   omega
  ·rw[e5,e4];rfl
 ·have h:=of_decide_eq_false h
  rw[hS]
  congr 1
  unfold qA
  have hd:gR v b s=true:=decide_eq_true (by omega)
  show s=(gI (gR v b) 100).getD 0
  rw[sL (by omega) g2 hd]
  rfl
theorem acA:aN Tryz.prog 238 K7:=
 aN.b3 (l:=[]) (A:=Y7) aJ trivial Tryz.func238 (by kernel_rfl) (by kernel_rfl) fun x _ _=>ajL x.1 x.2.1
theorem agK (i:Int) (p:ab):ah (aj aA []) Tryz.f172 LD ar (i,p,())=(
aL i p.1.length/\(p.1.getD i.toNat ([],(0:Int),(0:Int))).1=(p.1.getD i.toNat zE).1/\True):=by kernel_rfl
theorem v173 (i:Int) (p:ab):ah (aj aA []) Tryz.f173 LC ar (i,p,())=(
aL i p.2.2.1.length/\(p.2.2.1.getD i.toNat ([],((0:Int),(0:Int)),false)).1=(p.2.2.1.getD i.toNat zS).1/\True):=by kernel_rfl
theorem agJ (i:Int) (p:ab):ah (aj aA []) Tryz.f174 LB ar (i,p,())=(
aL i p.2.2.2.1.length/\(p.2.2.2.1.getD i.toNat ([],[])).1=(p.2.2.2.1.getD i.toNat zL).1/\True):=by kernel_rfl
theorem ac8:aN Tryz.prog 172 LD:=
 aN.b3 (l:=[]) (A:=fun _=>ar) aJ trivial Tryz.func172 (by kernel_rfl) (by kernel_rfl) fun x _ hp=>by
  obtain⟨i,p,u⟩:=x
  show ah (aj aA []) Tryz.f172 LD ar (i,p,())
  rw[agK]
  exact⟨hp,rfl,trivial⟩
theorem ac7:aN Tryz.prog 173 LC:=
 aN.b3 (l:=[]) (A:=fun _=>ar) aJ trivial Tryz.func173 (by kernel_rfl) (by kernel_rfl) fun x _ hp=>by
  obtain⟨i,p,u⟩:=x
  show ah (aj aA []) Tryz.f173 LC ar (i,p,())
  rw[v173]
  exact⟨hp,rfl,trivial⟩
theorem ac6:aN Tryz.prog 174 LB:=
 aN.b3 (l:=[]) (A:=fun _=>ar) aJ trivial Tryz.func174 (by kernel_rfl) (by kernel_rfl) fun x _ hp=>by
  obtain⟨i,p,u⟩:=x
  show ah (aj aA []) Tryz.f174 LB ar (i,p,())
  rw[agJ]
  exact⟨hp,rfl,trivial⟩
theorem xk (l:List n4) (s:Nat) (hs:s<l.length) (h:o5 l s):
  ((aW .str (gY l s) (l.getD s [])).getD false=true->dT l=true)/\
  ((aW .str (gY l s) (l.getD s [])).getD false=false->o5 l (s+1)/\gY l (s+1)=df .str (gY l s) (l.getD s []) true):=by
 have e:=QV l s (by omega) (l.getD s [])
 have e2:cj (fun k=>l.getD k []==l.getD s []) s=cj (jz l s) s:=by
  congr 1
  funext k
  exact fI _ _
 rw[e2] at e
 refine⟨fun hy=> ?_,fun hy=>⟨?_,(UE l s hs hy).symm⟩⟩
 ·unfold dT
  exact nR (p:=fun i=>cj (fun k=>l.getD i []==l.getD k []) i) hs (by rw[e] at hy;exact hy)
 ·exact j6 (p:=fun i=>cj (jz l i) i) h (by rw[e] at hy;exact hy)
theorem Bw (l:List n4) (s:Nat) (hs:l.length<=s) (nI:s<=l.length) (h:o5 l s):dT l=false:=by
 have:s=l.length:=by omega
 subst this
 unfold dT
 exact h
theorem Us (n:Int) (f:(ab)×Unit):ah (aj aA [(172,LD)]) Tryz.f171 ue (E9 (n,f,())) (n,f,())=(
(∃(dr:Nat),(dr<=(fE f.1).length/\o5 (fE f.1) dr)/\(↑dr:Int)=(0:Int)/\f=f/\n=n/\gY (fE f.1) dr=[]/\True)/\
∀(s2:Nat),
U (f.1.1.getD (↑s2:Int).toNat zE).1 fun(y3:n4)=>
U ((aW Ty.str (gY (fE f.1) s2) y3).getD false) fun(y4:Bool)=>
s2<=(fE f.1).length/\o5 (fE f.1) s2->
(decide ((↑s2:Int)<n)=true->
aL (↑s2:Int) f.1.1.length/\
(y4=true->true=dT (fE f.1)/\True)/\
(y4=false->
aL (↑s2:Int) f.1.1.length/\
bo IntKind.i64 ((↑s2:Int)+(1:Int))/\
∃(gO:Nat),
(gO<=(fE f.1).length/\o5 (fE f.1) gO)/\
(fE f.1).length - gO<(fE f.1).length - s2/\
(↑gO:Int)=(↑s2:Int)+(1:Int)/\f=f/\n=n/\gY (fE f.1) gO=df Ty.str (gY (fE f.1) s2) y3 true/\True))/\
(decide ((↑s2:Int)<n)=false->false=dT (fE f.1)/\True)):=by kernel_rfl
theorem Ur (n:Int) (f:(ab)×Unit):ah (aj aA [(173,LC)]) Tryz.f171 ud (E6 (n,f,())) (n,f,())=(
(∃(dr:Nat),(dr<=(eZ f.1).length/\o5 (eZ f.1) dr)/\(↑dr:Int)=(0:Int)/\f=f/\n=n/\gY (eZ f.1) dr=[]/\True)/\
∀(s2:Nat),
U (f.1.2.2.1.getD (↑s2:Int).toNat zS).1 fun(y3:n4)=>
U ((aW Ty.str (gY (eZ f.1) s2) y3).getD false) fun(y4:Bool)=>
s2<=(eZ f.1).length/\o5 (eZ f.1) s2->
(decide ((↑s2:Int)<n)=true->
aL (↑s2:Int) f.1.2.2.1.length/\
(y4=true->true=dT (eZ f.1)/\True)/\
(y4=false->
aL (↑s2:Int) f.1.2.2.1.length/\
bo IntKind.i64 ((↑s2:Int)+(1:Int))/\
∃(gO:Nat),
(gO<=(eZ f.1).length/\o5 (eZ f.1) gO)/\
(eZ f.1).length - gO<(eZ f.1).length - s2/\
(↑gO:Int)=(↑s2:Int)+(1:Int)/\f=f/\n=n/\gY (eZ f.1) gO=df Ty.str (gY (eZ f.1) s2) y3 true/\True))/\
(decide ((↑s2:Int)<n)=false->false=dT (eZ f.1)/\True)):=by kernel_rfl
theorem Uq (n:Int) (f:(ab)×Unit):ah (aj aA [(174,LB)]) Tryz.f171 uc (E4 (n,f,())) (n,f,())=(
(∃(dr:Nat),(dr<=(eN f.1).length/\o5 (eN f.1) dr)/\(↑dr:Int)=(0:Int)/\f=f/\n=n/\gY (eN f.1) dr=[]/\True)/\
∀(s2:Nat),
U (f.1.2.2.2.1.getD (↑s2:Int).toNat zL).1 fun(y3:n4)=>
U ((aW Ty.str (gY (eN f.1) s2) y3).getD false) fun(y4:Bool)=>
s2<=(eN f.1).length/\o5 (eN f.1) s2->
(decide ((↑s2:Int)<n)=true->
aL (↑s2:Int) f.1.2.2.2.1.length/\
(y4=true->true=dT (eN f.1)/\True)/\
(y4=false->
aL (↑s2:Int) f.1.2.2.2.1.length/\
bo IntKind.i64 ((↑s2:Int)+(1:Int))/\
∃(gO:Nat),
(gO<=(eN f.1).length/\o5 (eN f.1) gO)/\
(eN f.1).length - gO<(eN f.1).length - s2/\
(↑gO:Int)=(↑s2:Int)+(1:Int)/\f=f/\n=n/\gY (eN f.1) gO=df Ty.str (gY (eN f.1) s2) y3 true/\True))/\
(decide ((↑s2:Int)<n)=false->false=dT (eN f.1)/\True)):=by kernel_rfl
theorem Wj (n:Int) (f:ab×Unit) (hp:n=(f.1.1.length:Int)) (hl:f.1.1.length<=aM):ah (aj aA [(172,LD)]) Tryz.f171 ue (E9 (n,f,())) (n,f,()):=by
 have hlen:(fE f.1).length=f.1.1.length:=by simp[fE]
 rw[Us]
 simp only[true_and,and_true,eq_self,Int.toNat_natCast]
 refine⟨⟨0,⟨by omega,rfl⟩,rfl,rfl⟩,fun s=>U.mk fun y3 e3=>U.mk fun y4 e4=> ?_⟩
 rintro⟨h1,h2⟩
 refine⟨fun h=> ?_,fun h=> ?_⟩
 ·have h:=of_decide_eq_true h
  have hs:s<(fE f.1).length:=by omega
  have e3:y3=(fE f.1).getD s []:=by
   rw[e3]
   unfold fE
   rw[eW _ (by omega),eW _ (by simpa using (by omega:s<f.1.1.length))]
   simp
  rw[e3] at e4
  obtain⟨k1,k2⟩:=xk _ s hs h2
  refine⟨⟨by omega,by omega⟩,fun hy=>(k1 (by rw[<-e4,hy])).symm,fun hy=> ?_⟩
  obtain⟨k3,k4⟩:=k2 (by rw[<-e4,hy])
  exact⟨⟨by omega,by omega⟩,dw (by omega) hl,s+1,⟨by omega,k3⟩,by omega,by omega,by rw[e3];exact k4⟩
 ·have h:=of_decide_eq_false h
  rw[Bw _ s (by omega) h1 h2]
theorem Rs:aN Tryz.prog 171 ue:=
 aN.b3 (l:=[(172,LD)]) (A:=E9) aJ ⟨ac8,trivial⟩ Tryz.func171 (by kernel_rfl) (by kernel_rfl) fun x hw hp=>Wj x.1 x.2.1 hp (lj hw.2.1.1).1
theorem Wi (n:Int) (f:ab×Unit) (hp:n=(f.1.2.2.1.length:Int)) (hl:f.1.2.2.1.length<=aM):ah (aj aA [(173,LC)]) Tryz.f171 ud (E6 (n,f,())) (n,f,()):=by
 have hlen:(eZ f.1).length=f.1.2.2.1.length:=by simp[eZ]
 rw[Ur]
 simp only[true_and,and_true,eq_self,Int.toNat_natCast]
 refine⟨⟨0,⟨by omega,rfl⟩,rfl,rfl⟩,fun s=>U.mk fun y3 e3=>U.mk fun y4 e4=> ?_⟩
 rintro⟨h1,h2⟩
 refine⟨fun h=> ?_,fun h=> ?_⟩
 ·have h:=of_decide_eq_true h
  have hs:s<(eZ f.1).length:=by omega
  have e3:y3=(eZ f.1).getD s []:=by
   rw[e3]
   unfold eZ
   rw[eW _ (by omega),eW _ (by simpa using (by omega:s<f.1.2.2.1.length))]
   simp
  rw[e3] at e4
  obtain⟨k1,k2⟩:=xk _ s hs h2
  refine⟨⟨by omega,by omega⟩,fun hy=>(k1 (by rw[<-e4,hy])).symm,fun hy=> ?_⟩
  obtain⟨k3,k4⟩:=k2 (by rw[<-e4,hy])
  exact⟨⟨by omega,by omega⟩,dw (by omega) hl,s+1,⟨by omega,k3⟩,by omega,by omega,by rw[e3];exact k4⟩
 ·have h:=of_decide_eq_false h
  rw[Bw _ s (by omega) h1 h2]
theorem Rr:aN Tryz.prog 171 ud:=
 aN.b3 (l:=[(173,LC)]) (A:=E6) aJ ⟨ac7,trivial⟩ Tryz.func171 (by kernel_rfl) (by kernel_rfl) fun x hw hp=>Wi x.1 x.2.1 hp (lj hw.2.1.1).2.2.1
theorem Wh (n:Int) (f:ab×Unit) (hp:n=(f.1.2.2.2.1.length:Int)) (hl:f.1.2.2.2.1.length<=aM):ah (aj aA [(174,LB)]) Tryz.f171 uc (E4 (n,f,())) (n,f,()):=by
 have hlen:(eN f.1).length=f.1.2.2.2.1.length:=by simp[eN]
 rw[Uq]
 simp only[true_and,and_true,eq_self,Int.toNat_natCast]
 refine⟨⟨0,⟨by omega,rfl⟩,rfl,rfl⟩,fun s=>U.mk fun y3 e3=>U.mk fun y4 e4=> ?_⟩
 rintro⟨h1,h2⟩
 refine⟨fun h=> ?_,fun h=> ?_⟩
 ·have h:=of_decide_eq_true h
  have hs:s<(eN f.1).length:=by omega
  have e3:y3=(eN f.1).getD s []:=by
   rw[e3]
   unfold eN
   rw[eW _ (by omega),eW _ (by simpa using (by omega:s<f.1.2.2.2.1.length))]
   simp
  rw[e3] at e4
  obtain⟨k1,k2⟩:=xk _ s hs h2
  refine⟨⟨by omega,by omega⟩,fun hy=>(k1 (by rw[<-e4,hy])).symm,fun hy=> ?_⟩
  obtain⟨k3,k4⟩:=k2 (by rw[<-e4,hy])
  exact⟨⟨by omega,by omega⟩,dw (by omega) hl,s+1,⟨by omega,k3⟩,by omega,by omega,by rw[e3];exact k4⟩
 ·have h:=of_decide_eq_false h
  rw[Bw _ s (by omega) h1 h2]
theorem Rq:aN Tryz.prog 171 uc:=
 aN.b3 (l:=[(174,LB)]) (A:=E4) aJ ⟨ac6,trivial⟩ Tryz.func171 (by kernel_rfl) (by kernel_rfl) fun x hw hp=>Wh x.1 x.2.1 hp (lj hw.2.1.1).2.2.2
theorem agL (p:ab):ah (aj aA [(234,K9),(235,yq)]) Tryz.f170 LF (Zg (p,())) (p,())=(
U
(bif
bif
bif
bif
bif
bif
bif bif decide (p.2.2.2.2.1<(1:Int)) then true else decide (p.2.2.2.2.1>(60:Int)) then true
else decide (p.2.2.2.2.2.1<(1:Int)) then
true
else decide (p.2.2.2.2.2.1>(10:Int)) then
true
else decide (p.2.2.2.2.2.2.1<(1:Int)) then
true
else decide (p.2.2.2.2.2.2.1>(4000:Int)) then
true
else decide (p.2.2.2.2.2.2.2.1<(1:Int)) then
true
else decide (p.2.2.2.2.2.2.2.1>(20:Int)) then
true
else(↑p.1.length:Int)==(0:Int))
fun(y1:Bool)=>
(y1=true->false=fArgs p/\True)/\
(y1=false->
(∃(dr:Nat),
(dr<=p.1.length/\fg gJ p.1 dr)/\
(↑dr:Int)=(0:Int)/\
p.1=p.1/\
(↑p.1.length:Int)=(↑p.1.length:Int)/\
ay p (True))/\
∀(s2:Nat),
U (decide ((↑s2:Int)<(↑p.1.length:Int))) fun(y3:Bool)=>
U (p.1.getD (↑s2:Int).toNat ([],(0:Int),(0:Int))) fun(y4:List UInt8×Int×Int)=>
U (bif !kB y4.1 then true else cQ y4.2.1==(0:Int)) fun(y5:Bool)=>
U (bif decide (y4.2.2<(1:Int)) then true else decide (y4.2.2>(4000:Int))) fun(y6:Bool)=>
s2<=p.1.length/\fg gJ p.1 s2->
(y3=true->
aL (↑s2:Int) p.1.length/\
True/\
((!kB y4.1)=false->True)/\
(y5=true->false=fArgs p/\True)/\
(y5=false->
((y4.2.1==(4:Int))=true->
((y4.2.2 !=(0:Int))=true->false=fArgs p/\True)/\
((y4.2.2 !=(0:Int))=false->
bo IntKind.i64 ((↑s2:Int)+(1:Int))/\
∃(nD:Nat),
(nD<=p.1.length/\fg gJ p.1 nD)/\
p.1.length - nD<p.1.length - s2/\
(↑nD:Int)=(↑s2:Int)+(1:Int)/\
p.1=p.1/\
(↑p.1.length:Int)=(↑p.1.length:Int)/\
ay p (True)))/\
((y4.2.1==(4:Int))=false->
(y6=true->false=fArgs p/\True)/\
(y6=false->
bo IntKind.i64 ((↑s2:Int)+(1:Int))/\
∃(nD:Nat),
(nD<=p.1.length/\fg gJ p.1 nD)/\
p.1.length - nD<p.1.length - s2/\
(↑nD:Int)=(↑s2:Int)+(1:Int)/\
p.1=p.1/\
(↑p.1.length:Int)=(↑p.1.length:Int)/\
ay p (True)))))/\
(y3=false->
(∃(lf:Nat),
(lf<=p.2.2.1.length/\fg ld p.2.2.1 lf)/\
(↑lf:Int)=(0:Int)/\
p.2.2.1=p.2.2.1/\
(↑p.2.2.1.length:Int)=(↑p.2.2.1.length:Int)/\
ay p (True))/\
∀(s7:Nat),
U (decide ((↑s7:Int)<(↑p.2.2.1.length:Int))) fun(y8:Bool)=>
U (!kB (p.2.2.1.getD (↑s7:Int).toNat ([],((0:Int),(0:Int)),false)).1) fun(y9:Bool)=>
s7<=p.2.2.1.length/\fg ld p.2.2.1 s7->
(y8=true->
aL (↑s7:Int) p.2.2.1.length/\
True/\
(y9=true->false=fArgs p/\True)/\
(y9=false->
bo IntKind.i64 ((↑s7:Int)+(1:Int))/\
∃(cU:Nat),
(cU<=p.2.2.1.length/\fg ld p.2.2.1 cU)/\
p.2.2.1.length - cU<p.2.2.1.length - s7/\
(↑cU:Int)=(↑s7:Int)+(1:Int)/\
p.2.2.1=p.2.2.1/\
(↑p.2.2.1.length:Int)=(↑p.2.2.1.length:Int)/\
ay p (True)))/\
(y8=false->
(∃(oF:Nat),
(oF<=p.2.2.2.1.length/\fg jC p.2.2.2.1 oF)/\
(↑oF:Int)=(0:Int)/\p.2.2.2.1=p.2.2.2.1/\(↑p.2.2.2.1.length:Int)=(↑p.2.2.2.1.length:Int)/\True)/\
∀(ja:Nat),
U (decide ((↑ja:Int)<(↑p.2.2.2.1.length:Int))) fun(bH:Bool)=>
U (!kB (p.2.2.2.1.getD (↑ja:Int).toNat ([],[])).1) fun(aw:Bool)=>
ja<=p.2.2.2.1.length/\fg jC p.2.2.2.1 ja->
(bH=true->
aL (↑ja:Int) p.2.2.2.1.length/\
True/\
(aw=true->false=fArgs p/\True)/\
(aw=false->
bo IntKind.i64 ((↑ja:Int)+(1:Int))/\
∃(fR:Nat),
(fR<=p.2.2.2.1.length/\fg jC p.2.2.2.1 fR)/\
p.2.2.2.1.length - fR<p.2.2.2.1.length - ja/\
(↑fR:Int)=(↑ja:Int)+(1:Int)/\
p.2.2.2.1=p.2.2.2.1/\(↑p.2.2.2.1.length:Int)=(↑p.2.2.2.1.length:Int)/\True))/\
(bH=false->true=fArgs p/\True))))):=by kernel_rfl
theorem akb (p:ab) (hw:pQ p):ah (aj aA [(234,K9),(235,yq)]) Tryz.f170 LF (Zg (p,())) (p,()):=by
 rw[agL]
 refine U.mk fun y1 e1=> ?_
 simp only[dp,true_and,and_true,eq_self,Int.toNat_natCast]
 have hN:oP p= !y1:=by
  rw[e1,CX,Nu,CX,Nu,CX,Nu,CX,Nu,F3 _ 0 0 rfl]
  unfold oP rq
  generalize decide (1<=p.2.2.2.2.1)=a1;generalize decide (p.2.2.2.2.1<=60)=a2
  generalize decide (1<=p.2.2.2.2.2.1)=a3;generalize decide (p.2.2.2.2.2.1<=10)=a4
  generalize decide (1<=p.2.2.2.2.2.2.1)=a5;generalize decide (p.2.2.2.2.2.2.1<=4000)=a6
  generalize decide (1<=p.2.2.2.2.2.2.2.1)=a7;generalize decide (p.2.2.2.2.2.2.2.1<=20)=a8
  generalize decide (p.1.length=0)=a124
  cases a1<;>cases a2<;>cases a3<;>cases a4<;>cases a5<;>cases a6<;>cases a7<;>cases a8<;>cases a124<;>rfl
 refine⟨fun h=> ?_,fun h=> ?_⟩
 ·unfold fArgs
  rw[hN,h]
  rfl
 have hA:fArgs p=(p.1.all gJ&&(p.2.2.1.all ld&&p.2.2.2.1.all jC)):=by
  unfold fArgs
  rw[hN,h]
  rfl
 rw[hA]
 refine⟨⟨0,⟨by omega,rfl⟩,rfl⟩,fun s=>U.mk fun y3 e3=>U.mk fun y4 e4=>U.mk fun y5 e5=>U.mk fun y6 e6=> ?_⟩
 rintro⟨h1,h2⟩
 have h2:(p.1.take s).all gJ=true:=h2
 have e4:y4=p.1.getD s zE:=e4
 rw[CX,Nu] at e6
 have hE:gJ y4=(!y5&&bif y4.2.1==4 then y4.2.2==0 else !y6):=by
  rw[e5,e6]
  unfold gJ rq
  generalize kB y4.1=a;generalize (cQ y4.2.1==0)=b;generalize (y4.2.1==4)=c;generalize (y4.2.2==0)=d;generalize decide (1<=y4.2.2)=e;generalize decide (y4.2.2<=4000)=f
  cases a<;>cases b<;>cases c<;>cases d<;>cases e<;>cases f<;>rfl
 refine⟨fun h=> ?_,fun h=> ?_⟩
 ·have h:=aZ e3 h
  have no:gJ y4=false->false=(p.1.all gJ&&(p.2.2.1.all ld&&p.2.2.2.1.all jC)):=fun hf=>by
   rw[mM zE h (by rw[<-e4,hf])];rfl
  have yes:gJ y4=true->∃s',(s'<=p.1.length/\fg gJ p.1 s')/\p.1.length - s'<p.1.length - s/\(s':Int)=(s:Int)+1:=fun hf=>
   ⟨s+1,⟨by omega,all_succ zE h h2 (by rw[<-e4,hf])⟩,by omega,by omega⟩
  refine⟨⟨by omega,by omega⟩,fun _=>trivial,fun h5=>no (by rw[hE,h5];rfl),fun h5=>⟨fun h4=>⟨fun h6=>no ?_,fun h6=>⟨dw h hw.1,yes ?_⟩⟩,fun h4=>⟨fun h6=>no ?_,fun h6=>⟨dw h hw.1,yes ?_⟩⟩⟩⟩
  ·rw[iy] at h6
   rw[hE,h5,h4]
   simpa using h6
  ·rw[iy] at h6
   rw[hE,h5,h4]
   simpa using h6
  ·rw[hE,h5,h4,h6];rfl
  ·rw[hE,h5,h4,h6];rfl
 rw[jG (bt e3 h) h2,Bool.true_and]
 refine⟨⟨0,⟨by omega,rfl⟩,rfl⟩,fun t=>U.mk fun y8 e8=>U.mk fun y9 e9=> ?_⟩
 rintro⟨h1,h2⟩
 have h2:(p.2.2.1.take t).all ld=true:=h2
 have e9:ld (p.2.2.1.getD t zS)= !y9:=by rw[e9,Bool.not_not];rfl
 refine⟨fun h=> ?_,fun h=> ?_⟩
 ·have h:=aZ e8 h
  refine⟨⟨by omega,by omega⟩,fun h9=> ?_,fun h9=>⟨dw h hw.2.2.1,t+1,⟨by omega,?_⟩,by omega,by omega⟩⟩
  ·rw[mM zS h (by rw[e9,h9];rfl)]
   rfl
  ·exact all_succ zS h h2 (by rw[e9,h9];rfl)
 rw[jG (bt e8 h) h2,Bool.true_and]
 refine⟨⟨0,⟨by omega,rfl⟩,rfl⟩,fun u=>U.mk fun bH eK=>U.mk fun aw dW=> ?_⟩
 rintro⟨h1,h2⟩
 have h2:(p.2.2.2.1.take u).all jC=true:=h2
 have dW:jC (p.2.2.2.1.getD u zL)= !aw:=by rw[dW,Bool.not_not];rfl
 refine⟨fun h=> ?_,fun h=> ?_⟩
 ·have h:=aZ eK h
  refine⟨⟨by omega,by omega⟩,fun h9=> ?_,fun h9=>⟨dw h hw.2.2.2,u+1,⟨by omega,?_⟩,by omega,by omega⟩⟩
  ·rw[mM zL h (by rw[dW,h9];rfl)]
  ·exact all_succ zL h h2 (by rw[dW,h9];rfl)
 rw[jG (bt eK h) h2]
theorem ac9:aN Tryz.prog 170 LF:=
 aN.b3 (l:=[(234,K9),(235,yq)]) (A:=Zg) aJ ⟨acC,Re,trivial⟩ Tryz.func170 (by kernel_rfl) (by kernel_rfl) fun x hw hp=>akb x.1 (lj hw.1)
theorem FN (p:ab) (k:Nat) (hk:k<p.2.1.length) (h:xZ p k):
  let j:=p.2.1.getD k zJ
  let bad:= !dC p j.1||(!dC p j.2||((aW aO (bY p k) j.1).isSome||((aW aO (bY p k) j.2).isSome||j.1==j.2)))
  (bad=true->bT p=false)/\(bad=false->xZ p (k+1)/\bY p (k+1)=df aO (df aO (bY p k) j.1 j.2) j.2 j.1):=by
 intro j bad
 have e:=EN p k hk
 have n1:=HI p k (by omega) j.1
 have n2:=HI p k (by omega) j.2
 have hA:kR p (2*k)=(dC p j.1&& !(aW aO (bY p k) j.1).isSome):=by
  unfold kR
  rw[e.1,n1]
 have hB:kR p (2*k+1)=(dC p j.2&& !((aW aO (bY p k) j.2).isSome||j.1==j.2)):=by
  unfold kR
  rw[e.2,n2]
  show(_&& !(cj _ (2*k)||(bW p).getD (2*k) zP==_))=_
  rw[e.1]
 have PM:bad= !(kR p (2*k)&&kR p (2*k+1)):=by
  rw[hA,hB]
  show(!dC p j.1||(!dC p j.2||((aW aO (bY p k) j.1).isSome||((aW aO (bY p k) j.2).isSome||j.1==j.2))))=_
  generalize dC p j.1=a;generalize dC p j.2=b;generalize (aW aO (bY p k) j.1).isSome=c;generalize (aW aO (bY p k) j.2).isSome=d;generalize (j.1==j.2)=f
  cases a<;>cases b<;>cases c<;>cases d<;>cases f<;>rfl
 have hlen:2*k+1<(bW p).length:=by rw[mz];omega
 refine⟨fun hb=> ?_,fun hb=> ?_⟩
 ·rw[PM,Bool.not_eq_true',Bool.and_eq_false_iff] at hb
  rw[uR]
  rcases hb with hb|hb
  ·rw[fX (by omega) hb];rfl
  ·rw[fX hlen hb];rfl
 ·have hb0:=hb
  rw[PM,Bool.not_eq_false',Bool.and_eq_true] at hb
  refine⟨?_,?_⟩
  ·show de (kR p) (2*(k+1))=true
   rw[show 2*(k+1)=2*k+1+1 by omega]
   exact ff (ff h hb.1) hb.2
  ·rw[hA] at hb
   rw[hB] at hb
   simp only[Bool.and_eq_true,Bool.not_eq_true',Bool.or_eq_false_iff] at hb
   obtain⟨⟨_,m1⟩,_,m2,m3⟩:=hb
   rw[n9 pD m1]
   have m4:(aW aO (bY p k++[(j.1,j.2)]) j.2).isSome=false:=by
    have m2':=gZ aO (bY p k) j.2
    rw[m2] at m2'
    rw[gZ,List.any_append,<-m2']
    simp only[List.any_cons,List.any_nil,Bool.or_false,Bool.false_or,FL]
    rw[fI]
    exact m3
   rw[n9 pD m4]
   unfold bY
   rw[p8 _ zJ hk]
   simp[j]
theorem v175 (p:ab):ah (aj aA [(236,DD)]) Tryz.f175 Lz (a175 (p,())) (p,())=(
U (((0:Int),(0:Int)),(0:Int),(0:Int)) fun(y1:(Int×Int)×Int×Int)=>
(∃(dr:Nat),
(dr<=p.2.1.length/\xZ p dr)/\
(↑dr:Int)=(0:Int)/\
p.2.1=p.2.1/\
(↑p.2.1.length:Int)=(↑p.2.1.length:Int)/\
bY p dr=[]/\
ay p (True))/\
∀(s2:Nat),
U (decide ((↑s2:Int)<(↑p.2.1.length:Int))) fun(y3:Bool)=>
U (p.2.1.getD (↑s2:Int).toNat y1) fun(y4:(Int×Int)×Int×Int)=>
U
(bif
bif(aW aO (bY p s2) y4.1).isSome then true
else(aW aO (bY p s2) y4.2).isSome then
true
else y4.1.1==y4.2.1&&(y4.1.2==y4.2.2&&true))
fun(y5:Bool)=>
U (bif y5 then true else !dC p y4.1) fun(y6:Bool)=>
U (bif y6 then true else !dC p y4.2) fun(y7:Bool)=>
s2<=p.2.1.length/\xZ p s2->
(y3=true->
aL (↑s2:Int) p.2.1.length/\
(y5=false->True)/\
(y6=false->True)/\
(y7=true->[]=nc p/\false=bT p/\True)/\
(y7=false->
bo IntKind.i64 ((↑s2:Int)+(1:Int))/\
∃(jq:Nat),
(jq<=p.2.1.length/\xZ p jq)/\
p.2.1.length - jq<p.2.1.length - s2/\
(↑jq:Int)=(↑s2:Int)+(1:Int)/\
p.2.1=p.2.1/\
(↑p.2.1.length:Int)=(↑p.2.1.length:Int)/\
bY p jq=
df aO (df aO (bY p s2) y4.1 y4.2) y4.2
y4.1/\
ay p (True)))/\
(y3=false->
(∃(mQ:Nat),
(mQ<=p.1.length/\dX (kh p) mQ)/\
(↑mQ:Int)=(0:Int)/\
p.1=p.1/\
(↑p.1.length:Int)=(↑p.1.length:Int)/\
ay p (bY p s2=bY p s2/\True))/\
∀(s8:Nat),
U (decide ((↑s8:Int)<(↑p.1.length:Int))) fun(y9:Bool)=>
U ((p.1.getD (↑s8:Int).toNat ([],(0:Int),(0:Int))).2.1 !=(4:Int)) fun(bu:Bool)=>
U (aW aO (bY p s2) ((↑s8:Int),(0:Int))) fun(bH:Option (Int×Int))=>
U (bH.getD ((0:Int),(0:Int))).1 fun(aw:Int)=>
U (bif !bH.isSome then true else(p.1.getD aw.toNat ([],(0:Int),(0:Int))).2.1==(4:Int)) fun(aB:Bool)=>
s8<=p.1.length/\dX (kh p) s8->
(y9=true->
aL (↑s8:Int) p.1.length/\
(bu=true->
bo IntKind.i64 ((↑s8:Int)+(1:Int))/\
∃(oj:Nat),
(oj<=p.1.length/\dX (kh p) oj)/\
p.1.length - oj<p.1.length - s8/\
(↑oj:Int)=(↑s8:Int)+(1:Int)/\
p.1=p.1/\
(↑p.1.length:Int)=(↑p.1.length:Int)/\
ay p (bY p s2=bY p s2/\True))/\
(bu=false->
((!bH.isSome)=false->aL aw p.1.length)/\
(aB=true->[]=nc p/\false=bT p/\True)/\
(aB=false->
bo IntKind.i64 ((↑s8:Int)+(1:Int))/\
∃(oj:Nat),
(oj<=p.1.length/\dX (kh p) oj)/\
p.1.length - oj<p.1.length - s8/\
(↑oj:Int)=(↑s8:Int)+(1:Int)/\
p.1=p.1/\
(↑p.1.length:Int)=(↑p.1.length:Int)/\
ay p (bY p s2=bY p s2/\True))))/\
(y9=false->bY p s2=nc p/\true=bT p/\True))):=by kernel_rfl
theorem aka (p:ab) (hw:pQ p):ah (aj aA [(236,DD)]) Tryz.f175 Lz (a175 (p,())) (p,()):=by
 have o9:bT p=false->([]:List (ak×ak))=nc p/\false=bT p:=fun h=>by
  unfold nc
  rw[h];exact⟨rfl,rfl⟩
 rw[v175]
 refine U.mk fun y1 e1=> ?_
 simp only[dp,true_and,and_true,eq_self,Int.toNat_natCast]
 refine⟨⟨0,⟨by omega,rfl⟩,rfl,rfl⟩,fun k=>U.mk fun y3 e3=>U.mk fun y4 e4=>U.mk fun y5 e5=>U.mk fun y6 e6=>U.mk fun y7 e7=> ?_⟩
 rintro⟨g1,g2⟩
 refine⟨fun h=> ?_,fun h=> ?_⟩
 ·have hk:=aZ e3 h
  have e4:y4=p.2.1.getD k zJ:=by rw[e4,e1];rfl
  obtain⟨r1,r2⟩:=FN p k hk g2
  have PM:(!dC p (p.2.1.getD k zJ).1||(!dC p (p.2.1.getD k zJ).2||((aW aO (bY p k) (p.2.1.getD k zJ).1).isSome||((aW aO (bY p k) (p.2.1.getD k zJ).2).isSome||(p.2.1.getD k zJ).1==(p.2.1.getD k zJ).2))))=y7:=by
   rw[e7,e6,e5,sH,e4]
   generalize dC p (p.2.1.getD k zJ).1=a;generalize dC p (p.2.1.getD k zJ).2=b;generalize (aW aO (bY p k) (p.2.1.getD k zJ).1).isSome=c;generalize (aW aO (bY p k) (p.2.1.getD k zJ).2).isSome=d;generalize ((p.2.1.getD k zJ).1==(p.2.1.getD k zJ).2)=f
   cases a<;>cases b<;>cases c<;>cases d<;>cases f<;>rfl
  refine⟨⟨by omega,by omega⟩,fun _=>trivial,fun _=>trivial,fun h7=>o9 (r1 (by rw[PM,h7])),fun h7=> ?_⟩
  obtain⟨q1,q2⟩:=r2 (by rw[PM,h7])
  exact⟨dw hk hw.2.1,k+1,⟨by omega,q1⟩,by omega,by omega,by rw[e4];exact q2⟩
 ·have hk:=bt e3 h
  have AY:k=p.2.1.length:=by omega
  have hN:bY p k=dU p:=FD p k hk
  have R9:de (kR p) (bW p).length=true:=by rw[mz,<-AY];exact g2
  refine⟨⟨0,⟨by omega,rfl⟩,rfl⟩,fun s=>U.mk fun y9 e9=>U.mk fun bu dy=>U.mk fun bH eK=>U.mk fun aw dW=>U.mk fun aB gE=> ?_⟩
  rintro⟨s1,s2⟩
  rw[hN,mU] at eK
  have dy:bu= !((p.1.getD s zE).2.1==4):=by rw[dy,iy];rfl
  have BX:bH.isSome=true->aL aw p.1.length/\aK p (bx p ((s:Int),0)).1.1=(p.1.getD aw.toNat zE).2.1/\aw=(bx p ((s:Int),0)).1.1:=fun hs=>by
   cases hn:(bx p ((s:Int),0)).2 with
   |false=>rw[eK,hn] at hs;cases hs
   |true=>
    rw[hn] at eK
    have dW:aw=(bx p ((s:Int),0)).1.1:=by rw[dW,eK];rfl
    have hm:=fM pD (by rw[mU,hn];rfl:aW aO (dU p) ((s:Int),0)=some (bx p ((s:Int),0)).1)
    have hh:dC p (bx p ((s:Int),0)).1=true:=by
     unfold dU at hm
     obtain⟨j,hj,hm⟩:=List.mem_flatMap.1 hm
     have hb:dC p j.1=true/\dC p j.2=true:=by
      obtain⟨i,hi,rfl⟩:=List.mem_iff_getElem.1 hj
      have e:=EN p i hi
      rw[eW zJ hi] at e
      have a:=gx.1 R9 (2*i) (by rw[mz];omega)
      have b:=gx.1 R9 (2*i+1) (by rw[mz];omega)
      unfold kR at a b
      rw[e.1,Bool.and_eq_true] at a
      rw[e.2,Bool.and_eq_true] at b
      exact⟨a.1,b.1⟩
     simp only[List.mem_cons,Prod.mk.injEq,List.not_mem_nil,or_false] at hm
     rcases hm with ⟨_,hm⟩|⟨_,hm⟩
     ·rw[hm];exact hb.2
     ·rw[hm];exact hb.1
    have hf:=me hh
    rw[dW]
    exact⟨⟨hf.1,hf.2.1⟩,hf.2.2.2.2,rfl⟩
  have hg:kh p s=(bu|| !aB):=by
   unfold kh
   rw[dy]
   cases (p.1.getD s zE).2.1==4 with
   |false=>rfl
   |true=>
    simp only[cond_true,Bool.not_true,Bool.false_or]
    have hs:bH.isSome=(bx p ((s:Int),0)).2:=by rw[eK];cases (bx p ((s:Int),0)).2<;>rfl
    cases hn:(bx p ((s:Int),0)).2 with
    |false=>rw[hn] at hs;rw[gE,hs];rfl
    |true=>
     rw[hn] at hs
     have:=BX hs
     rw[this.2.1,gE,hs]
     simp only[Bool.true_and,Bool.not_true,cond_false]
     rfl
  refine⟨fun h=> ?_,fun h=> ?_⟩
  ·have hs:=aZ e9 h
   have yes:kh p s=true->∃s',(s'<=p.1.length/\dX (kh p) s')/\p.1.length - s'<p.1.length - s/\(s':Int)=(s:Int)+1:=fun hf=>
    ⟨s+1,⟨by omega,ff s2 hf⟩,by omega,by omega⟩
   refine⟨⟨by omega,by omega⟩,fun lp=>⟨dw hs hw.1,yes (by rw[hg,lp];rfl)⟩,fun lp=>⟨fun mG=>(BX (by simpa using mG)).1,fun kP=>o9 ?_,fun kP=>⟨dw hs hw.1,yes (by rw[hg,lp,kP];rfl)⟩⟩⟩
   rw[uR,fX hs (by rw[hg,lp,kP];rfl),Bool.and_false]
  ·have hs:=bt e9 h
   have:s=p.1.length:=by omega
   have hJ:bT p=true:=by
    rw[uR,R9,<-this]
    exact s2
   unfold nc
   rw[hJ,hN]
   exact⟨rfl,rfl⟩
theorem ac5:aN Tryz.prog 175 Lz:=
 aN.b3 (l:=[(236,DD)]) (A:=a175) aJ ⟨W7,trivial⟩ Tryz.func175 (by kernel_rfl) (by kernel_rfl) fun x hw hp=>aka x.1 (lj hw.1)
theorem agI (p:ab) (m:List ((Int×Int)×Int×Int)):ah (aj aA [(236,DD)]) Tryz.f176 Ly (Zf (p,m,())) (p,m,())=(
U ([],((0:Int),(0:Int)),false) fun(y2:List UInt8×(Int×Int)×Bool)=>
(∃(fB:Nat),
(fB<=p.2.2.1.length/\dX (lb p) fB)/\
(↑fB:Int)=(0:Int)/\
m=m/\
p.2.2.1=p.2.2.1/\
(↑p.2.2.1.length:Int)=(↑p.2.2.1.length:Int)/\
lO p fB=[]/\
ay p (True))/\
∀(s3:Nat),
U (decide ((↑s3:Int)<(↑p.2.2.1.length:Int))) fun(y4:Bool)=>
U (p.2.2.1.getD (↑s3:Int).toNat y2).2.1 fun(y5:Int×Int)=>
U (bif !dC p y5 then true else(aW aO (lO p s3) y5).getD false) fun(y6:Bool)=>
U (p.1.getD y5.1.toNat ([],(0:Int),(0:Int))).2.1 fun(y7:Int)=>
U (bif y7 !=(1:Int) then y7 !=(4:Int) else false) fun(y8:Bool)=>
U (aW aO m y5) fun(y9:Option (Int×Int))=>
U (y9.getD ((0:Int),(0:Int))).1 fun(bu:Int)=>
U (bif !y9.isSome then true else(p.1.getD bu.toNat ([],(0:Int),(0:Int))).2.1==(4:Int)) fun(bH:Bool)=>
s3<=p.2.2.1.length/\dX (lb p) s3->
(y4=true->
aL (↑s3:Int) p.2.2.1.length/\
True/\
(y6=true->false=dq p/\True)/\
(y6=false->
aL y5.1 p.1.length/\
(y8=true->false=dq p/\True)/\
(y8=false->
((!y9.isSome)=false->aL bu p.1.length)/\
(bH=true->false=dq p/\True)/\
(bH=false->
bo IntKind.i64 ((↑s3:Int)+(1:Int))/\
∃(nw:Nat),
(nw<=p.2.2.1.length/\dX (lb p) nw)/\
p.2.2.1.length - nw<p.2.2.1.length - s3/\
(↑nw:Int)=(↑s3:Int)+(1:Int)/\
m=m/\
p.2.2.1=p.2.2.1/\
(↑p.2.2.1.length:Int)=(↑p.2.2.1.length:Int)/\
lO p nw=df aO (lO p s3) y5 true/\
ay p (True)))))/\
(y4=false->
(∃(vq:Nat),
(vq<=p.1.length/\dX (jZ p) vq)/\
(↑vq:Int)=(0:Int)/\p.1=p.1/\(↑p.1.length:Int)=(↑p.1.length:Int)/\lO p s3=lO p s3/\True)/\
∀(mP:Nat),
U (decide ((↑mP:Int)<(↑p.1.length:Int))) fun(aB:Bool)=>
U
(bif(p.1.getD (↑mP:Int).toNat ([],(0:Int),(0:Int))).2.1==(4:Int) then
!(aW aO (lO p s3) ((↑mP:Int),(0:Int))).getD false
else false)
fun(cL:Bool)=>
mP<=p.1.length/\dX (jZ p) mP->
(aB=true->
aL (↑mP:Int) p.1.length/\
(cL=true->false=dq p/\True)/\
(cL=false->
bo IntKind.i64 ((↑mP:Int)+(1:Int))/\
∃(lg:Nat),
(lg<=p.1.length/\dX (jZ p) lg)/\
p.1.length - lg<p.1.length - mP/\
(↑lg:Int)=(↑mP:Int)+(1:Int)/\p.1=p.1/\(↑p.1.length:Int)=(↑p.1.length:Int)/\lO p s3=lO p s3/\True))/\
(aB=false->true=dq p/\True))):=by kernel_rfl
theorem aj9 (p:ab) (m:List (ak×ak)) (hj:bT p=true) (hm:m=dU p) (hw:pQ p):ah (aj aA [(236,DD)]) Tryz.f176 Ly (Zf (p,m,())) (p,m,()):=by
 subst hm
 have hS:dq p=(de (lb p) p.2.2.1.length&&de (jZ p) p.1.length):=by unfold dq;rfl
 rw[agI,hS]
 simp only[dp,true_and,and_true,eq_self,Int.toNat_natCast]
 refine U.mk fun y2 e2=> ?_
 refine⟨⟨0,⟨by omega,rfl⟩,rfl,rfl⟩,fun k=>U.mk fun y4 e4=>U.mk fun y5 e5=>U.mk fun y6 e6=>U.mk fun y7 e7=>U.mk fun y8 e8=>U.mk fun y9 e9=>U.mk fun bu dy=>U.mk fun bH eK=> ?_⟩
 rintro⟨g1,g2⟩
 rw[mU] at e9
 refine⟨fun h=> ?_,fun h=> ?_⟩
 ·have hk:=aZ e4 h
  have e5:y5=(p.2.2.1.getD k zS).2.1:=by rw[e5,e2];rfl
  have mZ:(aW aO (lO p k) y5).getD false=cj (fF p y5) k:=L9 p k (by omega) y5
  have aaB:(cc p y5==(k:Int))= !(aW aO (lO p k) y5).getD false:=by rw[mZ,e5];exact Kj p k hk
  have hs:y9.isSome=(bx p y5).2:=by rw[e9];cases (bx p y5).2<;>rfl
  have hK:dC p y5=true->aL y5.1 p.1.length/\aK p y5.1=y7:=fun hh=>by
   have hf:=me hh
   exact⟨⟨hf.1,hf.2.1⟩,by rw[hf.2.2.2.2,e7];rfl⟩
  have hK2:y9.isSome=true->aL bu p.1.length/\aK p (bx p y5).1.1=(p.1.getD bu.toNat zE).2.1:=fun h9=>by
   rw[hs] at h9
   rw[h9] at e9
   have dy:bu=(bx p y5).1.1:=by rw[dy,e9];rfl
   have hh:=xE hj (by rw[mU,h9];rfl:aW aO (dU p) y5=some (bx p y5).1)
   have hf:=me hh
   rw[dy]
   exact⟨⟨hf.1,hf.2.1⟩,hf.2.2.2.2⟩
  have mY:lb p k=(!y6&&(!y8&& !bH)):=by
   unfold lb CB
   rw[<-e5,aaB,e6,e8,eK,iy,iy]
   cases hh:dC p y5 with
   |false=>rfl
   |true=>
    rw[(hK hh).2,hs]
    cases hn:(bx p y5).2 with
    |false=>
     generalize (aW aO (lO p k) y5).getD false=a;generalize (y7==1)=b;generalize (y7==4)=c
     cases a<;>cases b<;>cases c<;>rfl
    |true=>
     rw[(hK2 (by rw[hs,hn])).2]
     have e:((p.1.getD bu.toNat ([],(0:Int),(0:Int))).2.1==4)=((p.1.getD bu.toNat zE).2.1==4):=rfl
     rw[e]
     generalize (aW aO (lO p k) y5).getD false=a;generalize (y7==1)=b;generalize (y7==4)=c;generalize ((p.1.getD bu.toNat zE).2.1==4)=d
     cases a<;>cases b<;>cases c<;>cases d<;>rfl
  have no:lb p k=false->false=(de (lb p) p.2.2.1.length&&de (jZ p) p.1.length):=fun hf=>by rw[fX hk hf];rfl
  refine⟨⟨by omega,by omega⟩,fun h6=>no (by rw[mY,h6];rfl),fun h6=>⟨?_,fun h8=>no (by rw[mY,h8,h6];rfl),fun h8=>⟨fun h9=>(hK2 (by simpa using h9)).1,fun mG=>no (by rw[mY,mG,h8,h6];rfl),fun mG=>⟨dw hk hw.2.2.1,k+1,⟨by omega,ff g2 (by rw[mY,h6,h8,mG];rfl)⟩,by omega,by omega,?_⟩⟩⟩⟩
  ·refine(hK ?_).1
   rw[e6] at h6
   cases hh:dC p y5 with
   |true=>rfl
   |false=>rw[hh] at h6;cases h6
  ·rw[e5]
   refine(YW p k hk ?_).symm
   rw[e6] at h6
   rw[<-e5]
   cases hh:dC p y5 with
   |true=>rw[hh] at h6;exact h6
   |false=>rw[hh] at h6;cases h6
 ·have hk:=bt e4 h
  have AY:k=p.2.2.1.length:=by omega
  have wX:de (lb p) p.2.2.1.length=true:=by rw[<-AY];exact g2
  rw[wX,Bool.true_and]
  refine⟨⟨0,⟨by omega,rfl⟩,rfl⟩,fun s=>U.mk fun aB gE=>U.mk fun cL j5=> ?_⟩
  rintro⟨s1,s2⟩
  have hg:jZ p s= !cL:=by
   unfold jZ
   rw[j5,L9 p k (by omega),AY,<-Q2]
   have e:((p.1.getD s ([],(0:Int),(0:Int))).2.1==4)=((p.1.getD s zE).2.1==4):=rfl
   rw[e]
   generalize ((p.1.getD s zE).2.1==4)=a;generalize decide (0<=cc p ((s:Int),0))=b
   cases a<;>cases b<;>rfl
  refine⟨fun h=> ?_,fun h=> ?_⟩
  ·have hs:=aZ gE h
   exact⟨⟨by omega,by omega⟩,fun qW=>by rw[fX hs (by rw[hg,qW];rfl)],fun qW=>⟨dw hs hw.1,s+1,⟨by omega,ff s2 (by rw[hg,qW];rfl)⟩,by omega,by omega⟩⟩
  ·have hs:=bt gE h
   have:s=p.1.length:=by omega
   rw[<-this]
   exact Eq.symm s2
theorem ac4:aN Tryz.prog 176 Ly:=
 aN.b3 (l:=[(236,DD)]) (A:=Zf) aJ ⟨W7,trivial⟩ Tryz.func176 (by kernel_rfl) (by kernel_rfl) fun x hw hp=>aj9 x.1 x.2.1 hp.1 hp.2 (lj hw.1)
theorem agj (l:List Int) (m:List ((Int×Int)×Int×Int)):ah (aj aA []) Tryz.f237 K8 (Y8 (l,m,())) (l,m,())=(
U (decide ((↑l.length:Int)<(2:Int))) fun(y2:Bool)=>
(y2=true->true=zN m l/\True)/\
(y2=false->
(∃(fB:Nat),fB<=(2:Nat)/\(1:Int) - (↑fB:Int)=(1:Int)/\BJ m l fB=(-1:Int)/\l=l/\m=m/\True)/\
∀(s3:Nat),
U (decide ((1:Int) - (↑s3:Int)>=(0:Int))) fun(y4:Bool)=>
U (aW aO m (l.getD (Int.toNat (0:Int)) (0:Int),(1:Int) - (↑s3:Int))) fun(y5:Option (Int×Int))=>
U ((1:Int) - (↑s3:Int) - (1:Int)) fun(y6:Int)=>
U (decide (BJ m l s3<(0:Int))) fun(y7:Bool)=>
s3<=(2:Nat)->
(y4=true->
aL (0:Int) l.length/\
(y5.isSome=true->aL (1:Int) l.length)/\
bo IntKind.i64 y6/\
∃(jq:Nat),
jq<=(2:Nat)/\
(2:Nat) - jq<(2:Nat) - s3/\
(1:Int) - (↑jq:Int)=y6/\
(BJ m l jq=
bif bif y5.isSome then(y5.getD ((0:Int),(0:Int))).1==l.getD (Int.toNat (1:Int)) (0:Int) else false then(1:Int) - (↑s3:Int)
else BJ m l s3)/\
l=l/\m=m/\True)/\
(y4=false->
(y7=true->false=zN m l/\True)/\
(y7=false->
(∃(mQ:Nat×Int),
(mQ.1<l.length/\m6 m l (jt m l) mQ.1=some mQ.2)/\(↑mQ.1:Int)+(1:Int)=(1:Int)/\mQ.2=BJ m l s3/\l=l/\m=m/\True)/\
∀(s8:Nat×Int),
U (decide ((↑s8.1:Int)+(1:Int)<(↑l.length:Int))) fun(y9:Bool)=>
U ((↑s8.1:Int)+(1:Int) - (1:Int)) fun(bu:Int)=>
U (aW aO m (l.getD bu.toNat (0:Int),s8.2)) fun(bH:Option (Int×Int))=>
U (bif !bH.isSome then true else(bH.getD ((0:Int),(0:Int))).1 !=l.getD ((↑s8.1:Int)+(1:Int)).toNat (0:Int)) fun(aw:Bool)=>
U ((1:Int) - (bH.getD ((0:Int),(0:Int))).2) fun(aB:Int)=>
U ((↑s8.1:Int)+(1:Int)+(1:Int)) fun(cL:Int)=>
s8.1<l.length/\m6 m l (jt m l) s8.1=some s8.2->
(y9=true->
bo IntKind.i64 bu/\
aL bu l.length/\
((!bH.isSome)=false->aL ((↑s8.1:Int)+(1:Int)) l.length)/\
(aw=true->false=zN m l/\True)/\
(aw=false->
bo IntKind.i64 aB/\
bo IntKind.i64 cL/\
∃(lg:Nat×Int),
(lg.1<l.length/\m6 m l (jt m l) lg.1=some lg.2)/\
l.length - lg.1<l.length - s8.1/\(↑lg.1:Int)+(1:Int)=cL/\lg.2=aB/\l=l/\m=m/\True))/\
(y9=false->true=zN m l/\True))))):=by kernel_rfl
theorem PW {m:List (ak×ak)} {l:List Int} {out:Int} {n:Nat}:∀{k:Nat},k<=n->(m6 m l out n).isSome=true->(m6 m l out k).isSome=true:=by
 induction n with
 |zero=>intro k hk h;have:k=0:=(by omega);subst this;exact h
 |succ n ih=>
  intro k hk h
  by_cases e:k=n+1
  ·rw[e];exact h
  ·refine ih (by omega) ?_
   unfold m6 at h
   cases hg:m6 m l out n with
   |none=>rw[hg] at h;cases h
   |some o=>rfl
def GR:Option ak->Int->Option Int
 |none,_=>none
 |some q,y=>bif q.1==y then some (1 - q.2) else none
theorem PV {m:List (ak×ak)} {l:List Int} {out o:Int} {k:Nat} (h:m6 m l out k=some o):m6 m l out (k+1)=GR (aW aO m (l.getD k 0,o)) (l.getD (k+1) 0):=by
 unfold m6
 rw[h]
 simp only
 cases aW aO m (l.getD k 0,o)<;>rfl
theorem ajM (l:List Int) (m:List (ak×ak)) (hm:xr m) (hw:l.length<=aM):ah (aj aA []) Tryz.f237 K8 (Y8 (l,m,())) (l,m,()):=by
 rw[agj]
 simp only[true_and,and_true,eq_self,Int.toNat_natCast]
 have hR:zN m l=bif decide (l.length<2) then true else bif decide (jt m l<0) then false else(m6 m l (jt m l) (l.length - 1)).isSome:=by unfold zN;rfl
 refine U.mk fun y2 e2=>⟨fun h=> ?_,fun h=> ?_⟩
 ·rw[h] at e2
  have:=of_decide_eq_true e2.symm
  rw[hR,decide_eq_true (by omega)];rfl
 have hl:2<=l.length:=by
  rw[h] at e2
  have:=of_decide_eq_false e2.symm
  omega
 rw[decide_eq_false (by omega)] at hR
 simp only[cond_false] at hR
 refine⟨⟨0,by omega,by simp,rfl⟩,fun k=>U.mk fun y4 e4=>U.mk fun y5 e5=>U.mk fun y6 e6=>U.mk fun y7 e7=> ?_⟩
 intro hk
 refine⟨fun h4=> ?_,fun h4=> ?_⟩
 ·rw[h4] at e4
  have h4:=of_decide_eq_true e4.symm
  have AY:k=0\/k=1:=by omega
  refine⟨⟨by omega,by omega⟩,fun _=>⟨by omega,by omega⟩,aY (by omega) (by omega),k+1,by omega,by omega,by omega,?_⟩
  have hr:(bif y5.isSome then(y5.getD ((0:Int),(0:Int))).1==l.getD (Int.toNat (1:Int)) (0:Int) else false)=o3 m l (1 - (k:Int)):=by
   rw[e5]
   unfold o3
   show(bif(aW aO m (l.getD 0 0,1 - (k:Int))).isSome then((aW aO m (l.getD 0 0,1 - (k:Int))).getD (0,0)).1==l.getD 1 0 else false)=_
   cases aW aO m (l.getD 0 0,1 - (k:Int))<;>rfl
  rw[hr]
  rcases AY with rfl|rfl
  ·rfl
  ·show jt m l=bif o3 m l 0 then 0 else bif o3 m l 1 then 1 else -1
   rfl
 have X4:k=2:=by
  rw[h4] at e4
  have:=of_decide_eq_false e4.symm
  omega
 subst X4
 have vH:BJ m l 2=jt m l:=rfl
 rw[vH] at e7
 rw[<-e7] at hR
 refine⟨fun h7=>by rw[hR,h7];rfl,fun h7=> ?_⟩
 rw[h7] at hR
 simp only[cond_false] at hR
 refine⟨⟨(0,jt m l),⟨by show 0<l.length;omega,rfl⟩,rfl,vH.symm⟩,fun s=>U.mk fun y9 e9=>U.mk fun bu dy=>U.mk fun bH eK=>U.mk fun aw dW=>U.mk fun aB gE=>U.mk fun cL j5=> ?_⟩
 rintro⟨g1,g2⟩
 have dy:bu=(s.1:Int):=by omega
 have t10:bu.toNat=s.1:=by omega
 have t11:((s.1:Int)+1).toNat=s.1+1:=by omega
 rw[t10] at eK
 rw[t11] at dW
 have zt:m6 m l (jt m l) (s.1+1)=GR bH (l.getD (s.1+1) 0):=by rw[eK];exact PV g2
 refine⟨fun h9=> ?_,fun h9=> ?_⟩
 ·rw[h9] at e9
  have h9:=of_decide_eq_true e9.symm
  have hb:bH.isSome=true->0<=(bH.getD ((0:Int),(0:Int))).2/\(bH.getD ((0:Int),(0:Int))).2<=3:=fun hs=>by
   obtain⟨q,hq⟩:=Option.isSome_iff_exists.1 hs
   rw[hq] at eK ⊢
   exact hm _ (fM pD eK.symm)
  refine⟨AA (by have:aM=9223372036854775807:=rfl;omega) (by have:aM=9223372036854775807:=rfl;omega),⟨by omega,by omega⟩,fun _=>⟨by omega,by omega⟩,fun nX=> ?_,fun nX=> ?_⟩
  ·have o9:(m6 m l (jt m l) (s.1+1)).isSome=false:=by
    rw[zt]
    rw[nX,iy] at dW
    cases hy:bH with
    |none=>rfl
    |some q=>
     rw[hy] at dW
     simp only[Option.isSome_some,Bool.not_true,cond_false,Option.getD_some] at dW
     have:(q.1==l.getD (s.1+1) 0)=false:=by simpa using dW.symm
     simp only[GR,this,cond_false]
     rfl
   rw[hR]
   symm
   cases hc:(m6 m l (jt m l) (l.length - 1)).isSome with
   |false=>rfl
   |true=>rw[PW (k:=s.1+1) (by omega) hc] at o9;cases o9
  ·rw[nX,iy] at dW
   cases hy:bH with
   |none=>rw[hy] at dW;cases dW
   |some q=>
    rw[hy] at dW gE hb zt
    have hq:=hb rfl
    simp only[Option.isSome_some,Bool.not_true,cond_false,Option.getD_some] at dW gE hq
    have hq1:(q.1==l.getD (s.1+1) 0)=true:=by simpa using dW.symm
    have PB:m6 m l (jt m l) (s.1+1)=some (1 - q.2):=by rw[zt];simp only[GR,hq1,cond_true]
    have dQ:s.1+1<l.length:=by omega
    refine⟨aY (by omega) (by omega),AA (by have:aM=9223372036854775807:=rfl;omega) (by have:aM=9223372036854775807:=rfl;omega),(s.1+1,1 - q.2),⟨dQ,PB⟩,?_,?_,gE.symm⟩
    ·show l.length - (s.1+1)<l.length - s.1;omega
    ·show((s.1+1:Nat):Int)+1=cL;omega
 ·rw[h9] at e9
  have h9:=of_decide_eq_false e9.symm
  have:s.1=l.length - 1:=by omega
  rw[hR,<-this,g2]
  rfl
theorem acB:aN Tryz.prog 237 K8:=
 aN.b3 (l:=[]) (A:=Y8) aJ trivial Tryz.func237 (by kernel_rfl) (by kernel_rfl) fun x hw hp=>ajM x.1 x.2.1 hp hw.1.1
theorem UZ (l:List Int) (y:Int):(aW I (l.map fun e=>(e,true)) y).getD false=bN l y:=by
 rw[p6 I (fun e:Int=>e)]
 unfold bN
 congr 1
 funext e
 exact fI y e
theorem Xp (l:List Int) (y:Int) (h:bN l y=false):df I (l.map fun e=>(e,true)) y true=(l++[y]).map fun e=>(e,true):=by
 have h1:(aW I (l.map fun e=>(e,true)) y).isSome=false:=by
  rw[gZ,List.any_map]
  unfold bN at h
  rw[<-h]
  congr 1
  funext e
  exact fI y e
 rw[n9 tw h1,List.map_append]
 rfl
theorem zh (p:ab) (i:Nat) (hi:i<p.2.2.2.1.length):kN p (i+1)=kN p i++(p.2.2.2.1.getD i zL).2:=by
 unfold kN
 rw[p8 _ zL hi]
theorem agH (p:ab) (m:List ((Int×Int)×Int×Int)):ah (aj aA [(237,K8)]) Tryz.f177 Lx (Ze (p,m,())) (p,m,())=(
(∃(dr:Nat),
(dr<=p.2.2.2.1.length/\dX (jk p) dr)/\
(↑dr:Int)=(0:Int)/\
m=m/\
p.2.2.2.1=p.2.2.2.1/\
(↑p.2.2.2.1.length:Int)=(↑p.2.2.2.1.length:Int)/\
uK p dr (0:Nat)=[]/\
ay p (True))/\
∀(s2:Nat),
U (decide ((↑s2:Int)<(↑p.2.2.2.1.length:Int))) fun(y3:Bool)=>
U (p.2.2.2.1.getD (↑s2:Int).toNat ([],[])) fun(y4:List UInt8×List Int)=>
U ((↑y4.2.length:Int)==(0:Int)) fun(y5:Bool)=>
U (p.2.2.2.1.getD (↑s2:Int).toNat zL).2.length fun(y6:Nat)=>
s2<=p.2.2.2.1.length/\dX (jk p) s2->
(y3=true->
aL (↑s2:Int) p.2.2.2.1.length/\
(y5=true->false=fO p/\True)/\
(y5=false->
(∃(lf:Nat),
(lf<=y6/\GL p (↑s2:Int).toNat lf)/\
(↑lf:Int)=(0:Int)/\
m=m/\
p.2.2.2.1=p.2.2.2.1/\
(↑p.2.2.2.1.length:Int)=(↑p.2.2.2.1.length:Int)/\
(↑s2:Int)=(↑s2:Int)/\
y4.2=y4.2/\
(↑y4.2.length:Int)=(↑y4.2.length:Int)/\
uK p (↑s2:Int).toNat lf=uK p s2 (0:Nat)/\
ay p (y4.1=y4.1/\y4.2=y4.2/\True))/\
∀(s7:Nat),
U (decide ((↑s7:Int)<(↑y4.2.length:Int))) fun(y8:Bool)=>
U (y4.2.getD (↑s7:Int).toNat (0:Int)) fun(y9:Int)=>
U (bif decide (y9<(0:Int)) then true else decide (y9>=(↑p.1.length:Int))) fun(bu:Bool)=>
U (uK p (↑s2:Int).toNat s7) fun(bH:List (Int×Bool))=>
U (bif bif bu then true else(p.1.getD y9.toNat ([],(0:Int),(0:Int))).2.1 !=(1:Int) then true else(aW I bH y9).getD false)
fun(aw:Bool)=>
s7<=y6/\GL p (↑s2:Int).toNat s7->
(y8=true->
aL (↑s7:Int) y4.2.length/\
(bu=false->aL y9 p.1.length)/\
(aw=true->false=fO p/\True)/\
(aw=false->
bo IntKind.i64 ((↑s7:Int)+(1:Int))/\
∃(fR:Nat),
(fR<=y6/\GL p (↑s2:Int).toNat fR)/\
y6 - fR<y6 - s7/\
(↑fR:Int)=(↑s7:Int)+(1:Int)/\
m=m/\
p.2.2.2.1=p.2.2.2.1/\
(↑p.2.2.2.1.length:Int)=(↑p.2.2.2.1.length:Int)/\
(↑s2:Int)=(↑s2:Int)/\
y4.2=y4.2/\
(↑y4.2.length:Int)=(↑y4.2.length:Int)/\
uK p (↑s2:Int).toNat fR=df I bH y9 true/\
ay p (y4.1=y4.1/\y4.2=y4.2/\True)))/\
(y8=false->
xr m/\
((!zN m y4.2)=true->false=fO p/\True)/\
((!zN m y4.2)=false->
bo IntKind.i64 ((↑s2:Int)+(1:Int))/\
∃(fR:Nat),
(fR<=p.2.2.2.1.length/\dX (jk p) fR)/\
p.2.2.2.1.length - fR<p.2.2.2.1.length - s2/\
(↑fR:Int)=(↑s2:Int)+(1:Int)/\
m=m/\
p.2.2.2.1=p.2.2.2.1/\
(↑p.2.2.2.1.length:Int)=(↑p.2.2.2.1.length:Int)/\
uK p fR (0:Nat)=bH/\
ay p (True)))))/\
(y3=false->true=fO p/\True)):=by kernel_rfl
theorem aj8 (p:ab) (m:List (ak×ak)) (hj:bT p=true) (hm:m=dU p) (hw:PlanT.wf p):ah (aj aA [(237,K8)]) Tryz.f177 Lx (Ze (p,m,())) (p,m,()):=by
 subst hm
 have XJ:=lj hw
 have hL:fO p=de (jk p) p.2.2.2.1.length:=by unfold fO;rfl
 rw[agH,hL]
 simp only[dp,true_and,and_true,eq_self,Int.toNat_natCast]
 refine⟨⟨0,⟨by omega,rfl⟩,rfl,rfl⟩,fun i=>U.mk fun y3 e3=>U.mk fun y4 e4=>U.mk fun y5 e5=>U.mk fun y6 e6=> ?_⟩
 rintro⟨g1,g2⟩
 refine⟨fun h=> ?_,fun h=> ?_⟩
 ·have hi:=aZ e3 h
  have e4:y4=p.2.2.2.1.getD i zL:=e4
  have e6:y6=y4.2.length:=by rw[e6,e4]
  have mY:jk p i=(de (ma p i) y4.2.length&&(eD p y4.2).2):=by rw[e4];rfl
  have no:jk p i=false->false=de (jk p) p.2.2.2.1.length:=fun hf=>by rw[fX hi hf]
  have hlen:y4.2.length<=aM:=by
   rw[e4]
   exact(hw.2.2.2.1.2 _ (fJ zL hi)).2.1
  have noE:(eD p y4.2).2=false->false=de (jk p) p.2.2.2.1.length:=fun hf=>no (by rw[mY,hf,Bool.and_false])
  have Yx:y4.2.length=0->(eD p y4.2).2=false:=fun h0=>by unfold eD;rw[decide_eq_true h0];rfl
  have Yw:y4.2.all (fun e=>aK p e==1)=false->(eD p y4.2).2=false:=fun h0=>by unfold eD;rw[h0];simp
  refine⟨⟨by omega,by omega⟩,fun h5=>noE (Yx ?_),fun h5=> ?_⟩
  ·rw[h5,F3 _ 0 0 rfl] at e5
   exact of_decide_eq_true e5.symm
  have h0:y4.2.length≠0:=by
   rw[h5,F3 _ 0 0 rfl] at e5
   exact of_decide_eq_false e5.symm
  refine⟨⟨0,⟨by omega,rfl,rfl⟩,rfl,?_⟩,fun k=>U.mk fun y8 e8=>U.mk fun y9 e9=>U.mk fun bu dy=>U.mk fun bH eK=>U.mk fun aw dW=> ?_⟩
  ·unfold uK;simp
  rintro⟨s1,s2,s3⟩
  have s3:(y4.2.take k).all (mX p)=true:=by rw[e4];exact s3
  have Da:bH=(kN p i++y4.2.take k).map fun e=>(e,true):=by rw[eK,e4];rfl
  refine⟨fun h8=> ?_,fun h8=> ?_⟩
  ·have hk:=aZ e8 h8
   have wU:(aW I bH y9).getD false=bN (kN p i++y4.2.take k) y9:=by rw[Da];exact UZ _ _
   have qn:ma p i k= !(aW I bH y9).getD false:=by
    rw[wU,e9,e4];rfl
   have BX:(mX p y9)= !(bif bu then true else(p.1.getD y9.toNat ([],(0:Int),(0:Int))).2.1 !=1):=by
    unfold mX aK
    rw[dy,wY,iy]
    cases decide (y9<0) with
    |true=>rfl
    |false=>
     cases decide ((p.1.length:Int)<=y9) with
     |true=>rfl
     |false=>
      simp only[cond_false,Bool.or_self,Bool.not_not]
      rfl
   refine⟨⟨by omega,by omega⟩,fun lp=> ?_,fun nX=> ?_,fun nX=> ?_⟩
   ·rw[lp] at dy
    cases h1:decide (y9<0) with
    |true=>rw[h1] at dy;cases dy
    |false=>
     rw[h1] at dy
     have h1:=of_decide_eq_false h1
     have h2:=of_decide_eq_false dy.symm
     exact⟨by omega,by omega⟩
   ·rw[dW] at nX
    cases ht:mX p y9 with
    |false=>
     refine noE (Yw ?_)
     exact mM (p:=mX p) 0 hk (by rw[<-e9,ht])
    |true=>
     rw[BX,Bool.not_eq_true'] at ht
     rw[ht] at nX
     have nX:(aW I bH y9).getD false=true:=nX
     refine no ?_
     rw[mY,fX hk (by rw[qn,nX];rfl)]
     rfl
   ·rw[dW] at nX
    have ht:(bif bu then true else(p.1.getD y9.toNat ([],(0:Int),(0:Int))).2.1 !=1)=false:=by
     cases hb:(bif bu then true else(p.1.getD y9.toNat ([],(0:Int),(0:Int))).2.1 !=1) with
     |false=>rfl
     |true=>rw[hb] at nX;cases nX
    rw[ht] at nX
    have nX:(aW I bH y9).getD false=false:=nX
    refine⟨dw hk hlen,k+1,⟨by omega,ff s2 (by rw[qn,nX];rfl),?_⟩,by omega,by omega,?_⟩
    ·have:=all_succ 0 hk s3 (by rw[<-e9,BX,ht];rfl)
     rw[e4] at this
     exact this
    ·rw[wU] at nX
     rw[Da,Xp _ _ nX]
     unfold uK
     rw[<-e4,eQ 0 hk,<-e9,List.append_assoc]
  ·have hk:=bt e8 h8
   have AY:k=y4.2.length:=by omega
   have hT:y4.2.all (fun e=>aK p e==1)=true:=by
    rw[List.take_of_length_le (by omega)] at s3
    exact s3
   have hN:de (ma p i) y4.2.length=true:=by rw[<-AY];exact s2
   have Db:=OH p y4.2 h0 hT
   refine⟨CP hj,fun hf=>noE ?_,fun hf=>⟨dw hi XJ.2.2.2,i+1,⟨by omega,ff g2 ?_⟩,by omega,by omega,?_⟩⟩
   ·rw[<-Db];simpa using hf
   ·rw[mY,hN,<-Db];simpa using hf
   ·rw[Da,List.take_of_length_le (by omega)]
    unfold uK
    rw[zh p i hi,<-e4]
    simp
 ·have hi:=bt e3 h
  have:i=p.2.2.2.1.length:=by omega
  rw[<-this]
  exact Eq.symm g2
theorem ac3:aN Tryz.prog 177 Lx:=
 aN.b3 (l:=[(237,K8)]) (A:=Ze) aJ ⟨acB,trivial⟩ Tryz.func177 (by kernel_rfl) (by kernel_rfl) fun x hw hp=>aj8 x.1 x.2.1 hp.1 hp.2 hw.1
theorem agG (p:ab):ah (aj aA [(238,K7)]) Tryz.f178 Lw (Zd (p,())) (p,())=(
U (p.2.2.2.2.1+m9 p.2.2.2.2.1 p.2.2.2.2.2.1) fun(y1:Int)=>
U (decide (p.2.2.2.2.2.2.1<y1)) fun(y2:Bool)=>
True/\
bo IntKind.i64 y1/\
(y2=true->false=lu p/\True)/\
(y2=false->
(∃(fB:Nat),
(fB<=p.2.2.1.length/\fg (jU p) p.2.2.1 fB)/\
(↑fB:Int)=(0:Int)/\
p.2.2.1=p.2.2.1/\
(↑p.2.2.1.length:Int)=(↑p.2.2.1.length:Int)/\
ay p (True))/\
∀(s3:Nat),
U (decide ((↑s3:Int)<(↑p.2.2.1.length:Int))) fun(y4:Bool)=>
U (p.2.2.1.getD (↑s3:Int).toNat ([],((0:Int),(0:Int)),false)).2.1.1 fun(y5:Int)=>
U (p.1.getD y5.toNat ([],(0:Int),(0:Int))).2 fun(y6:Int×Int)=>
U (bif y6.1==(1:Int) then decide (y6.2<p.2.2.2.2.2.2.1) else false) fun(y7:Bool)=>
s3<=p.2.2.1.length/\fg (jU p) p.2.2.1 s3->
(y4=true->
aL (↑s3:Int) p.2.2.1.length/\
aL y5 p.1.length/\
(y7=true->false=lu p/\True)/\
(y7=false->
bo IntKind.i64 ((↑s3:Int)+(1:Int))/\
∃(jq:Nat),
(jq<=p.2.2.1.length/\fg (jU p) p.2.2.1 jq)/\
p.2.2.1.length - jq<p.2.2.1.length - s3/\
(↑jq:Int)=(↑s3:Int)+(1:Int)/\
p.2.2.1=p.2.2.1/\
(↑p.2.2.1.length:Int)=(↑p.2.2.1.length:Int)/\
ay p (True)))/\
(y4=false->
(∃(mQ:Nat),
(mQ<=p.1.length/\fg (iw p) p.1 mQ)/\
(↑mQ:Int)=(0:Int)/\
p.1=p.1/\
(↑p.1.length:Int)=(↑p.1.length:Int)/\
ay p (True))/\
∀(s8:Nat),
U (decide ((↑s8:Int)<(↑p.1.length:Int))) fun(y9:Bool)=>
U (p.1.getD (↑s8:Int).toNat ([],(0:Int),(0:Int))).2 fun(bu:Int×Int)=>
U (bif bu.1 !=(4:Int) then decide (bu.2<p.2.2.2.2.1) else false) fun(bH:Bool)=>
s8<=p.1.length/\fg (iw p) p.1 s8->
(y9=true->
aL (↑s8:Int) p.1.length/\
(bH=true->false=lu p/\True)/\
(bH=false->
bo IntKind.i64 ((↑s8:Int)+(1:Int))/\
∃(nw:Nat),
(nw<=p.1.length/\fg (iw p) p.1 nw)/\
p.1.length - nw<p.1.length - s8/\
(↑nw:Int)=(↑s8:Int)+(1:Int)/\
p.1=p.1/\
(↑p.1.length:Int)=(↑p.1.length:Int)/\
ay p (True)))/\
(y9=false->true=lu p/\True)))):=by kernel_rfl
theorem aj7 (p:ab) (hn:oP p=true) (hg:dq p=true) (hw:pQ p):ah (aj aA [(238,K7)]) Tryz.f178 Lw (Zd (p,())) (p,()):=by
 have hL:lu p=(!decide (p.2.2.2.2.2.2.1<p.2.2.2.2.1+m9 p.2.2.2.2.1 p.2.2.2.2.2.1)&&(p.2.2.1.all (jU p)&&p.1.all (iw p))):=by unfold lu;rfl
 obtain⟨n1,n2,n3⟩:=FB hn
 have jD:=Dm p.2.2.2.2.1 p.2.2.2.2.2.1
 rw[agG,hL]
 refine U.mk fun y1 e1=>U.mk fun y2 e2=> ?_
 rw[<-e1,<-e2]
 simp only[dp,true_and,and_true,eq_self,Int.toNat_natCast]
 refine⟨aY (by omega) (by omega),fun h=>by rw[h];rfl,fun h=> ?_⟩
 rw[h,Bool.not_false,Bool.true_and]
 have PI:∀s,s<p.2.2.1.length->dC p (p.2.2.1.getD s zS).2.1=true:=fun s hs=>by
  unfold dq at hg
  rw[Bool.and_eq_true] at hg
  have:=gx.1 hg.1 s hs
  unfold lb CB at this
  rw[Bool.and_eq_true] at this
  exact this.1
 refine⟨⟨0,⟨by omega,rfl⟩,rfl⟩,fun s=>U.mk fun y4 e4=>U.mk fun y5 e5=>U.mk fun y6 e6=>U.mk fun y7 e7=> ?_⟩
 rintro⟨h1,h2⟩
 have h2:(p.2.2.1.take s).all (jU p)=true:=h2
 have e5:y5=(p.2.2.1.getD s zS).2.1.1:=e5
 refine⟨fun h=> ?_,fun h=> ?_⟩
 ·have h:=aZ e4 h
  have hf:=me (PI s h)
  rw[<-e5] at hf
  have hlen:q7 p y5=y6.2:=by
   rw[e6]
   unfold q7
   rw[decide_eq_false (by omega),decide_eq_false (by omega)]
   rfl
  have hS:jU p (p.2.2.1.getD s zS)= !y7:=by
   rw[e7]
   unfold jU
   rw[<-e5,hf.2.2.2.2,hlen,e6]
   show(!((p.1.getD y5.toNat zE).2.1==1&&_))= !(bif(p.1.getD y5.toNat zE).2.1==1 then _ else false)
   cases (p.1.getD y5.toNat zE).2.1==1<;>rfl
  refine⟨⟨by omega,by omega⟩,⟨by omega,by omega⟩,fun h6=> ?_,fun h6=>⟨dw h hw.2.2.1,s+1,⟨by omega,?_⟩,by omega,by omega⟩⟩
  ·rw[mM zS h (by rw[hS,h6];rfl)]
   rfl
  ·exact all_succ zS h h2 (by rw[hS,h6];rfl)
 rw[jG (bt e4 h) h2,Bool.true_and]
 refine⟨⟨0,⟨by omega,rfl⟩,rfl⟩,fun u=>U.mk fun y9 e9=>U.mk fun bu dy=>U.mk fun bH eK=> ?_⟩
 rintro⟨g1,g2⟩
 have g2:(p.1.take u).all (iw p)=true:=g2
 have hS:iw p (p.1.getD u zE)= !bH:=by
  have dy:bu=(p.1.getD u zE).2:=dy
  rw[eK,iy]
  unfold iw
  rw[<-dy]
  have key:∀a b:Bool,(!(!a&&b))= !(bif !a then b else false):=by decide
  exact key _ _
 refine⟨fun h=> ?_,fun h=> ?_⟩
 ·have h:=aZ e9 h
  refine⟨⟨by omega,by omega⟩,fun h6=> ?_,fun h6=>⟨dw h hw.1,u+1,⟨by omega,?_⟩,by omega,by omega⟩⟩
  ·rw[mM zE h (by rw[hS,h6];rfl)]
  ·exact all_succ zE h g2 (by rw[hS,h6];rfl)
 rw[jG (bt e9 h) g2]
theorem ac2:aN Tryz.prog 178 Lw:=
 aN.b3 (l:=[(238,K7)]) (A:=Zd) aJ ⟨acA,trivial⟩ Tryz.func178 (by kernel_rfl) (by kernel_rfl) fun x hw hp=>aj7 x.1 hp.1 hp.2 (lj hw.1)
def w3 (p:ab):Bool:=dT (fE p)||(dT (eZ p)||dT (eN p))
theorem ER (p:ab):bX p=bif !lC p then 3 else bif !fArgs p then 1 else bif w3 p then 4 else
 bif !bT p then 6 else bif !dq p then 7 else bif !fO p then 8 else bif !lu p then 9 else 0:=by unfold bX;rfl
theorem Qv {p:ab} (h:fArgs p=true):oP p=true:=by
 unfold fArgs at h
 rw[Bool.and_eq_true] at h
 exact h.1
theorem Qd (p:ab) (hS:lC p=true) (hA:fArgs p=true) (hT:w3 p=false):
  ((!bT p)=true->(6:Int)=bX p)/\((!bT p)=false->(bT p=true/\nc p=dU p)/\
   ((!dq p)=true->(7:Int)=bX p)/\((!dq p)=false->(bT p=true/\nc p=dU p)/\
    ((!fO p)=true->(8:Int)=bX p)/\((!fO p)=false->(oP p=true/\dq p=true)/\
     ((!lu p)=true->(9:Int)=bX p)/\((!lu p)=false->(0:Int)=bX p)))):=by
 have hC:=ER p
 rw[hS,hA,hT] at hC
 simp only[Bool.not_true,cond_false] at hC
 refine⟨fun h=>by rw[hC,h];rfl,fun h=> ?_⟩
 have hJ:bT p=true/\nc p=dU p:=by
  have:bT p=true:=by simpa using h
  refine⟨this,?_⟩
  unfold nc
  rw[this];rfl
 rw[h] at hC
 simp only[cond_false] at hC
 refine⟨hJ,fun h=>by rw[hC,h];rfl,fun h=> ?_⟩
 have hG:dq p=true:=by simpa using h
 rw[h] at hC
 simp only[cond_false] at hC
 refine⟨hJ,fun h=>by rw[hC,h];rfl,fun h=>⟨⟨(Qv hA),hG⟩,fun h'=> ?_,fun h'=> ?_⟩⟩
 ·rw[hC,h,h'];rfl
 ·rw[hC,h,h'];rfl
theorem aha (p:ab):ah (aj aA [(170,LF),(1730171,ue),(1740171,ud),(1750171,uc),(175,Lz),(176,Ly),(177,Lx),(178,Lw)] [] [(172,.pair (.ref PlanT) .unit),(173,.pair (.ref PlanT) .unit),(174,.pair (.ref PlanT) .unit)]) Tryz.f108 L1 ar (p,())=(
U
(bif bif bif decide ((↑p.1.length:Int)>(40:Int)) then true else decide ((↑p.2.2.1.length:Int)>(24:Int)) then true else decide ((↑p.2.2.2.1.length:Int)>(4:Int)) then
true
else decide ((↑p.2.1.length:Int)>(80:Int)))
fun(y1:Bool)=>
U (p.2.2.2.2.2.1,p.2.2.2.2.2.2.1,p.2.2.2.2.2.2.2.1,p.2.2.2.2.2.2.2.2) fun(y2:Int×Int×Int×Bool)=>
U (p.2.2.1,p.2.2.2.1,p.2.2.2.2.1,y2) fun(y3:List (List UInt8×(Int×Int)×Bool)×List (List UInt8×List Int)×Int×Int×Int×Int×Bool)=>
U (bif dT (fE p) then true else dT (eZ (p.1,p.2.1,y3))) fun(y4:Bool)=>
U (p.2.2.2.1,p.2.2.2.2.1,y2).1 fun(y5:List (List UInt8×List Int))=>
U (bif y4 then true else dT (eN (p.1,p.2.1,y3))) fun(y6:Bool)=>
U
((p.1,p.2.1,y3).1,(p.2.1,y3).1,y3.1,y5,(p.2.2.2.2.1,y2).1,y2.1,
(p.2.2.2.2.2.2.1,p.2.2.2.2.2.2.2.1,p.2.2.2.2.2.2.2.2).1,p.2.2.2.2.2.2.2.1,p.2.2.2.2.2.2.2.2)
fun(y7:ab)=>
(y1=true->(3:Int)=bX p/\True)/\
(y1=false->
True/\
((!fArgs p)=true->(1:Int)=bX p/\True)/\
((!fArgs p)=false->
(↑p.1.length:Int)=(↑p.1.length:Int)/\
(dT (fE p)=false->(↑y3.1.length:Int)=(↑y3.1.length:Int))/\
(y4=false->(↑y5.length:Int)=(↑(p.2.2.2.1,p.2.2.2.2.1,y2).1.length:Int))/\
(y6=true->(4:Int)=bX p/\True)/\
(y6=false->
True/\
((!bT y7)=true->(6:Int)=bX p/\True)/\
((!bT y7)=false->
(bT y7=true/\nc y7=dU y7)/\
((!dq y7)=true->(7:Int)=bX p/\True)/\
((!dq y7)=false->
(bT y7=true/\nc y7=dU y7)/\
((!fO y7)=true->(8:Int)=bX p/\True)/\
((!fO y7)=false->
(oP y7=true/\dq y7=true)/\
((!lu y7)=true->(9:Int)=bX p/\True)/\((!lu y7)=false->(0:Int)=bX p/\True)))))))):=by kernel_rfl
theorem akz (p:ab):ah (aj aA [(170,LF),(1730171,ue),(1740171,ud),(1750171,uc),(175,Lz),(176,Ly),(177,Lx),(178,Lw)] [] [(172,.pair (.ref PlanT) .unit),(173,.pair (.ref PlanT) .unit),(174,.pair (.ref PlanT) .unit)]) Tryz.f108 L1 ar (p,()):=by
 rw[aha]
 refine U.mk fun y1 e1=>U.mk fun y2 e2=>U.mk fun y3 e3=>U.mk fun y4 e4=>U.mk fun y5 e5=>U.mk fun y6 e6=>U.mk fun y7 e7=> ?_
 have hy7:y7=p:=by rw[e7,e5,e3,e2]
 have RS:y4=(dT (fE p)||dT (eZ p)):=by rw[e4,e3,e2];cases dT (fE p)<;>rfl
 have hy6:y6=w3 p:=by
  rw[e6,RS,e3,e2]
  unfold w3
  cases dT (fE p)<;>cases dT (eZ p)<;>rfl
 have hS:lC p= !y1:=by
  rw[e1,wc _ 40 40 rfl,wc _ 24 24 rfl,wc _ 4 4 rfl,wc _ 80 80 rfl]
  unfold lC
  generalize decide (p.1.length<=40)=a;generalize decide (p.2.2.1.length<=24)=b;generalize decide (p.2.2.2.1.length<=4)=c;generalize decide (p.2.1.length<=80)=d
  cases a<;>cases b<;>cases c<;>cases d<;>rfl
 rw[hy7]
 have hC:=ER p
 simp only[true_and,and_true,eq_self]
 refine⟨fun h=>by rw[hC,hS,h];rfl,fun h=> ?_⟩
 have hS:lC p=true:=by rw[hS,h];rfl
 rw[hS] at hC
 refine⟨fun h=>by rw[hC,h];rfl,fun h=> ?_⟩
 have hA:fArgs p=true:=by simpa using h
 have four:w3 p=true->(4:Int)=bX p:=fun ht=>by rw[hC,hA,ht];rfl
 have rest:=Qd p hS hA
 exact⟨fun _=>trivial,fun _=>by rw[e5],fun h=>four (by rw[<-hy6,h]),fun h=>rest (by rw[<-hy6,h])⟩
theorem adJ:aN Tryz.prog 108 L1:=
 aN.b3 (l:=[(170,LF),(1730171,ue),(1740171,ud),(1750171,uc),(175,Lz),(176,Ly),(177,Lx),(178,Lw)]) (clos:=[(172,.pair (.ref PlanT) .unit),(173,.pair (.ref PlanT) .unit),(174,.pair (.ref PlanT) .unit)]) (A:=fun _=>ar) aJ
  ⟨ac9,Rs,Rr,Rq,ac5,ac4,ac3,ac2,trivial⟩ Tryz.func108 (by kernel_rfl) (by kernel_rfl) fun x hw hp=>akz x.1
def cR {α:Type} (l:List α):Prop:=l.length<=1000
def Lv:bg where
 args:=[.list Cn]
 out:= .row 81 Cn
 pre:=fun(x:List mA×Unit)=>cR x.1
 fn:=fun(x:List mA×Unit)=>(x.1,())
def Lu:bg where
 args:=[.list Cm]
 out:= .row 158 Cm
 pre:=fun(x:List nm×Unit)=>cR x.1
 fn:=fun(x:List nm×Unit)=>(x.1,())
def Lt:bg where
 args:=[.list xa]
 out:= .row 161 xa
 pre:=fun(x:List gy×Unit)=>cR x.1
 fn:=fun(x:List gy×Unit)=>(x.1,())
def Ls:bg where
 args:=[.list yd]
 out:= .row 174 yd
 pre:=fun(x:List ly×Unit)=>cR x.1
 fn:=fun(x:List ly×Unit)=>(x.1,())
def IZ:bg where
 args:=[.list I]
 out:= .row 3 I
 pre:=fun(x:List Int×Unit)=>cR x.1
 fn:=fun(x:List Int×Unit)=>(x.1,())
def kK (p:ab):Prop:=cR p.1/\cR p.2.1/\cR p.2.2.1/\cR p.2.2.2.1/\cY p
def DK:bg where
 args:=[PlanT]
 out:= .data [PlanT]
 pre:=fun(x:ab×Unit)=>kK x.1
 fn:=fun(x:ab×Unit)=>(x.1,())
def a109 (x:ab×Unit):eA:=bh [(4,fun _=>{
 σ:=Nat
 ok:=fun k=>k<=x.1.2.2.2.1.length
 mu:=fun k=>x.1.2.2.2.1.length - k
 sl:=fun k=>[(23,.one (.aG I (k:Int)))]
 bl:=fun k=>[(18,.row false 174 yd x.1.2.2.2.1)]
 keep:=[1,2,22]
 cv:=[1,2,6,9,12]})]
def gH (p:ab):Nat->List (ak×Int)
 |0=>[]
 |k+1=>gH p k++[((p.2.2.1.getD k zS).2.1,(k:Int))]
def ll (i:Int) (l:List Int):Nat->List (Int×Int×Int)
 |0=>[]
 |k+1=>ll i l k++[(l.getD k 0,i,(k:Int))]
def iN (p:ab):Nat->List (Int×Int×Int)
 |0=>[]
 |i+1=>iN p i++ll (i:Int) (p.2.2.2.1.getD i zL).2 (p.2.2.2.1.getD i zL).2.length
def M8 (p:ab) (l:List Int):Int:=bif decide ((l.length:Int)>1) then(bif o3 (dU p) l 0 then 1 else 0) else 0
def pG (p:ab) (l:List Int):Nat->Int
 |0=>M8 p l
 |k+1=>((aW aO (dU p) (l.getD k 0,1 - pG p l k)).getD (0,0)).2
def nU (p:ab) (l:List Int):Nat->List (Int×Int)
 |0=>[]
 |k+1=>nU p l k++[(l.getD k 0,pG p l k)]
def jX (p:ab):Nat->List (Int×Int)
 |0=>[]
 |i+1=>jX p i++nU p (p.2.2.2.1.getD i zL).2 (p.2.2.2.1.getD i zL).2.length
@[irreducible] def zO (p:ab):List (ak×Int):=gH p p.2.2.1.length
@[irreducible] def Dq (p:ab):List (Int×Int×Int):=iN p p.2.2.2.1.length
@[irreducible] def NG (p:ab):List (Int×Int):=jX p p.2.2.2.1.length
@[irreducible] def nf (p:ab):bk:=(p,dU p,zO p,Dq p,NG p)
@[irreducible] def kA (p:ab):Option bk:=bif bX p==0 then some (nf p) else none
def NO:bg where
 args:=[PlanT]
 out:= .data [.ptr jx,I]
 pre:=fun(x:ab×Unit)=>cY x.1
 fn:=fun(x:ab×Unit)=>(kA x.1,bX x.1,())
def jN (p:ab) (i:Int):List Int:=(p.2.2.2.1.getD i.toNat zL).2
def a50 (x:ab×Unit):eA:=bh [
 (6,fun _=>uO x.1.2.1.length (fun _=>True) 33 24 aO aO (bY x.1) [1,5,31,32] [1,29,25,26,27]),
 (11,fun _=>uO x.1.2.2.1.length (fun _=>True) 61 25 aO I (gH x.1) [1,5,59,60] [1,29,24,26,27]),
 (16,fun _=>{
  σ:=Nat
  ok:=fun k=>k<=x.1.2.2.2.1.length
  mu:=fun k=>x.1.2.2.2.1.length - k
  sl:=fun k=>[(77,.one (.aG I (k:Int)))]
  bl:=fun k=>[(26,.map false I (.pair I I) (iN x.1 k) none),(27,.map false I I (jX x.1 k) none)]
  keep:=[1,5,75,76]
  cv:=[1,29,24,25]}),
 (24,fun S=>{
  σ:=Nat
  ok:=fun k=>k<=(jN x.1 (da S 77)).length
  mu:=fun k=>(jN x.1 (da S 77)).length - k
  sl:=fun k=>[(112,.one (.aG I (k:Int))),(12,.one (.aG I (pG x.1 (jN x.1 (da S 77)) k)))]
  bl:=fun k=>[(26,.map false I (.pair I I) (iN x.1 (da S 77).toNat++ll (da S 77) (jN x.1 (da S 77)) k) none),(27,.map false I I (jX x.1 (da S 77).toNat++nU x.1 (jN x.1 (da S 77)) k) none)]
  keep:=[1,5,10,11,75,76,77,110,111]
  cv:=[1,29,24,25,11]})]
def aaf (o:Option (Int×Int)):Int×Int:=match o with
 |some x=>x
 |none=>(-1, -1)
@[irreducible] def ic (n:bk) (e:Int):Int×Int:=aaf (aW I n.2.2.2.1 e)
@[irreducible] def uZ (n:bk) (e i:Int):Int:=bif !(aW I n.2.2.2.2 e).isSome||(decide (i<0)||decide (i>1)) then 0 else bif(aW I n.2.2.2.2 e).getD 0==i then 1 else 2
def Ln:bg where
 args:=[.ref jx,I]
 out:= .data [I,I]
 pre:=fun(x:bk×Int×Unit)=>True
 fn:=fun(x:bk×Int×Unit)=>((ic x.1 x.2.1).1,(ic x.1 x.2.1).2,())
def Lm:bg where
 args:=[.ref jx,I,I]
 out:= .data [I]
 pre:=fun(x:bk×Int×Int×Unit)=>True
 fn:=fun(x:bk×Int×Int×Unit)=>(uZ x.1 x.2.1 x.2.2.1,())
def Lp:bg where
 args:=[.ref jx,I]
 out:= .data [aO,.bool]
 pre:=fun(x:bk×Int×Unit)=>True
 fn:=fun(x:bk×Int×Unit)=>((lL x.1.1 x.2.1).1,(lL x.1.1 x.2.1).2,())
def c52:bg where
 args:=[.ref jx]
 out:= .data [I]
 pre:=fun(x:bk×Unit)=>True
 fn:=fun(x:bk×Unit)=>((x.1.1.1.length:Int),())
@[irreducible] def Yv (p:ab):Option bk:=bif oQ p then some (nf p) else none
theorem agF (l:List (List UInt8×Int×Int)):ah (aj aA []) Tryz.f179 Lv ar (l,())=(
U (List.replicate (0:Nat) ([],(0:Int),(0:Int))) fun(y1:List (List UInt8×Int×Int))=>
∀(b2:Bool),(b2=true->l=[])->(b2=true->[]=l/\True)/\(b2=false->roomFor (y1.length+l.length) (32:Nat)/\y1++l=l/\True)):=by kernel_rfl
theorem agE (l:List ((Int×Int)×Int×Int)):ah (aj aA []) Tryz.f180 Lu ar (l,())=(
U (List.replicate (0:Nat) (((0:Int),(0:Int)),(0:Int),(0:Int))) fun(y1:List ((Int×Int)×Int×Int))=>
∀(b2:Bool),(b2=true->l=[])->(b2=true->[]=l/\True)/\(b2=false->roomFor (y1.length+l.length) (32:Nat)/\y1++l=l/\True)):=by kernel_rfl
theorem agD (l:List (List UInt8×(Int×Int)×Bool)):ah (aj aA []) Tryz.f181 Lt ar (l,())=(
U (List.replicate (0:Nat) ([],((0:Int),(0:Int)),false)) fun(y1:List (List UInt8×(Int×Int)×Bool))=>
∀(b2:Bool),(b2=true->l=[])->(b2=true->[]=l/\True)/\(b2=false->roomFor (y1.length+l.length) (40:Nat)/\y1++l=l/\True)):=by kernel_rfl
theorem v182 (l:List (List UInt8×List Int)):ah (aj aA []) Tryz.f182 Ls ar (l,())=(
∀(b1:Bool),
(b1=true->l=[])->(b1=true->[]=l/\True)/\(b1=false->roomFor ((List.replicate (0:Nat) (([],[]):List Int×List (List Int×Int))).length+l.length) (40:Nat)/\List.replicate (0:Nat) ([],[])++l=l/\True)):=by kernel_rfl
theorem v59 (l:List Int):ah (aj aA []) Tryz.f59 IZ ar (l,())=(
∀(b1:Bool),
(b1=true->l=[])->(b1=true->[]=l/\True)/\(b1=false->roomFor ((List.replicate (0:Nat) (0:Int)).length+l.length) (8:Nat)/\List.replicate (0:Nat) (0:Int)++l=l/\True)):=by kernel_rfl
theorem r7 {α:Type} {l:List α} {n b:Nat} (h:l.length<=1000) (hn:n=0) (hb:b<=1000):roomFor (n+l.length) b:=cT (by omega) hb
theorem ac1:aN Tryz.prog 179 Lv:=
 aN.b3 (l:=[]) (A:=fun _=>ar) aJ trivial Tryz.func179 (by kernel_rfl) (by kernel_rfl) fun x _ hp=>by
  obtain⟨l,u⟩:=x
  show ah (aj aA []) Tryz.f179 Lv ar (l,())
  rw[agF]
  refine U.mk fun y1 e1=>fun b hb=>⟨fun h=>⟨(hb h).symm,trivial⟩,fun h=>⟨r7 hp (by rw[e1];rfl) (by decide),by rw[e1];rfl,trivial⟩⟩
theorem ac0:aN Tryz.prog 180 Lu:=
 aN.b3 (l:=[]) (A:=fun _=>ar) aJ trivial Tryz.func180 (by kernel_rfl) (by kernel_rfl) fun x _ hp=>by
  obtain⟨l,u⟩:=x
  show ah (aj aA []) Tryz.f180 Lu ar (l,())
  rw[agE]
  refine U.mk fun y1 e1=>fun b hb=>⟨fun h=>⟨(hb h).symm,trivial⟩,fun h=>⟨r7 hp (by rw[e1];rfl) (by decide),by rw[e1];rfl,trivial⟩⟩
theorem acZ:aN Tryz.prog 181 Lt:=
 aN.b3 (l:=[]) (A:=fun _=>ar) aJ trivial Tryz.func181 (by kernel_rfl) (by kernel_rfl) fun x _ hp=>by
  obtain⟨l,u⟩:=x
  show ah (aj aA []) Tryz.f181 Lt ar (l,())
  rw[agD]
  refine U.mk fun y1 e1=>fun b hb=>⟨fun h=>⟨(hb h).symm,trivial⟩,fun h=>⟨r7 hp (by rw[e1];rfl) (by decide),by rw[e1];rfl,trivial⟩⟩
theorem acY:aN Tryz.prog 182 Ls:=
 aN.b3 (l:=[]) (A:=fun _=>ar) aJ trivial Tryz.func182 (by kernel_rfl) (by kernel_rfl) fun x _ hp=>by
  obtain⟨l,u⟩:=x
  show ah (aj aA []) Tryz.f182 Ls ar (l,())
  rw[v182]
  exact fun b hb=>⟨fun h=>⟨(hb h).symm,trivial⟩,fun h=>⟨r7 hp rfl (by decide),by first|exact⟨rfl,trivial⟩|trivial⟩⟩
theorem Tf:aN Tryz.prog 59 IZ:=
 aN.b3 (l:=[]) (A:=fun _=>ar) aJ trivial Tryz.func59 (by kernel_rfl) (by kernel_rfl) fun x _ hp=>by
  obtain⟨l,u⟩:=x
  show ah (aj aA []) Tryz.f59 IZ ar (l,())
  rw[v59]
  exact fun b hb=>⟨fun h=>⟨(hb h).symm,trivial⟩,fun h=>⟨r7 hp rfl (by decide),by first|exact⟨rfl,trivial⟩|trivial⟩⟩
theorem v109 (p:ab):ah (aj aA [(179,Lv),(180,Lu),(181,Lt),(182,Ls),(59,IZ)]) Tryz.f109 DK (a109 (p,())) (p,())=(
cR p.1/\
cR p.2.1/\
cR p.2.2.1/\
cR p.2.2.2.1/\
(∃(rn:Nat),
rn<=p.2.2.2.1.length/\
(↑rn:Int)=(0:Int)/\
(↑p.2.2.2.1.length:Int)=(↑p.2.2.2.1.length:Int)/\
p.2.2.2.1=p.2.2.2.1/\
p.2.2.2.2.1=p.2.2.2.2.1/\
p.2.2.2.2.2.1=p.2.2.2.2.2.1/\
p.2.2.2.2.2.2.1=p.2.2.2.2.2.2.1/\
p.2.2.2.2.2.2.2.1=p.2.2.2.2.2.2.2.1/\
p.2.2.2.2.2.2.2.2=p.2.2.2.2.2.2.2.2/\
(0:Int)=(0:Int)/\
(0:Int)=(0:Int)/\(0:Int)=(0:Int)/\(0:Int)=(0:Int)/\false=false/\p.1=p.1/\p.2.1=p.2.1/\p.2.2.1=p.2.2.1/\True)/\
∀(s1:Nat),
U (decide ((↑s1:Int)<(↑p.2.2.2.1.length:Int))) fun(y2:Bool)=>
U (p.2.2.2.1.getD (↑s1:Int).toNat ([],[])) fun(y3:List UInt8×List Int)=>
s1<=p.2.2.2.1.length->
(y2=true->
aL (↑s1:Int) p.2.2.2.1.length/\
cR y3.2/\
aL (↑s1:Int) p.2.2.2.1.length/\
bo IntKind.i64 ((↑s1:Int)+(1:Int))/\
∃(OC:Nat),
OC<=p.2.2.2.1.length/\
p.2.2.2.1.length - OC<p.2.2.2.1.length - s1/\
(↑OC:Int)=(↑s1:Int)+(1:Int)/\
(↑p.2.2.2.1.length:Int)=(↑p.2.2.2.1.length:Int)/\
p.2.2.2.1=p.2.2.2.1.set (↑s1:Int).toNat y3/\
p.2.2.2.2.1=p.2.2.2.2.1/\
p.2.2.2.2.2.1=p.2.2.2.2.2.1/\
p.2.2.2.2.2.2.1=p.2.2.2.2.2.2.1/\
p.2.2.2.2.2.2.2.1=p.2.2.2.2.2.2.2.1/\
p.2.2.2.2.2.2.2.2=p.2.2.2.2.2.2.2.2/\
(0:Int)=(0:Int)/\
(0:Int)=(0:Int)/\
(0:Int)=(0:Int)/\(0:Int)=(0:Int)/\false=false/\p.1=p.1/\p.2.1=p.2.1/\p.2.2.1=p.2.2.1/\True)/\
(y2=false->(p.1,p.2.1,p.2.2.1,p.2.2.2.1,p.2.2.2.2)=p/\True)):=by kernel_rfl
theorem aky (p:ab) (hp:kK p):ah (aj aA [(179,Lv),(180,Lu),(181,Lt),(182,Ls),(59,IZ)]) Tryz.f109 DK (a109 (p,())) (p,()):=by
 rw[v109]
 simp only[dp,true_and,and_true,eq_self,Int.toNat_natCast]
 refine⟨hp.1,hp.2.1,hp.2.2.1,hp.2.2.2.1,⟨0,by omega,rfl⟩,fun k=>U.mk fun y2 e2=>U.mk fun y3 e3=>fun hk=>⟨fun h=> ?_,fun _=>trivial⟩⟩
 have hk:=aZ e2 h
 have e3:y3=p.2.2.2.1.getD k zL:=e3
 have hm:y3∈p.2.2.2.1:=by rw[e3];exact fJ zL hk
 have h4:p.2.2.2.1.length<=1000:=hp.2.2.2.1
 refine⟨⟨by omega,by omega⟩,hp.2.2.2.2 y3 hm,⟨by omega,by omega⟩,aY (by omega) (by omega),k+1,by omega,by omega,by omega,?_⟩
 rw[e3,eW zL hk,List.set_getElem_self]
theorem Xj:aN Tryz.prog 109 DK:=
 aN.b3 (l:=[(179,Lv),(180,Lu),(181,Lt),(182,Ls),(59,IZ)]) (A:=a109) aJ ⟨ac1,ac0,acZ,acY,Tf,trivial⟩ Tryz.func109 (by kernel_rfl) (by kernel_rfl) fun x hw hp=>aky x.1 hp
theorem gw {p:ab} (h:bX p=0):lC p=true/\fArgs p=true/\bT p=true/\dq p=true/\fO p=true:=by
 rw[ER] at h
 cases hS:lC p<;>rw[hS] at h
 ·cases h
 cases hA:fArgs p<;>rw[hA] at h
 ·cases h
 cases hT:w3 p<;>rw[hT] at h
 case true=>cases h
 cases hJ:bT p<;>rw[hJ] at h
 ·cases h
 cases hG:dq p<;>rw[hG] at h
 ·cases h
 cases hL:fO p<;>rw[hL] at h
 ·cases h
 exact⟨rfl,rfl,rfl,rfl,rfl⟩
theorem jL {p:ab} (h:lC p=true):p.1.length<=40/\p.2.2.1.length<=24/\p.2.2.2.1.length<=4/\p.2.1.length<=80:=by
 unfold lC at h
 simpa only[Bool.and_eq_true,decide_eq_true_eq] using h
theorem RP {p:ab} (h:bT p=true) (k:Nat) (hk:k<p.2.1.length):bY p (k+1)=df aO (df aO (bY p k) (p.2.1.getD k zJ).1 (p.2.1.getD k zJ).2) (p.2.1.getD k zJ).2 (p.2.1.getD k zJ).1:=by
 have he:xZ p k:=by
  rw[uR,Bool.and_eq_true] at h
  exact gx.2 fun i hi=>gx.1 h.1 i (by rw[mz];omega)
 obtain⟨r1,r2⟩:=FN p k hk he
 cases hb:(!dC p (p.2.1.getD k zJ).1||(!dC p (p.2.1.getD k zJ).2||((aW aO (bY p k) (p.2.1.getD k zJ).1).isSome||((aW aO (bY p k) (p.2.1.getD k zJ).2).isSome||(p.2.1.getD k zJ).1==(p.2.1.getD k zJ).2)))) with
 |true=>rw[r1 hb] at h;cases h
 |false=>exact(r2 hb).2
theorem Hx (p:ab) (x:ak):∀(k:Nat),(aW aO (gH p k) x).isSome=cj (fF p x) k
 |0=>rfl
 |k+1=>by
  have ih:=Hx p x k
  rw[gZ] at ih ⊢
  show((gH p k++[((p.2.2.1.getD k zS).2.1,(k:Int))]).any _)=(cj (fF p x) k||fF p x k)
  rw[List.any_append,ih]
  simp only[List.any_cons,List.any_nil,Bool.or_false,FL]
  rw[fI]
  rfl
theorem Q1 {p:ab} (h:dq p=true) (k:Nat) (hk:k<p.2.2.1.length):gH p (k+1)=df aO (gH p k) (p.2.2.1.getD k zS).2.1 (k:Int):=by
 unfold dq at h
 rw[Bool.and_eq_true] at h
 have:=gx.1 h.1 k hk
 unfold lb CB at this
 simp only[Bool.and_eq_true] at this
 have hr:=this.2.2.2.2
 rw[Kj p k hk] at hr
 rw[n9 pD (by rw[Hx];simpa using hr)]
 rfl
theorem Hs (i:Int) (l:List Int) (e:Int):∀(k:Nat),k<=l.length->((ll i l k).any fun x=>Ty.jc I e x.1)=bN (l.take k) e
 |0,_=>by unfold bN;rfl
 |k+1,h=>by
  show((ll i l k++[(l.getD k 0,i,(k:Int))]).any _)=_
  rw[List.any_append,Hs i l e k (by omega),eQ 0 (by omega)]
  unfold bN
  rw[List.any_append]
  simp only[List.any_cons,List.any_nil,Bool.or_false,Pk]
  rw[fI e]
theorem Eu (p:ab) (l:List Int) (e:Int):∀(k:Nat),k<=l.length->((nU p l k).any fun x=>Ty.jc I e x.1)=bN (l.take k) e
 |0,_=>by unfold bN;rfl
 |k+1,h=>by
  show((nU p l k++[(l.getD k 0,pG p l k)]).any _)=_
  rw[List.any_append,Eu p l e k (by omega),eQ 0 (by omega)]
  unfold bN
  rw[List.any_append]
  simp only[List.any_cons,List.any_nil,Bool.or_false,Pk]
  rw[fI e]
theorem HV (p:ab) (e:Int):∀(i:Nat),i<=p.2.2.2.1.length->((iN p i).any fun x=>Ty.jc I e x.1)=bN (kN p i) e
 |0,_=>by unfold bN;rfl
 |i+1,h=>by
  show((iN p i++ll (i:Int) (p.2.2.2.1.getD i zL).2 (p.2.2.2.1.getD i zL).2.length).any _)=_
  rw[List.any_append,HV p e i (by omega),Hs _ _ e _ (Nat.le_refl _),zh p i (by omega),List.take_length]
  unfold bN
  rw[List.any_append]
theorem HY (p:ab) (e:Int):∀(i:Nat),i<=p.2.2.2.1.length->((jX p i).any fun x=>Ty.jc I e x.1)=bN (kN p i) e
 |0,_=>by unfold bN;rfl
 |i+1,h=>by
  show((jX p i++nU p (p.2.2.2.1.getD i zL).2 (p.2.2.2.1.getD i zL).2.length).any _)=_
  rw[List.any_append,HY p e i (by omega),Eu _ _ e _ (Nat.le_refl _),zh p i (by omega),List.take_length]
  unfold bN
  rw[List.any_append]
theorem FH {p:ab} (h:fO p=true) (i k:Nat) (hi:i<p.2.2.2.1.length) (hk:k<(p.2.2.2.1.getD i zL).2.length):
  bN (kN p i++(p.2.2.2.1.getD i zL).2.take k) ((p.2.2.2.1.getD i zL).2.getD k 0)=false:=by
 unfold fO at h
 have:=gx.1 h i hi
 unfold jk at this
 rw[Bool.and_eq_true] at this
 have:=gx.1 this.1 k hk
 unfold ma at this
 simpa using this
theorem RG {p:ab} (h:fO p=true) (i k:Nat) (hi:i<p.2.2.2.1.length) (hk:k<(p.2.2.2.1.getD i zL).2.length):
  (iN p i++ll (i:Int) (p.2.2.2.1.getD i zL).2 (k+1))=df I (iN p i++ll (i:Int) (p.2.2.2.1.getD i zL).2 k) ((p.2.2.2.1.getD i zL).2.getD k 0) ((i:Int),(k:Int)):=by
 have hf:=FH h i k hi hk
 rw[n9 tw (by
  rw[gZ,List.any_append,HV p _ i (by omega),Hs _ _ _ k (by omega)]
  unfold bN at hf ⊢
  rw[List.any_append] at hf
  exact hf)]
 show iN p i++(ll (i:Int) _ k++_)=_
 rw[List.append_assoc]
theorem RL {p:ab} (h:fO p=true) (i k:Nat) (hi:i<p.2.2.2.1.length) (hk:k<(p.2.2.2.1.getD i zL).2.length):
  (jX p i++nU p (p.2.2.2.1.getD i zL).2 (k+1))=df I (jX p i++nU p (p.2.2.2.1.getD i zL).2 k) ((p.2.2.2.1.getD i zL).2.getD k 0) (pG p (p.2.2.2.1.getD i zL).2 k):=by
 have hf:=FH h i k hi hk
 rw[n9 tw (by
  rw[gZ,List.any_append,HY p _ i (by omega),Eu _ _ _ k (by omega)]
  unfold bN at hf ⊢
  rw[List.any_append] at hf
  exact hf)]
 show jX p i++(nU p _ k++_)=_
 rw[List.append_assoc]
theorem Va {p:ab} (h:bT p=true) (l:List Int):∀(k:Nat),0<=pG p l k/\pG p l k<=3
 |0=>by
  show 0<=M8 p l/\M8 p l<=3
  unfold M8
  cases decide ((l.length:Int)>1)<;>cases o3 (dU p) l 0<;>decide
 |k+1=>by
  show 0<=((aW aO (dU p) (l.getD k 0,1 - pG p l k)).getD (0,0)).2/\((aW aO (dU p) (l.getD k 0,1 - pG p l k)).getD (0,0)).2<=3
  cases hm:aW aO (dU p) (l.getD k 0,1 - pG p l k) with
  |none=>decide
  |some q=>exact CP h _ (fM pD hm)
theorem v50 (p:ab):ah (aj aA [(108,L1),(109,DK)]) Tryz.f50 NO (a50 (p,())) (p,())=(
True/\
((bX p !=(0:Int))=true->none=kA p/\bX p=bX p/\True)/\
((bX p !=(0:Int))=false->
kK p/\
(∃(rn:Nat),
(rn<=p.2.1.length/\True)/\
(↑rn:Int)=(0:Int)/\
p.2.1=p.2.1/\
(↑p.2.1.length:Int)=(↑p.2.1.length:Int)/\
bY p rn=[]/\
ay p (ay p (([]:List ((Int×Int)×Int))=[]/\([]:List (Int×Int×Int))=[]/\([]:List (Int×Int))=[]/\True)))/\
∀(s1:Nat),
U (decide ((↑s1:Int)<(↑p.2.1.length:Int))) fun(y2:Bool)=>
U (p.2.1.getD (↑s1:Int).toNat (((0:Int),(0:Int)),(0:Int),(0:Int))) fun(y3:(Int×Int)×Int×Int)=>
U
(th (rA aO (bY p s1) y3.1 ((0:Int),(0:Int)))
(jV aO (bY p s1) y3.1) y3.2)
fun(y4:List ((Int×Int)×Int×Int))=>
s1<=p.2.1.length/\True->
(y2=true->
aL (↑s1:Int) p.2.1.length/\
bo IntKind.i64 ((↑s1:Int)+(1:Int))/\
∃(gO:Nat),
(gO<=p.2.1.length/\True)/\
p.2.1.length - gO<p.2.1.length - s1/\
(↑gO:Int)=(↑s1:Int)+(1:Int)/\
p.2.1=p.2.1/\
(↑p.2.1.length:Int)=(↑p.2.1.length:Int)/\
bY p gO=
th (rA aO y4 y3.2 ((0:Int),(0:Int)))
(jV aO y4 y3.2) y3.1/\
ay p (ay p (([]:List ((Int×Int)×Int))=[]/\([]:List (Int×Int×Int))=[]/\([]:List (Int×Int))=[]/\True)))/\
(y2=false->
(∃(rm:Nat),
(rm<=p.2.2.1.length/\True)/\
(↑rm:Int)=(0:Int)/\
p.2.2.1=p.2.2.1/\
(↑p.2.2.1.length:Int)=(↑p.2.2.1.length:Int)/\
gH p rm=[]/\
ay p (ay p (bY p s1=bY p s1/\([]:List (Int×Int×Int))=[]/\([]:List (Int×Int))=[]/\True)))/\
∀(s5:Nat),
U (decide ((↑s5:Int)<(↑p.2.2.1.length:Int))) fun(y6:Bool)=>
s5<=p.2.2.1.length/\True->
(y6=true->
aL (↑s5:Int) p.2.2.1.length/\
bo IntKind.i64 ((↑s5:Int)+(1:Int))/\
∃(nD:Nat),
(nD<=p.2.2.1.length/\True)/\
p.2.2.1.length - nD<p.2.2.1.length - s5/\
(↑nD:Int)=(↑s5:Int)+(1:Int)/\
p.2.2.1=p.2.2.1/\
(↑p.2.2.1.length:Int)=(↑p.2.2.1.length:Int)/\
gH p nD=
df aO (gH p s5)
(p.2.2.1.getD (↑s5:Int).toNat ([],((0:Int),(0:Int)),false)).2.1 (↑s5:Int)/\
ay p (ay p (bY p s1=bY p s1/\([]:List (Int×Int×Int))=[]/\([]:List (Int×Int))=[]/\True)))/\
(y6=false->
(∃(lf:Nat),
lf<=p.2.2.2.1.length/\
(↑lf:Int)=(0:Int)/\
p.2.2.2.1=p.2.2.2.1/\
(↑p.2.2.2.1.length:Int)=(↑p.2.2.2.1.length:Int)/\
iN p lf=[]/\
jX p lf=[]/\
ay p (ay p (bY p s1=bY p s1/\gH p s5=gH p s5/\True)))/\
∀(s7:Nat),
U (decide ((↑s7:Int)<(↑p.2.2.2.1.length:Int))) fun(y8:Bool)=>
U (p.2.2.2.1.getD (↑s7:Int).toNat ([],[])) fun(y9:List UInt8×List Int)=>
U (decide ((↑y9.2.length:Int)>(1:Int))) fun(bu:Bool)=>
U (aW aO (bY p s1) (y9.2.getD (Int.toNat (0:Int)) (0:Int),(0:Int)))
fun(bH:Option (Int×Int))=>
s7<=p.2.2.2.1.length->
(y8=true->
aL (↑s7:Int) p.2.2.2.1.length/\
(bu=true->aL (0:Int) y9.2.length)/\
(bu=true->bH.isSome=true->aL (1:Int) y9.2.length)/\
(∃(vq:Nat),
vq<=(jN p (↑s7:Int)).length/\
(↑vq:Int)=(0:Int)/\
(pG p (jN p (↑s7:Int)) vq=
bif bu then
bif bif bH.isSome then(bH.getD ((0:Int),(0:Int))).1==y9.2.getD (Int.toNat (1:Int)) (0:Int) else false then
(1:Int)
else(0:Int)
else(0:Int))/\
(↑s7:Int)=(↑s7:Int)/\
p.2.2.2.1=p.2.2.2.1/\
(↑p.2.2.2.1.length:Int)=(↑p.2.2.2.1.length:Int)/\
(↑s7:Int)=(↑s7:Int)/\
y9.2=y9.2/\
(↑y9.2.length:Int)=(↑y9.2.length:Int)/\
iN p (↑s7:Int).toNat++ll (↑s7:Int) (jN p (↑s7:Int)) vq=iN p s7/\
jX p (↑s7:Int).toNat++nU p (jN p (↑s7:Int)) vq=jX p s7/\
ay p (ay p (bY p s1=bY p s1/\
gH p s5=gH p s5/\y9.1=y9.1/\y9.2=y9.2/\True)))/\
∀(mP:Nat),
U (decide ((↑mP:Int)<(↑y9.2.length:Int))) fun(aB:Bool)=>
U (pG p (jN p (↑s7:Int)) mP) fun(cL:Int)=>
U (y9.2.getD (↑mP:Int).toNat (0:Int)) fun(bC:Int)=>
U (iN p (↑s7:Int).toNat++ll (↑s7:Int) (jN p (↑s7:Int)) mP) fun(cC:List (Int×Int×Int))=>
U (jX p (↑s7:Int).toNat++nU p (jN p (↑s7:Int)) mP) fun(cy:List (Int×Int))=>
mP<=(jN p (↑s7:Int)).length->
(aB=true->
aL (↑mP:Int) y9.2.length/\
bo IntKind.i64 ((1:Int) - cL)/\
bo IntKind.i64 ((↑mP:Int)+(1:Int))/\
∃(db:Nat),
db<=(jN p (↑s7:Int)).length/\
(jN p (↑s7:Int)).length - db<(jN p (↑s7:Int)).length - mP/\
(↑db:Int)=(↑mP:Int)+(1:Int)/\
pG p (jN p (↑s7:Int)) db=
((aW aO (bY p s1) (bC,(1:Int) - cL)).getD
((0:Int),(0:Int))).2/\
(↑s7:Int)=(↑s7:Int)/\
p.2.2.2.1=p.2.2.2.1/\
(↑p.2.2.2.1.length:Int)=(↑p.2.2.2.1.length:Int)/\
(↑s7:Int)=(↑s7:Int)/\
y9.2=y9.2/\
(↑y9.2.length:Int)=(↑y9.2.length:Int)/\
iN p (↑s7:Int).toNat++ll (↑s7:Int) (jN p (↑s7:Int)) db=
th (rA I cC bC ((0:Int),(0:Int)))
(jV I cC bC) ((↑s7:Int),(↑mP:Int))/\
jX p (↑s7:Int).toNat++nU p (jN p (↑s7:Int)) db=
th (rA I cy bC (0:Int)) (jV I cy bC)
cL/\
ay p (p.1=p.1/\
p.2.1=p.2.1/\
p.2.2.1=p.2.2.1/\
p.2.2.2.1=p.2.2.2.1/\
p.2.2.2.2.1=p.2.2.2.2.1/\
p.2.2.2.2.2.1=p.2.2.2.2.2.1/\
p.2.2.2.2.2.2.1=
p.2.2.2.2.2.2.1/\
p.2.2.2.2.2.2.2.1=
p.2.2.2.2.2.2.2.1/\
p.2.2.2.2.2.2.2.2=
p.2.2.2.2.2.2.2.2/\
bY p s1=bY p s1/\
gH p s5=gH p s5/\
y9.1=y9.1/\y9.2=y9.2/\True))/\
(aB=false->
bo IntKind.i64 ((↑s7:Int)+(1:Int))/\
∃(db:Nat),
db<=p.2.2.2.1.length/\
p.2.2.2.1.length - db<p.2.2.2.1.length - s7/\
(↑db:Int)=(↑s7:Int)+(1:Int)/\
p.2.2.2.1=p.2.2.2.1/\
(↑p.2.2.2.1.length:Int)=(↑p.2.2.2.1.length:Int)/\
iN p db=cC/\
jX p db=cy/\
ay p (p.1=p.1/\
p.2.1=p.2.1/\
p.2.2.1=p.2.2.1/\
p.2.2.2.1=p.2.2.2.1/\
p.2.2.2.2.1=p.2.2.2.2.1/\
p.2.2.2.2.2.1=p.2.2.2.2.2.1/\
p.2.2.2.2.2.2.1=p.2.2.2.2.2.2.1/\
p.2.2.2.2.2.2.2.1=
p.2.2.2.2.2.2.2.1/\
p.2.2.2.2.2.2.2.2=
p.2.2.2.2.2.2.2.2/\
bY p s1=bY p s1/\
gH p s5=gH p s5/\True)))/\
(y8=false->some (p,bY p s1,gH p s5,iN p s7,jX p s7)=kA p/\(0:Int)=bX p/\True))))):=by kernel_rfl
theorem b50 (p:ab) (hs:cY p) (hw:PlanT.wf p):ah (aj aA [(108,L1),(109,DK)]) Tryz.f50 NO (a50 (p,())) (p,()):=by
 rw[v50]
 simp only[dp,true_and,and_true,eq_self,Int.toNat_natCast,HM pD,HM tw]
 refine⟨fun h=> ?_,fun h=> ?_⟩
 ·unfold kA
  rw[iy] at h
  have:(bX p==0)=false:=by simpa using h
  rw[this];rfl
 have h0:bX p=0:=by
  rw[iy] at h
  simpa using h
 obtain⟨hS,hA,hJ,hG,hL⟩:=gw h0
 obtain⟨z1,z2,z3,z4⟩:=jL hS
 refine⟨⟨by show p.1.length<=1000;omega,by show p.2.1.length<=1000;omega,by show p.2.2.1.length<=1000;omega,by show p.2.2.2.1.length<=1000;omega,hs⟩,⟨0,by omega,rfl,rfl⟩,fun k=>U.mk fun y2 e2=>U.mk fun y3 e3=>U.mk fun y4 e4=>fun hk=>⟨fun h=> ?_,fun h=> ?_⟩⟩
 ·have hk:=aZ e2 h
  have e3:y3=p.2.1.getD k zJ:=e3
  refine⟨⟨by omega,by omega⟩,aY (by omega) (by omega),k+1,by omega,by omega,by omega,?_⟩
  rw[e4,e3]
  exact RP hJ k hk
 have hN:bY p k=dU p:=FD p k (bt e2 h)
 rw[hN]
 refine⟨⟨0,by omega,rfl,rfl⟩,fun s=>U.mk fun y6 e6=>fun hk=>⟨fun h=> ?_,fun h=> ?_⟩⟩
 ·have hk:=aZ e6 h
  exact⟨⟨by omega,by omega⟩,aY (by omega) (by omega),s+1,by omega,by omega,by omega,Q1 hG s hk⟩
 have hR:s=p.2.2.1.length:=by have:=bt e6 h;omega
 refine⟨⟨0,by omega,rfl,rfl,rfl⟩,fun i=>U.mk fun y8 e8=>U.mk fun y9 e9=>U.mk fun bu dy=>U.mk fun bH eK=>fun hi=>⟨fun h=> ?_,fun h=> ?_⟩⟩
 ·have hi:=aZ e8 h
  have e9:y9=p.2.2.2.1.getD i zL:=e9
  have hla:jN p (i:Int)=y9.2:=by unfold jN;rw[Int.toNat_natCast,e9]
  have zu:y9.2.length<=1000:=by rw[e9];exact hs _ (fJ zL hi)
  rw[hla]
  refine⟨⟨by omega,by omega⟩,fun lp=> ?_,fun lp _=> ?_,⟨0,by omega,rfl,?_,?_,?_⟩,fun k=>U.mk fun aB gE=>U.mk fun cL j5=>U.mk fun bC iJ=>U.mk fun cC k7=>U.mk fun cy jF=>fun hk=>⟨fun h=> ?_,fun h=> ?_⟩⟩
  ·rw[lp] at dy
   have:=of_decide_eq_true dy.symm
   exact⟨by omega,by omega⟩
  ·rw[lp] at dy
   have:=of_decide_eq_true dy.symm
   exact⟨by omega,by omega⟩
  ·show M8 p y9.2=_
   unfold M8
   rw[<-dy]
   cases bu with
   |false=>rfl
   |true=>
    simp only[cond_true]
    have:o3 (dU p) y9.2 0=(bif bH.isSome then(bH.getD ((0:Int),(0:Int))).1==y9.2.getD (Int.toNat (1:Int)) (0:Int) else false):=by
     rw[eK]
     unfold o3
     show(match aW aO (dU p) (y9.2.getD 0 0,0) with |none=>false|some q=>q.1==y9.2.getD 1 0)=(bif(aW aO (dU p) (y9.2.getD 0 0,0)).isSome then((aW aO (dU p) (y9.2.getD 0 0,0)).getD (0,0)).1==y9.2.getD 1 0 else false)
     cases aW aO (dU p) (y9.2.getD 0 0,0)<;>rfl
    rw[this]
  ·show iN p i++[]=_
   rw[List.append_nil]
  ·show jX p i++[]=_
   rw[List.append_nil]
  ·have hk:=aZ gE h
   have nJ:=Va hJ y9.2 k
   rw[<-j5] at nJ
   refine⟨⟨by omega,by omega⟩,aY (by omega) (by omega),aY (by omega) (by omega),k+1,by omega,by omega,by omega,?_,?_,?_⟩
   ·rw[iJ,j5];rfl
   ·rw[k7,iJ,e9]
    exact RG hL i k hi (by rw[<-e9];exact hk)
   ·rw[jF,iJ,j5,e9]
    exact RL hL i k hi (by rw[<-e9];exact hk)
  ·have vk:=bt gE h
   have:k=y9.2.length:=by omega
   refine⟨aY (by omega) (by omega),i+1,by omega,by omega,by omega,?_,?_⟩
   ·rw[k7,this,e9];rfl
   ·rw[jF,this,e9];rfl
 ·have EE:=bt e8 h
  have:i=p.2.2.2.1.length:=by omega
  refine⟨?_,h0.symm⟩
  unfold kA nf zO Dq NG
  rw[h0,this,hR]
  rfl
theorem abp:aN Tryz.prog 50 NO:=
 aN.b3 (l:=[(108,L1),(109,DK)]) (A:=a50) aJ ⟨adJ,Xj,trivial⟩ Tryz.func50 (by kernel_rfl) (by kernel_rfl) fun x hw hp=>b50 x.1 hp hw.1
theorem agA (n:(ab)×List ((Int×Int)×Int×Int)×List ((Int×Int)×Int)×List (Int×Int×Int)×List (Int×Int)) (e:Int):ah (aj aA []) Tryz.f199 Ln ar (n,e,())=(
U (aW I n.2.2.2.1 e) fun(y2:Option (Int×Int))=>
U (y2.getD ((0:Int),(0:Int))).1 fun(y3:Int)=>
U (y2.getD ((0:Int),(0:Int))).2 fun(y4:Int)=>
[(0:Int),(0:Int)].length=(2:Nat)/\
(y2.isSome=true->(aL (0:Int) (2:Nat)/\[y3,y4].length=(2:Nat))/\(aL (1:Int) (2:Nat)/\[y3,y4].length=(2:Nat))/\y3=(ic n e).1/\y4=(ic n e).2/\True)/\
(y2.isSome=false->(-1:Int)=(ic n e).1/\(-1:Int)=(ic n e).2/\True)):=by kernel_rfl
theorem aj2 (n:bk) (e:Int):ah (aj aA []) Tryz.f199 Ln ar (n,e,()):=by
 rw[agA]
 refine U.mk fun y2 e2=>U.mk fun y3 e3=>U.mk fun y4 e4=>⟨rfl,fun h=> ?_,fun h=> ?_⟩
 ·obtain⟨q,hq⟩:=Option.isSome_iff_exists.1 h
  have hl:ic n e=q:=by unfold ic;rw[<-e2,hq];rfl
  rw[hl,e3,e4,hq]
  exact⟨⟨⟨by decide,by decide⟩,rfl⟩,⟨⟨by decide,by decide⟩,rfl⟩,rfl,rfl,trivial⟩
 ·have hl:ic n e=(-1, -1):=by
   unfold ic
   rw[<-e2]
   cases hy:y2 with
   |none=>rfl
   |some q=>rw[hy] at h;cases h
  rw[hl]
  exact⟨rfl,rfl,trivial⟩
theorem Xa:aN Tryz.prog 199 Ln:=
 aN.b3 (l:=[]) (A:=fun _=>ar) aJ trivial Tryz.func199 (by kernel_rfl) (by kernel_rfl) fun x hw hp=>aj2 x.1 x.2.1
theorem agz (n:(ab)×List ((Int×Int)×Int×Int)×List ((Int×Int)×Int)×List (Int×Int×Int)×List (Int×Int)) (e:Int) (i:Int):ah (aj aA []) Tryz.f202 Lm ar (n,e,i,())=(
U (aW I n.2.2.2.2 e) fun(y3:Option Int)=>
U (bif bif !y3.isSome then true else decide (i<(0:Int)) then true else decide (i>(1:Int))) fun(y4:Bool)=>
(y4=true->(0:Int)=uZ n e i/\True)/\
(y4=false->((y3.getD (0:Int)==i)=true->(1:Int)=uZ n e i/\True)/\((y3.getD (0:Int)==i)=false->(2:Int)=uZ n e i/\True))):=by kernel_rfl
theorem aj1 (n:bk) (e i:Int):ah (aj aA []) Tryz.f202 Lm ar (n,e,i,()):=by
 rw[agz]
 refine U.mk fun y3 e3=>U.mk fun y4 e4=> ?_
 have hl:uZ n e i=bif y4 then 0 else bif y3.getD 0==i then 1 else 2:=by
  unfold uZ
  rw[<-e3,e4]
  cases y3.isSome<;>cases decide (i<0)<;>cases decide (i>1)<;>rfl
 rw[hl]
 refine⟨fun h=>by rw[h];exact⟨rfl,trivial⟩,fun h=>by rw[h];exact⟨fun h2=>by rw[h2];exact⟨rfl,trivial⟩,fun h2=>by rw[h2];exact⟨rfl,trivial⟩⟩⟩
theorem acS:aN Tryz.prog 202 Lm:=
 aN.b3 (l:=[]) (A:=fun _=>ar) aJ trivial Tryz.func202 (by kernel_rfl) (by kernel_rfl) fun x hw hp=>aj1 x.1 x.2.1 x.2.2.1
theorem agB (n:(ab)×List ((Int×Int)×Int×Int)×List ((Int×Int)×Int)×List (Int×Int×Int)×List (Int×Int)) (s:Int):ah (aj aA []) Tryz.f197 Lp ar (n,s,())=(
U (bif decide (s<(0:Int)) then true else decide (s>=(↑n.1.2.2.1.length:Int))) fun(y2:Bool)=>
(y2=true->((0:Int),(0:Int))=(lL n.1 s).1/\false=(lL n.1 s).2/\True)/\
(y2=false->aL s n.1.2.2.1.length/\(n.1.2.2.1.getD s.toNat ([],((0:Int),(0:Int)),false)).2.1=(lL n.1 s).1/\true=(lL n.1 s).2/\True)):=by kernel_rfl
theorem aj4 (n:bk) (s:Int):ah (aj aA []) Tryz.f197 Lp ar (n,s,()):=by
 rw[agB]
 have hA:lL n.1 s=bif decide (s<0)||decide ((n.1.2.2.1.length:Int)<=s) then((0,0),false) else((n.1.2.2.1.getD s.toNat zS).2.1,true):=by unfold lL;rfl
 refine U.mk fun y2 e2=> ?_
 rw[wY] at e2
 have hA:lL n.1 s=bif y2 then((0,0),false) else((n.1.2.2.1.getD s.toNat zS).2.1,true):=by
  rw[hA,e2]
  cases decide (s<0)<;>rfl
 rw[hA]
 refine⟨fun h=>by rw[h];exact⟨rfl,rfl,trivial⟩,fun h=> ?_⟩
 rw[h] at e2 ⊢
 cases h1:decide (s<0) with
 |true=>rw[h1] at e2;cases e2
 |false=>
  rw[h1] at e2
  have h1:=of_decide_eq_false h1
  have h2:=of_decide_eq_false e2.symm
  exact⟨⟨by omega,by omega⟩,rfl,rfl,trivial⟩
theorem Xb:aN Tryz.prog 197 Lp:=
 aN.b3 (l:=[]) (A:=fun _=>ar) aJ trivial Tryz.func197 (by kernel_rfl) (by kernel_rfl) fun x hw hp=>aj4 x.1 x.2.1
theorem v52 (n:(ab)×List ((Int×Int)×Int×Int)×List ((Int×Int)×Int)×List (Int×Int×Int)×List (Int×Int)):ah (aj aA []) Tryz.f52 c52 ar (n,())=(
(↑n.1.1.length:Int)=(↑n.1.1.length:Int)/\True):=by kernel_rfl
theorem ahE:aN Tryz.prog 52 c52:=
 aN.b3 (l:=[]) (A:=fun _=>ar) aJ trivial Tryz.func52 (by kernel_rfl) (by kernel_rfl) fun x hw hp=>by
  obtain⟨n,u⟩:=x
  show ah (aj aA []) Tryz.f52 c52 ar (n,())
  rw[v52]
  exact⟨rfl,trivial⟩
theorem P0 {p:ab} (h:oQ p=true):sN p=true/\bX p=0/\cY p:=by
 unfold oQ at h
 rw[Bool.and_eq_true] at h
 refine⟨h.1,by simpa using h.2,fun l hl=> ?_⟩
 have h1:=h.1
 unfold sN at h1
 simp only[Bool.and_eq_true] at h1
 have:=List.all_eq_true.1 h1.2.2.2.2.1 l hl
 simp only[Bool.and_eq_true,decide_eq_true_eq] at this
 omega
abbrev lx:Ty:= .pair I I
abbrev ck:=Int×Int
def zT:ck:=(0,0)
abbrev Ud:Ty:= .lN 201 (.pair (.ref I) .unit)
abbrev Oc:Ty:= .lN 204 .unit
def fp {α:Type} (p:α->Bool) (xs:List α):Int:=if xs.any p then((xs.findIdx p:Nat):Int) else -1
def tU {α:Type} (p:α->Bool) (xs:List α) (slot:Nat) (keep:List Nat):LA where
 σ:=Nat
 ok:=fun k=>k<=xs.length/\(xs.take k).any p=false
 mu:=fun k=>xs.length - k
 sl:=fun k=>[(slot,.one (.aG I (k:Int)))]
 bl:=fun _=>[]
 keep:=keep
 cv:=[]
def small (l:List ck):Prop:=l.length<=12/\∀t∈l, -1000<=t.1/\t.1<=1000
def oW (l:List ck) (j:Nat):List ck:=(l.set (j+1) (l.getD j zT)).set j (l.getD (j+1) zT)
def od:Nat->List ck->List ck
 |0,l=>l
 |j+1,l=>bif decide ((l.getD (j+1) zT).1 - (l.getD j zT).1<0) then od j (oW l j) else l
def kJ (l:List ck):Nat->List ck
 |0=>l
 |k+1=>od k (kJ l k)
@[irreducible] def rW (l:List ck):List ck:=kJ l l.length
def Qj:bg where
 args:=[lx,.ref I]
 out:= .data [.bool]
 pre:=fun(x:ck×Int×Unit)=>True
 fn:=fun(x:ck×Int×Unit)=>(x.1.1==x.2.1,())
def AE:bg where
 args:=[.list lx,Ud]
 out:= .data [I]
 pre:=fun(x:List ck×(Int×Unit)×Unit)=>x.1.length<=1000
 fn:=fun(x:List ck×(Int×Unit)×Unit)=>(fp (fun t=>t.1==x.2.1.1) x.1,())
def Mb (x:List ck×(Int×Unit)×Unit):eA:=bh [(2,fun _=>tU (fun t=>t.1==x.2.1.1) x.1 8 [0,1,7])]
def w6:bg where
 args:=[.list lx,Ud]
 out:= .data [.bool]
 pre:=fun(x:List ck×(Int×Unit)×Unit)=>x.1.length<=1000
 fn:=fun(x:List ck×(Int×Unit)×Unit)=>(x.1.any (fun t=>t.1==x.2.1.1),())
def Ll:bg where
 args:=[lx,lx]
 out:= .data [I]
 pre:=fun(x:ck×ck×Unit)=>(-1000<=x.1.1/\x.1.1<=1000)/\ -1000<=x.2.1.1/\x.2.1.1<=1000
 fn:=fun(x:ck×ck×Unit)=>(x.1.1 - x.2.1.1,())
def tZ:fG where
 args:=[.row 195 lx,.aG I,.aG I,.aG Oc]
 outs:=[]
 pre:=fun(x:List ck×Int×Int×Unit×Unit)=>x.2.1=0/\x.2.2.1=(x.1.length:Int)/\small x.1
 fn:=fun _=>()
 fS:=fun(x:List ck×Int×Int×Unit×Unit)=>(rW x.1,x.2)
structure Ob (l:List ck) (i j:Nat) (m:List ck):Prop where
 small:small m
 len:m.length=l.length
 le:j<=i
 lt:i<l.length
 same:od j m=od i l
def EY (x:List ck×Int×Int×Unit×Unit):eA:=bh [
 (1,fun _=>{
  σ:=Nat
  ok:=fun k=>k<=x.1.length - 1
  mu:=fun k=>x.1.length - k
  sl:=fun k=>[(8,.one (.aG I ((k:Int)+1)))]
  bl:=fun k=>[(1000000,.row false 195 lx (kJ x.1 (k+1)))]
  keep:=[0,1,2,3]
  cv:=[]}),
 (4,fun S=>{
  σ:=Nat×List ck
  ok:=fun s=>Ob (kJ x.1 (da S 8).toNat) (da S 8).toNat s.1 s.2
  mu:=fun s=>s.1
  sl:=fun s=>[(9,.one (.aG I (s.1:Int)))]
  bl:=fun s=>[(1000000,.row false 195 lx s.2)]
  keep:=[0,1,2,3,8]
  cv:=[]})]
def ua:fG where
 args:=[.row 195 lx,.aG I,.aG I,.aG I,.aG Oc]
 outs:=[]
 pre:=fun(x:List ck×Int×Int×Int×Unit×Unit)=>x.2.1=0/\x.2.2.1=(x.1.length:Int)/\small x.1
 fn:=fun _=>()
 fS:=fun(x:List ck×Int×Int×Int×Unit×Unit)=>(rW x.1,x.2)
def EZ (x:List ck×Int×Int×Int×Unit×Unit):eA:=bh [
 (2,fun _=>{
  σ:=Unit
  ok:=fun k=>True
  mu:=fun k=>0
  sl:=fun k=>[]
  bl:=fun k=>[]
  keep:=[0,1,2,3,4,10,11]
  cv:=[1000000]})]
def ub:fG where
 args:=[.row 195 lx,.aG Oc]
 outs:=[]
 pre:=fun(x:List ck×Unit×Unit)=>small x.1
 fn:=fun _=>()
 fS:=fun(x:List ck×Unit×Unit)=>(rW x.1,x.2)
def NI (n:Int):Int:=[0,1,2,2,3,3,3,3,4,4,4,4,4].getD n.toNat 0
def Ja:bg where
 args:=[.int .u64]
 out:= .data [I]
 pre:=fun(x:Int×Unit)=>x.1<=12
 fn:=fun(x:Int×Unit)=>(NI x.1,())
def Lr:bg:=Ja
def rE (n:bk) (out:List ck) (s:cu):List ck:=
 bif decide ((ic n s.1).1<0)||out.any (fun t=>t.1==(ic n s.1).1) then out else out++[((ic n s.1).1,uZ n s.1 s.2.1)]
def fD (n:bk) (r:af):Nat->List ck
 |0=>[]
 |k+1=>rE n (fD n r k) (r.2.2.2.1.getD k iC)
@[irreducible] def dM (n:bk) (r:af):List ck:=rW (fD n r r.2.2.2.1.length)
def xI (n:bk):Prop:=∀x∈n.2.2.2.1,0<=x.2.1/\x.2.1<=9
def YQ:bg where
 args:=[.ref jx,eH]
 out:= .data [.list lx]
 pre:=fun(x:bk×af×Unit)=>xI x.1/\x.2.1.2.2.2.1.length<=1000
 fn:=fun(x:bk×af×Unit)=>(dM x.1 x.2.1,())
def a124 (x:bk×af×Unit):eA:=bh [(3,fun _=>mS x.2.1.2.2.2.1.length 13 5 1000 195 lx (fD x.1 x.2.1) [0,3,11,12] [3])]
theorem XA {n:Int} (h:bo .u64 n):0<=n/\n<=18446744073709551615:=by
 have h:IntKind.min .u64<=n/\n<=IntKind.max .u64:=h
 have e1:IntKind.min .u64=0:=by decide
 have e2:IntKind.max .u64=18446744073709551615:=by decide
 omega
theorem wrap_u64 {n:Int} (h1:0<=n) (h2:n<1000000000):IntKind.u64.wrap n=n:=IntWalk.u64_in _ (by omega)
theorem p9 {α:Type} {p:α->Bool} {xs:List α}:decide (fp p xs>=0)=xs.any p:=by
 unfold fp
 cases h:xs.any p<;>simp
theorem rX {α:Type} {p:α->Bool} {xs:List α} {s:Nat} (d:α) (h:s<xs.length) (h0:(xs.take s).any p=false) (h1:p (xs.getD s d)=true):(s:Int)=fp p xs:=by
 rw[eW d h] at h1
 have ha:xs.any p=true:=List.any_eq_true.2 ⟨xs[s],List.getElem_mem h,h1⟩
 have hi:xs.findIdx p=s:=by
  rw[List.findIdx_eq h]
  refine⟨h1,fun j hj=> ?_⟩
  have:=List.any_eq_false.1 h0 xs[j] (by rw[List.mem_take_iff_getElem];exact⟨j,by omega,rfl⟩)
  simpa using this
 unfold fp
 rw[if_pos ha,hi]
theorem qp {α:Type} {p:α->Bool} {xs:List α} {s:Nat} (h:xs.length<=s) (h0:(xs.take s).any p=false): -1=fp p xs:=by
 rw[List.take_of_length_le h] at h0
 unfold fp
 rw[h0]
 rfl
theorem v201 (t:Int×Int) (l:Int):ah (aj aA []) Tryz.f201 Qj ar (t,l,())=(
(t.1==l)=(t.1==l)/\True):=by kernel_rfl
theorem acT:aN Tryz.prog 201 Qj:=
 aN.b3 (l:=[]) (A:=fun _=>ar) aJ trivial Tryz.func201 (by kernel_rfl) (by kernel_rfl) fun x _ _=>by
  obtain⟨t,l,u⟩:=x
  show ah (aj aA []) Tryz.f201 Qj ar (t,l,())
  rw[v201]
  exact⟨rfl,trivial⟩
theorem Uo (xs:List (Int×Int)) (l:Int×Unit):ah (aj aA [(201,Qj)]) Tryz.f247 AE (Mb (xs,l,())) (xs,l,())=(
U (fp (fun(t:ck)=>t.1==l.1) xs) fun(y2:Int)=>
(∃(fB:Nat),
(fB<=xs.length/\((List.take fB xs).any fun(t:ck)=>t.1==l.1)=false)/\(↑fB:Int)=(0:Int)/\xs=xs/\l=l/\(↑xs.length:Int)=(↑xs.length:Int)/\True)/\
∀(s3:Nat),
U (decide ((↑s3:Int)<(↑xs.length:Int))) fun(y4:Bool)=>
U ((xs.getD (↑s3:Int).toNat ((0:Int),(0:Int))).1==l.1) fun(y5:Bool)=>
s3<=xs.length/\((List.take s3 xs).any fun(t:ck)=>t.1==l.1)=false->
(y4=true->
aL (↑s3:Int) xs.length/\
True/\
(y5=true->(↑s3:Int)=y2/\True)/\
(y5=false->
bo IntKind.i64 ((↑s3:Int)+(1:Int))/\
∃(eV:Nat),
(eV<=xs.length/\((List.take eV xs).any fun(t:ck)=>t.1==l.1)=false)/\
xs.length - eV<xs.length - s3/\(↑eV:Int)=(↑s3:Int)+(1:Int)/\xs=xs/\l=l/\(↑xs.length:Int)=(↑xs.length:Int)/\True))/\
(y4=false->(-1:Int)=y2/\True)):=by kernel_rfl
theorem Ro:aN Tryz.prog 247 AE:=
 aN.b3 (l:=[(201,Qj)]) (A:=Mb) aJ ⟨acT,trivial⟩ Tryz.func247 (by kernel_rfl) (by kernel_rfl) fun x _ hp=>by
  obtain⟨xs,l,⟨⟩⟩:=x
  have hp:xs.length<=1000:=hp
  rw[Uo]
  refine U.mk fun y2 e2=> ?_
  simp only[true_and,and_true]
  refine⟨⟨0,⟨by omega,by simp⟩,rfl⟩,fun s=>U.mk fun y4 e4=>U.mk fun y5 e5=> ?_⟩
  rintro⟨h1,h2⟩
  rw[Int.toNat_natCast] at e5
  refine⟨fun hs=> ?_,fun hs=> ?_⟩
  ·have hs:=aZ e4 hs
   refine⟨⟨by omega,by omega⟩,fun e=> ?_,fun e=>⟨aY (by omega) (by omega),s+1,⟨by omega,?_⟩,by omega,by omega⟩⟩
   ·rw[e2]
    exact rX ((0:Int),(0:Int)) hs h2 (by rw[<-e5];exact e)
   ·exact any_succ ((0:Int),(0:Int)) hs h2 (by rw[<-e5];exact e)
  ·rw[e2]
   exact qp (s:=s) (bt e4 hs) h2
theorem Up (xs:List (Int×Int)) (l:Int×Unit):ah (aj aA [(2020247,AE)]) Tryz.f200 w6 ar (xs,l,())=(
U (fp (fun(t:ck)=>t.1==l.1) xs) fun(y2:Int)=>xs.length<=(1000:Nat)/\(decide (y2>=(0:Int))=xs.any fun(t:ck)=>t.1==l.1)/\True):=by kernel_rfl
theorem Rp:aN Tryz.prog 200 w6:=
 aN.b3 (l:=[(2020247,AE)]) (A:=fun _=>ar) aJ ⟨Ro,trivial⟩ Tryz.func200 (by kernel_rfl) (by kernel_rfl) fun x _ hp=>by
  obtain⟨xs,l,⟨⟩⟩:=x
  rw[Up]
  refine U.mk fun y2 e2=>⟨hp,?_,trivial⟩
  rw[e2]
  exact p9
theorem agy (s:Int×Int) (t:Int×Int):ah (aj aA []) Tryz.f204 Ll ar (s,t,())=(
bo IntKind.i64 (s.1 - t.1)/\s.1 - t.1=s.1 - t.1/\True):=by kernel_rfl
theorem aj0 (s t:ck) (h1: -1000<=s.1/\s.1<=1000) (h2: -1000<=t.1/\t.1<=1000):ah (aj aA []) Tryz.f204 Ll ar (s,t,()):=by
 rw[agy]
 exact⟨aY (by omega) (by omega),rfl,trivial⟩
theorem acR:aN Tryz.prog 204 Ll:=
 aN.b3 (l:=[]) (A:=fun _=>ar) aJ trivial Tryz.func204 (by kernel_rfl) (by kernel_rfl) fun x _ hp=>aj0 x.1 x.2.1 hp.1 hp.2
theorem Aj (l:List ck) (j:Nat):(oW l j).length=l.length:=by unfold oW;simp
theorem Am {l:List ck} (h:small l) (k:Nat): -1000<=(l.getD k zT).1/\(l.getD k zT).1<=1000:=by
 by_cases hk:k<l.length
 ·exact h.2 _ (fJ zT hk)
 ·have:l.getD k zT=zT:=by simp[List.getD_eq_getElem?_getD,List.getElem?_eq_none (Nat.le_of_not_lt hk)]
  rw[this]
  decide
theorem Fl {l:List ck} (h:small l) (j:Nat):small (oW l j):=by
 refine⟨by rw[Aj];exact h.1,fun t ht=> ?_⟩
 unfold oW at ht
 rcases List.mem_or_eq_of_mem_set ht with ht|rfl
 ·rcases List.mem_or_eq_of_mem_set ht with ht|rfl
  ·exact h.2 t ht
  ·exact Am h _
 ·exact Am h _
theorem Pp:∀(j:Nat) (l:List ck),(od j l).length=l.length
 |0,_=>rfl
 |j+1,l=>by
  unfold od
  cases decide ((l.getD (j+1) zT).1 - (l.getD j zT).1<0) with
  |true=>rw[cond_true,Pp j,Aj]
  |false=>rw[cond_false]
theorem Hg:∀(j:Nat) {l:List ck},small l->small (od j l)
 |0,_,h=>h
 |j+1,l,h=>by
  unfold od
  cases decide ((l.getD (j+1) zT).1 - (l.getD j zT).1<0) with
  |true=>rw[cond_true];exact Hg j (Fl h j)
  |false=>rw[cond_false];exact h
theorem Cx (l:List ck):∀(k:Nat),(kJ l k).length=l.length
 |0=>rfl
 |k+1=>by show(od k (kJ l k)).length=_;rw[Pp,Cx l k]
theorem J9 {l:List ck} (h:small l):∀(k:Nat),small (kJ l k)
 |0=>h
 |k+1=>Hg k (J9 h k)
theorem Ul (l:List (Int×Int)) (a:Int) (b:Int) (u:Unit):bS (aj aA [(204,Ll)]) Tryz.f262 tZ (EY (l,a,b,u,())) (l,a,b,u,())=(
bo IntKind.i64 (a+(1:Int))/\
(∃(wz:Nat),wz<=l.length - (1:Nat)/\(↑wz:Int)+(1:Int)=a+(1:Int)/\a=a/\b=b/\u=u/\kJ l (wz+(1:Nat))=l/\True)/\
∀(s4:Nat),
U (decide ((↑s4:Int)+(1:Int)<b)) fun(y5:Bool)=>
U ((↑s4:Int)+(1:Int)+(1:Int)) fun(y6:Int)=>
s4<=l.length - (1:Nat)->
(y5=true->
(∃(lf:Nat×List ck),
Ob (kJ l ((↑s4:Int)+(1:Int)).toNat) ((↑s4:Int)+(1:Int)).toNat lf.1 lf.2/\
(↑lf.1:Int)=(↑s4:Int)+(1:Int)/\a=a/\b=b/\u=u/\(↑s4:Int)+(1:Int)=(↑s4:Int)+(1:Int)/\lf.2=kJ l (s4+(1:Nat))/\True)/\
∀(s7:Nat×List ck),
U (decide ((↑s7.1:Int)>a)) fun(y8:Bool)=>
U (s7.2.getD (↑s7.1:Int).toNat ((0:Int),(0:Int))) fun(y9:Int×Int)=>
U (s7.2.getD ((↑s7.1:Int) - (1:Int)).toNat ((0:Int),(0:Int))) fun(bu:Int×Int)=>
U (bif y8 then decide (y9.1 - bu.1<(0:Int)) else false) fun(bH:Bool)=>
U (s7.2.set (↑s7.1:Int).toNat bu) fun(aw:List (Int×Int))=>
Ob (kJ l ((↑s4:Int)+(1:Int)).toNat) ((↑s4:Int)+(1:Int)).toNat s7.1 s7.2->
(y8=true->aL (↑s7.1:Int) s7.2.length)/\
(y8=true->bo IntKind.i64 ((↑s7.1:Int) - (1:Int)))/\
(y8=true->aL ((↑s7.1:Int) - (1:Int)) s7.2.length)/\
(y8=true->((-1000:Int)<=y9.1/\y9.1<=(1000:Int))/\(-1000:Int)<=bu.1/\bu.1<=(1000:Int))/\
(bH=true->
bo IntKind.i64 ((↑s7.1:Int) - (1:Int))/\
bo IntKind.i64 ((↑s7.1:Int) - (1:Int))/\
aL ((↑s7.1:Int) - (1:Int)) s7.2.length/\
aL (↑s7.1:Int) s7.2.length/\
aL (↑s7.1:Int) s7.2.length/\
aL ((↑s7.1:Int) - (1:Int)) aw.length/\
bo IntKind.i64 ((↑s7.1:Int) - (1:Int))/\
∃(fR:Nat×List ck),
Ob (kJ l ((↑s4:Int)+(1:Int)).toNat) ((↑s4:Int)+(1:Int)).toNat fR.1 fR.2/\
fR.1<s7.1/\
(↑fR.1:Int)=(↑s7.1:Int) - (1:Int)/\
a=a/\
b=b/\
u=u/\(↑s4:Int)+(1:Int)=(↑s4:Int)+(1:Int)/\fR.2=aw.set ((↑s7.1:Int) - (1:Int)).toNat y9/\True)/\
(bH=false->
bo IntKind.i64 y6/\
∃(fR:Nat),
fR<=l.length - (1:Nat)/\
l.length - fR<l.length - s4/\(↑fR:Int)+(1:Int)=y6/\a=a/\b=b/\u=u/\kJ l (fR+(1:Nat))=s7.2/\True))/\
(y5=false->kJ l (s4+(1:Nat))=rW l/\True)):=by kernel_rfl
theorem We (l:List ck) (a b:Int) (h1:a=0) (h2:b=(l.length:Int)) (hs:small l):bS (aj aA [(204,Ll)]) Tryz.f262 tZ (EY (l,a,b,(),())) (l,a,b,(),()):=by
 subst h1 h2
 have hl:=hs.1
 rw[Ul]
 simp only[true_and,and_true,eq_self,Int.toNat_natCast]
 refine⟨aY (by omega) (by omega),⟨0,by omega,by omega,rfl⟩,fun k=>U.mk fun y5 e5=>U.mk fun y6 e6=>fun hk=>⟨fun h=> ?_,fun h=> ?_⟩⟩
 ·have h5:(k:Int)+1<(l.length:Int):=by rw[h] at e5;exact of_decide_eq_true e5.symm
  have hn:((k:Int)+1).toNat=k+1:=by omega
  rw[hn]
  refine⟨⟨(k+1,kJ l (k+1)),⟨J9 hs _,rfl,by omega,by rw[Cx];omega,rfl⟩,by omega,rfl⟩,fun s=>U.mk fun y8 e8=>U.mk fun y9 e9=>U.mk fun bu dy=>U.mk fun bH eK=>U.mk fun aw dW=>fun ho=> ?_⟩
  obtain⟨j,m⟩:=s
  obtain⟨i1,i2,i3,i4,i5⟩:=ho
  have i1:small m:=i1
  have i2:m.length=(kJ l (k+1)).length:=i2
  have i3:j<=k+1:=i3
  have i5:od j m=od (k+1) (kJ l (k+1)):=i5
  have i2':m.length=l.length:=by rw[i2,Cx]
  have i4':k+1<l.length:=by omega
  have e8:y8=decide ((j:Int)>0):=e8
  have e9:y9=m.getD j zT:=e9
  have dy:bu=m.getD ((j:Int) - 1).toNat zT:=dy
  have dW:aw=m.set j bu:=dW
  have g9:=Am i1 j
  have g10:=Am i1 ((j:Int) - 1).toNat
  rw[<-e9] at g9
  rw[<-dy] at g10
  show(y8=true->aL (j:Int) m.length)/\(y8=true->bo IntKind.i64 ((j:Int) - 1))/\(y8=true->aL ((j:Int) - 1) m.length)/\_/\_/\_
  refine⟨fun h8=>⟨by omega,by omega⟩,fun h8=>aY (by omega) (by omega),fun h8=> ?_,fun h8=>⟨g9,g10⟩,fun mG=> ?_,fun mG=> ?_⟩
  ·rw[h8] at e8
   have:=of_decide_eq_true e8.symm
   exact⟨by omega,by omega⟩
  ·rw[eK] at mG
   cases h8:y8 with
   |false=>rw[h8] at mG;cases mG
   |true=>
    rw[h8] at mG e8
    have mG:=of_decide_eq_true mG
    have h8:=of_decide_eq_true e8.symm
    obtain⟨j',rfl⟩:∃j',j=j'+1:=⟨j - 1,by omega⟩
    have hj:(((j'+1:Nat):Int) - 1).toNat=j':=by omega
    rw[hj] at dy
    have hlen:aw.length=m.length:=by rw[dW,List.length_set]
    show bo IntKind.i64 (((j'+1:Nat):Int) - 1)/\_
    refine⟨aY (by omega) (by omega),aY (by omega) (by omega),⟨by show(0:Int)<=((j'+1:Nat):Int) - 1;omega,by show((j'+1:Nat):Int) - 1<(m.length:Int);omega⟩,⟨by show(0:Int)<=((j'+1:Nat):Int);omega,by show((j'+1:Nat):Int)<(m.length:Int);omega⟩,⟨by show(0:Int)<=((j'+1:Nat):Int);omega,by show((j'+1:Nat):Int)<(m.length:Int);omega⟩,⟨by show(0:Int)<=((j'+1:Nat):Int) - 1;omega,by show((j'+1:Nat):Int) - 1<(aw.length:Int);omega⟩,aY (by omega) (by omega),(j',oW m j'),⟨Fl i1 _,?_,?_,?_,?_⟩,?_,?_,?_⟩
    ·show(oW m j').length=_;rw[Aj];exact i2
    ·show j'<=_;omega
    ·rw[Cx];omega
    ·show od j' (oW m j')=_
     rw[<-i5]
     show _=od (j'+1) m
     conv=>rhs;unfold od
     rw[<-e9,<-dy,decide_eq_true mG]
     rfl
    ·show j'<j'+1;omega
    ·show(j':Int)=((j'+1:Nat):Int) - 1;omega
    ·show oW m j'=aw.set (((j'+1:Nat):Int) - 1).toNat y9
     rw[hj,dW,e9,dy]
     rfl
  ·refine⟨by rw[e6];exact aY (by omega) (by omega),k+1,by omega,by omega,by rw[e6];omega,?_⟩
   show od (k+1) (kJ l (k+1))=m
   rw[<-i5]
   cases j with
   |zero=>rfl
   |succ j'=>
    have hj:(((j'+1:Nat):Int) - 1).toNat=j':=by omega
    rw[hj] at dy
    have h8:y8=true:=by rw[e8];exact decide_eq_true (by omega)
    rw[h8] at eK
    rw[mG] at eK
    unfold od
    rw[<-e9,<-dy]
    rw[cond_true] at eK
    rw[<-eK]
    rfl
 ·have h5:¬(k:Int)+1<(l.length:Int):=by rw[h] at e5;exact of_decide_eq_false e5.symm
  unfold rW
  by_cases h0:l.length=0
  ·have hk:k=0:=by omega
   rw[h0,hk]
   rfl
  ·have:k+1=l.length:=by omega
   rw[this]
theorem Rk:fq Tryz.prog 262 tZ:=
 fq.b3 (l:=[(204,Ll)]) (A:=EY) aJ ⟨acR,trivial⟩ Tryz.func262 (by kernel_rfl) (by kernel_rfl) fun x hw hp=>We x.1 x.2.1 x.2.2.1 hp.1 hp.2.1 hp.2.2
theorem Um (l:List (Int×Int)) (a:Int) (b:Int) (m:Int) (u:Unit):bS (aj aA [(2050262,tZ)]) Tryz.f248 ua (EZ (l,a,b,m,u,())) (l,a,b,m,u,())=(
U (decide (b - a<=(12:Int))) fun(y5:Bool)=>
(∃(gG:Unit),True/\a=a/\b=b/\m=m/\u=u/\true=true/\true=true/\l=l/\True)/\
∀(s6:Unit),
True->
bo IntKind.i64 (b - a)/\
(y5=true->(a=(0:Int)/\b=(↑l.length:Int)/\small l)/\rW l=rW l/\True)/\
(y5=false->((m==(0:Int))=true->False)/\((m==(0:Int))=false->((!true)=true->False)/\((!true)=false->False)))):=by kernel_rfl
theorem Wf (l:List ck) (a b m:Int) (h1:a=0) (h2:b=(l.length:Int)) (h3:small l):bS (aj aA [(2050262,tZ)]) Tryz.f248 ua (EZ (l,a,b,m,(),())) (l,a,b,m,(),()):=by
 subst h1 h2
 have hl:=h3.1
 rw[Um]
 refine U.mk fun y5 e5=> ?_
 have h5:y5=true:=by rw[e5];exact decide_eq_true (by omega)
 simp only[true_and,and_true,eq_self]
 exact⟨⟨(),trivial⟩,fun _ _=>⟨aY (by omega) (by omega),fun _=>h3,fun h=>by rw[h5] at h;cases h⟩⟩
theorem Rl:fq Tryz.prog 248 ua:=
 fq.b3 (l:=[(2050262,tZ)]) (A:=EZ) aJ ⟨Rk,trivial⟩ Tryz.func248 (by kernel_rfl) (by kernel_rfl) fun x hw hp=>Wf x.1 x.2.1 x.2.2.1 x.2.2.2.1 hp.1 hp.2.1 hp.2.2
theorem v194 (n:Int):ah (aj aA []) Tryz.f194 Lr ar (n,())=(
U (bif decide (n>=(4294967296:Int)) then n.fdiv ((2:Int) ^ min (Int.toNat (32:Int)) IntKind.u64.bits) else n) fun(y1:Int)=>
U (bif decide (n>=(4294967296:Int)) then(32:Int) else(0:Int)) fun(y2:Int)=>
U (bif decide (y1>=(65536:Int)) then y1.fdiv ((2:Int) ^ min (Int.toNat (16:Int)) IntKind.u64.bits) else y1) fun(y3:Int)=>
U (bif decide (y1>=(65536:Int)) then y2+(16:Int) else y2) fun(y4:Int)=>
U (IntKind.u8.wrap (bif decide (y3>=(256:Int)) then y3.fdiv ((2:Int) ^ min (Int.toNat (8:Int)) IntKind.u64.bits) else y3)) fun(y5:Int)=>
U
[(8:UInt8),(8:UInt8),(8:UInt8),(8:UInt8),(8:UInt8),(8:UInt8),(8:UInt8),(8:UInt8),(8:UInt8),(8:UInt8),(8:UInt8),(8:UInt8),(8:UInt8),(8:UInt8),
(8:UInt8),(8:UInt8),(8:UInt8),(8:UInt8),(8:UInt8),(8:UInt8),(8:UInt8),(8:UInt8),(8:UInt8),(8:UInt8),(8:UInt8),(8:UInt8),(8:UInt8),(8:UInt8),
(8:UInt8),(8:UInt8),(8:UInt8),(8:UInt8),(8:UInt8),(8:UInt8),(8:UInt8),(8:UInt8),(8:UInt8),(8:UInt8),(8:UInt8),(8:UInt8),(8:UInt8),(8:UInt8),
(8:UInt8),(8:UInt8),(8:UInt8),(8:UInt8),(8:UInt8),(8:UInt8),(8:UInt8),(8:UInt8),(8:UInt8),(8:UInt8),(8:UInt8),(8:UInt8),(8:UInt8),(8:UInt8),
(8:UInt8),(8:UInt8),(8:UInt8),(8:UInt8),(8:UInt8),(8:UInt8),(8:UInt8),(8:UInt8)]
fun(y6:List UInt8)=>
U
(([(0:UInt8),(1:UInt8),(2:UInt8),(2:UInt8),(3:UInt8),(3:UInt8),(3:UInt8),(3:UInt8),(4:UInt8),(4:UInt8),(4:UInt8),(4:UInt8),(4:UInt8),(4:UInt8),
(4:UInt8),(4:UInt8),(5:UInt8),(5:UInt8),(5:UInt8),(5:UInt8),(5:UInt8),(5:UInt8),(5:UInt8),(5:UInt8),(5:UInt8),(5:UInt8),(5:UInt8),
(5:UInt8),(5:UInt8),(5:UInt8),(5:UInt8),(5:UInt8),(6:UInt8),(6:UInt8),(6:UInt8),(6:UInt8),(6:UInt8),(6:UInt8),(6:UInt8),(6:UInt8),
(6:UInt8),(6:UInt8),(6:UInt8),(6:UInt8),(6:UInt8),(6:UInt8),(6:UInt8),(6:UInt8),(6:UInt8),(6:UInt8),(6:UInt8),(6:UInt8),(6:UInt8),
(6:UInt8),(6:UInt8),(6:UInt8),(6:UInt8),(6:UInt8),(6:UInt8),(6:UInt8),(6:UInt8),(6:UInt8),(6:UInt8),(6:UInt8)].append
[(7:UInt8),(7:UInt8),(7:UInt8),(7:UInt8),(7:UInt8),(7:UInt8),(7:UInt8),(7:UInt8),(7:UInt8),(7:UInt8),(7:UInt8),(7:UInt8),(7:UInt8),
(7:UInt8),(7:UInt8),(7:UInt8),(7:UInt8),(7:UInt8),(7:UInt8),(7:UInt8),(7:UInt8),(7:UInt8),(7:UInt8),(7:UInt8),(7:UInt8),(7:UInt8),
(7:UInt8),(7:UInt8),(7:UInt8),(7:UInt8),(7:UInt8),(7:UInt8),(7:UInt8),(7:UInt8),(7:UInt8),(7:UInt8),(7:UInt8),(7:UInt8),(7:UInt8),
(7:UInt8),(7:UInt8),(7:UInt8),(7:UInt8),(7:UInt8),(7:UInt8),(7:UInt8),(7:UInt8),(7:UInt8),(7:UInt8),(7:UInt8),(7:UInt8),(7:UInt8),
(7:UInt8),(7:UInt8),(7:UInt8),(7:UInt8),(7:UInt8),(7:UInt8),(7:UInt8),(7:UInt8),(7:UInt8),(7:UInt8),(7:UInt8),(7:UInt8)]).append
(y6.append y6))
fun(y7:List UInt8)=>
U ((bif decide (y3>=(256:Int)) then y4+(8:Int) else y4)+(↑(y7.getD y5.toNat (0:UInt8)).toNat:Int)) fun(y8:Int)=>
(decide (n>=(4294967296:Int))=true->(0:Int)<=(32:Int))/\
(decide (y1>=(65536:Int))=true->(0:Int)<=(16:Int))/\
(decide (y1>=(65536:Int))=true->bo IntKind.i64 (y2+(16:Int)))/\
(decide (y3>=(256:Int))=true->(0:Int)<=(8:Int))/\
(decide (y3>=(256:Int))=true->bo IntKind.i64 (y4+(8:Int)))/\aL y5 y7.length/\bo IntKind.i64 y8/\y8=NI n/\True):=by kernel_rfl
theorem aj6 (n:Int) (h0:0<=n) (hp:n<=12):ah (aj aA []) Tryz.f194 Lr ar (n,()):=by
 rw[v194]
 have hn:n=0\/n=1\/n=2\/n=3\/n=4\/n=5\/n=6\/n=7\/n=8\/n=9\/n=10\/n=11\/n=12:=by omega
 rcases hn with rfl|rfl|rfl|rfl|rfl|rfl|rfl|rfl|rfl|rfl|rfl|rfl|rfl<;>
 exact And.intro (fun h=>absurd h (by decide)) (And.intro (fun h=>absurd h (by decide)) (And.intro (fun h=>absurd h (by decide)) (And.intro (fun h=>absurd h (by decide)) (And.intro (fun h=>absurd h (by decide)) (And.intro (And.intro (by decide) (by decide)) (And.intro (aY (by decide) (by decide)) (And.intro (by decide) trivial)))))))
theorem acX:aN Tryz.prog 194 Lr:=
 aN.b3 (l:=[]) (A:=fun _=>ar) aJ trivial Tryz.func194 (by kernel_rfl) (by kernel_rfl) fun x hw hp=>aj6 x.1 (XA hw.1).1 hp
theorem ag9 (n:Int):ah (aj aA [(194,Lr)]) Tryz.f113 Ja ar (n,())=(
(false=true->False)/\(false=false->n<=(12:Int)/\NI n=NI n/\True)):=by kernel_rfl
theorem akx (n:Int) (hp:n<=12):ah (aj aA [(194,Lr)]) Tryz.f113 Ja ar (n,()):=by
 rw[ag9]
 exact And.intro (fun h=>Bool.noConfusion h) (fun _=>⟨hp,rfl,trivial⟩)
theorem adI:aN Tryz.prog 113 Ja:=
 aN.b3 (l:=[(194,Lr)]) (A:=fun _=>ar) aJ ⟨acX,trivial⟩ Tryz.func113 (by kernel_rfl) (by kernel_rfl) fun x hw hp=>akx x.1 hp
theorem Un (l:List (Int×Int)) (u:Unit):bS (aj aA [(2050248,ua),(113,Ja)]) Tryz.f203 ub ar (l,u,())=(
IntKind.u64.wrap (↑l.length:Int)<=(12:Int)/\((0:Int)=(0:Int)/\(↑l.length:Int)=(↑l.length:Int)/\small l)/\rW l=rW l/\True):=by kernel_rfl
theorem Wg (l:List ck) (h3:small l):bS (aj aA [(2050248,ua),(113,Ja)]) Tryz.f203 ub ar (l,(),()):=by
 have hl:=h3.1
 rw[Un]
 refine⟨?_,⟨rfl,rfl,h3⟩,rfl,trivial⟩
 have:IntKind.u64.wrap (l.length:Int)=(l.length:Int):=wrap_u64 (by omega) (by omega)
 omega
theorem Rm:fq Tryz.prog 203 ub:=
 fq.b3 (l:=[(2050248,ua),(113,Ja)]) (A:=fun _=>ar) aJ ⟨Rl,adI,trivial⟩ Tryz.func203 (by kernel_rfl) (by kernel_rfl) fun x hw hp=>Wg x.1 hp
theorem Vs {n:bk} (h:xI n) (e:Int):(ic n e).1<0\/(0<=(ic n e).1/\(ic n e).1<=9):=by
 unfold ic
 cases hm:aW I n.2.2.2.1 e with
 |none=>exact .inl (by decide)
 |some x=>exact .inr (h _ (fM tw hm))
structure Ac (l:List ck):Prop where
 nodup:(l.map Prod.fst).Nodup
 inn:∀t∈l,0<=t.1/\t.1<=9
theorem Oj {n:bk} (h:xI n) {l:List ck} (hl:Ac l) (s:cu):Ac (rE n l s):=by
 unfold rE
 cases h1:decide ((ic n s.1).1<0) with
 |true=>exact hl
 |false=>
  cases h2:l.any (fun t=>t.1==(ic n s.1).1) with
  |true=>exact hl
  |false=>
   refine⟨?_,fun t ht=> ?_⟩
   ·show((l++[_]).map Prod.fst).Nodup
    rw[List.map_append,List.nodup_append]
    refine⟨hl.nodup,by simp,fun a ha b hb he=> ?_⟩
    have hb:b=(ic n s.1).1:=by simpa using hb
    obtain⟨t,ht,rfl⟩:=List.mem_map.1 ha
    have:=List.any_eq_false.1 h2 t ht
    rw[he,hb] at this
    simp at this
   ·rcases List.mem_append.1 (show t∈l++[_] from ht) with ht|ht
    ·exact hl.inn t ht
    ·rw[List.mem_singleton.1 ht]
     rcases Vs h s.1 with h|h
     ·exact absurd h (of_decide_eq_false h1)
     ·exact h
theorem Ai {n:bk} (h:xI n) (r:af):∀k,Ac (fD n r k)
 |0=>⟨List.nodup_nil,fun t ht=>absurd ht (List.not_mem_nil)⟩
 |k+1=>Oj h (Ai h r k) _
theorem Bu {l:List ck} (h:Ac l):l.length<=10:=by
 have:=pZ (l:=l.map Prod.fst) (m:=[0,1,2,3,4,5,6,7,8,9]) h.nodup (fun x hx=>by
  obtain⟨t,ht,rfl⟩:=List.mem_map.1 hx
  have:=h.inn t ht
  have:t.1=0\/t.1=1\/t.1=2\/t.1=3\/t.1=4\/t.1=5\/t.1=6\/t.1=7\/t.1=8\/t.1=9:=by omega
  simp only[List.mem_cons,List.not_mem_nil,or_false]
  exact this)
 rw[List.length_map] at this
 exact this
theorem Mj {l:List ck} (h:Ac l):small l:=⟨by have:=Bu h;omega,fun t ht=>by have:=h.inn t ht;omega⟩
theorem v124 (n:bk) (r:af):ah (aj aA [(199,Ln),(202,Lm),(2020200,w6),(2050203,ub)] [] [(201,.pair (.ref I) .unit),(204,.unit)]) Tryz.f124 YQ (a124 (n,r,())) (n,r,())=(
(∃(dr:Nat),
dr<=r.2.2.2.1.length/\
(↑dr:Int)=(0:Int)/\
[n]=[n]/\
(0:Nat)=(0:Nat)/\
r.2.2.2.1=r.2.2.2.1/\
(↑r.2.2.2.1.length:Int)=(↑r.2.2.2.1.length:Int)/\
fD n r dr=[]/\
ay r (True))/\
∀(s2:Nat),
U (decide ((↑s2:Int)<(↑r.2.2.2.1.length:Int))) fun(y3:Bool)=>
U (r.2.2.2.1.getD (↑s2:Int).toNat ((0:Int),(0:Int),(0:Int))) fun(y4:Int×Int×Int)=>
U (decide ((ic n y4.1).1<(0:Int))) fun(y5:Bool)=>
U ((fD n r s2).any fun(t:ck)=>t.1==(ic n y4.1).1) fun(y6:Bool)=>
U (uZ n y4.1 y4.2.1) fun(y7:Int)=>
U ((List.replicate (1:Nat) ((0:Int),(0:Int))).set (0:Nat) ((ic n y4.1).1,y7)) fun(y8:List (Int×Int))=>
U ((List.replicate (1:Nat) ((0:Int),(0:Int))).set (0:Nat) ((ic n y4.1).1,y7)) fun(y9:List (Int×Int))=>
s2<=r.2.2.2.1.length->
(y3=true->
aL (↑s2:Int) r.2.2.2.1.length/\
True/\
(y5=false->
(fD n r s2).length<=(1000:Nat)/\
(y6=true->
bo IntKind.i64 ((↑s2:Int)+(1:Int))/\
∃(cU:Nat),
cU<=r.2.2.2.1.length/\
r.2.2.2.1.length - cU<r.2.2.2.1.length - s2/\
(↑cU:Int)=(↑s2:Int)+(1:Int)/\
[n]=[n]/\
(0:Nat)=(0:Nat)/\
r.2.2.2.1=r.2.2.2.1/\
(↑r.2.2.2.1.length:Int)=(↑r.2.2.2.1.length:Int)/\
fD n r cU=fD n r s2/\
ay r (True))/\
(y6=false->
True/\
roomFor ((fD n r s2).length+y8.length) (16:Nat)/\
bo IntKind.i64 ((↑s2:Int)+(1:Int))/\
∃(cU:Nat),
cU<=r.2.2.2.1.length/\
r.2.2.2.1.length - cU<r.2.2.2.1.length - s2/\
(↑cU:Int)=(↑s2:Int)+(1:Int)/\
[n]=[n]/\
(0:Nat)=(0:Nat)/\
r.2.2.2.1=r.2.2.2.1/\
(↑r.2.2.2.1.length:Int)=(↑r.2.2.2.1.length:Int)/\
fD n r cU=fD n r s2++y8/\
ay r (True)))/\
(y5= !false->
(true=true->
bo IntKind.i64 ((↑s2:Int)+(1:Int))/\
∃(cU:Nat),
cU<=r.2.2.2.1.length/\
r.2.2.2.1.length - cU<r.2.2.2.1.length - s2/\
(↑cU:Int)=(↑s2:Int)+(1:Int)/\
[n]=[n]/\
(0:Nat)=(0:Nat)/\
r.2.2.2.1=r.2.2.2.1/\
(↑r.2.2.2.1.length:Int)=(↑r.2.2.2.1.length:Int)/\
fD n r cU=fD n r s2/\
ay r (True))/\
(true=false->
True/\
roomFor ((fD n r s2).length+y9.length) (16:Nat)/\
bo IntKind.i64 ((↑s2:Int)+(1:Int))/\
∃(cU:Nat),
cU<=r.2.2.2.1.length/\
r.2.2.2.1.length - cU<r.2.2.2.1.length - s2/\
(↑cU:Int)=(↑s2:Int)+(1:Int)/\
[n]=[n]/\
(0:Nat)=(0:Nat)/\
r.2.2.2.1=r.2.2.2.1/\
(↑r.2.2.2.1.length:Int)=(↑r.2.2.2.1.length:Int)/\
fD n r cU=fD n r s2++y9/\
ay r (True))))/\
(y3=false->small (fD n r s2)/\rW (fD n r s2)=dM n r/\True)):=by kernel_rfl
theorem akq (n:bk) (r:af) (hl:xI n) (hr:r.2.2.2.1.length<=1000):ah (aj aA [(199,Ln),(202,Lm),(2020200,w6),(2050203,ub)] [] [(201,.pair (.ref I) .unit),(204,.unit)]) Tryz.f124 YQ (a124 (n,r,())) (n,r,()):=by
 rw[v124]
 simp only[dp,true_and,and_true,eq_self]
 refine⟨⟨0,by omega,by omega,rfl⟩,fun s=>U.mk fun y3 e3=>U.mk fun y4 e4=>U.mk fun y5 e5=>U.mk fun y6 e6=>U.mk fun y7 e7=>U.mk fun y8 e8=>U.mk fun y9 e9=>fun hs=>⟨fun h=> ?_,fun h=> ?_⟩⟩
 ·have nI:=aZ e3 h
  rw[Int.toNat_natCast] at e4
  have hw:fD n r (s+1)=rE n (fD n r s) y4:=by rw[e4];rfl
  have hq:rE n (fD n r s) y4=bif y5||y6 then fD n r s else fD n r s++y8:=by rw[e5,e6,e8,e7];rfl
  have lp:=Bu (Ai hl r s)
  refine⟨⟨by omega,by omega⟩,fun h5=>⟨by omega,fun h6=>⟨aY (by omega) (by omega),s+1,by omega,by omega,by omega,?_⟩,fun h6=>⟨cT (by rw[e8];show _+1<=_;omega) (by omega),aY (by omega) (by omega),s+1,by omega,by omega,by omega,?_⟩⟩,fun h5=>⟨fun _=>⟨aY (by omega) (by omega),s+1,by omega,by omega,by omega,?_⟩,fun h=>Bool.noConfusion h⟩⟩
  ·rw[hw,hq,h5,h6];rfl
  ·rw[hw,hq,h5,h6];rfl
  ·rw[hw,hq,h5];rfl
 ·have nI:=bt e3 h
  have:s=r.2.2.2.1.length:=by omega
  subst this
  refine⟨Mj (Ai hl r _),?_⟩
  unfold dM
  rfl
theorem adA:aN Tryz.prog 124 YQ:=
 aN.b3 (l:=[(199,Ln),(202,Lm),(2020200,w6),(2050203,ub)]) (wraps:=[]) (clos:=[(201,.pair (.ref I) .unit),(204,.unit)]) (A:=a124) aJ ⟨Xa,acS,Rp,Rm,trivial⟩ Tryz.func124 (by kernel_rfl) (by kernel_rfl) fun x hw hp=>akq x.1 x.2.1 hp.1 hp.2
theorem KV {p:ab} {l:List Int} {o:Int}:∀k,(ed p l o k).2.2=true->(ed p l o k).1.length=k+1
 |0,_=>rfl
 |k+1,h=>by
  have h0:(ed p l o k).2.2=true:=by
   cases h0:(ed p l o k).2.2 with
   |true=>rfl
   |false=>rw[xY h0 (k+1) (by omega)] at h;cases h
  have ih:=KV k h0
  unfold ed at h ⊢
  cases hb:((ed p l o k).2.2&&((oe p l k (ed p l o k).2.1).2&&(oe p l k (ed p l o k).2.1).1.1==l.getD (k+1) 0)) with
  |true=>
   show(_++[_]).length=_
   rw[List.length_append,ih]
   rfl
  |false=>rw[hb] at h;cases h
theorem MU {p:ab} (h:fO p=true) {s:Nat} (hs:s<p.2.2.2.1.length):(eD p (p.2.2.2.1.getD s zL).2).2=true:=by
 unfold fO at h
 have:=gx.1 h s hs
 unfold jk at this
 rw[Bool.and_eq_true] at this
 exact this.2
def Tl (l:List ck) (i:Nat):Int:=(l.getD i zT).1
theorem swap_perm:∀(j:Nat) (l:List ck),j+1<l.length->(oW l j).Perm l
 |_,[],h=>by simp at h
 |0,[x],h=>by simp at h
 |0,x::y::l,_=>by show(y::x::l).Perm _;exact .swap x y l
 |j+1,x::l,h=>by
  have:=swap_perm j l (by simp at h;omega)
  have e:oW (x::l) (j+1)=x::oW l j:=by unfold oW;simp
  rw[e]
  exact this.cons x
theorem KA:∀(j:Nat) (l:List ck),j<l.length->(od j l).Perm l
 |0,l,_=> .refl l
 |j+1,l,h=>by
  unfold od
  cases decide ((l.getD (j+1) zT).1 - (l.getD j zT).1<0) with
  |true=>rw[cond_true];exact(KA j _ (by rw[Aj];omega)).trans (swap_perm j l h)
  |false=>exact .refl l
theorem Ol (l:List ck):∀(k:Nat),k<=l.length->(kJ l k).Perm l
 |0,_=> .refl l
 |k+1,h=>(KA k _ (by rw[Cx];omega)).trans (Ol l k (by omega))
theorem Hf (l:List ck):(rW l).Perm l:=by
 unfold rW
 exact Ol l _ (Nat.le_refl _)
structure akW (l:List ck) (j K:Nat):Prop where
 rest:∀a b,a<b->b<K->a≠j->b≠j->Tl l a<=Tl l b
 lt:∀b,j<b->b<K->Tl l j<Tl l b
theorem mem_row {i:Int} {l:List Int} {x:Int×Int×Int}:∀{n:Nat},x∈ll i l n↔∃k,k<n/\x=(l.getD k 0,i,(k:Int))
 |0=>⟨fun h=>absurd h List.not_mem_nil,fun⟨k,h,_⟩=>absurd h (by omega)⟩
 |n+1=>by
  show x∈ll i l n++[(l.getD n 0,i,(n:Int))]↔_
  rw[List.mem_append,mem_row (n:=n),List.mem_singleton]
  constructor
  ·rintro(⟨k,hk,e⟩|e)
   ·exact⟨k,by omega,e⟩
   ·exact⟨n,by omega,e⟩
  ·rintro⟨k,hk,e⟩
   by_cases h:k=n
   ·subst h;exact .inr e
   ·exact .inl ⟨k,by omega,e⟩
theorem HP {p:ab} {x:Int×Int×Int}:∀{n:Nat},x∈iN p n↔∃s k:Nat,s<n/\k<(p.2.2.2.1.getD s zL).2.length/\x=((p.2.2.2.1.getD s zL).2.getD k 0,(s:Int),(k:Int))
 |0=>⟨fun h=>absurd h List.not_mem_nil,fun⟨s,k,h,_⟩=>absurd h (by omega)⟩
 |n+1=>by
  show x∈iN p n++ll (n:Int) (p.2.2.2.1.getD n zL).2 (p.2.2.2.1.getD n zL).2.length↔_
  rw[List.mem_append,HP (n:=n),mem_row]
  constructor
  ·rintro(⟨s,k,hs,hk,e⟩|⟨k,hk,e⟩)
   ·exact⟨s,k,by omega,hk,e⟩
   ·exact⟨n,k,by omega,hk,e⟩
  ·rintro⟨s,k,hs,hk,e⟩
   by_cases h:s=n
   ·subst h;exact .inr ⟨k,hk,e⟩
   ·exact .inl ⟨s,k,by omega,hk,e⟩
theorem aab (p:ab):nf p=(p,dU p,zO p,Dq p,NG p):=by unfold nf;rfl
theorem O4 {p:ab} (h:p.2.2.2.1.length<=10):xI (nf p):=by
 intro x hx
 have hx:x∈Dq p:=by rw[aab] at hx;exact hx
 unfold Dq at hx
 obtain⟨s,k,hs,hk,e⟩:=HP.1 hx
 rw[e]
 exact⟨by show(0:Int)<=(s:Int);omega,by show(s:Int)<=9;omega⟩
theorem KU {p:ab} {l:List Int} {o:Int} (h0:1 - o=pG p l 0):∀k,(ed p l o k).2.2=true->(ed p l o k).2.1=1 - pG p l k/\∀j,j<=k->(ed p l o k).1.getD j 0=pG p l j
 |0,_=>by
  refine⟨?_,fun j hj=> ?_⟩
  ·show o=_
   omega
  ·have e:j=0:=by omega
   rw[e]
   exact h0
 |k+1,h=>by
  have hk:(ed p l o k).2.2=true:=by
   cases hk:(ed p l o k).2.2 with
   |true=>rfl
   |false=>rw[xY hk (k+1) (by omega)] at h;cases h
  obtain⟨i1,i2⟩:=KU h0 k hk
  have hlen:=KV k hk
  cases hb:((ed p l o k).2.2&&((oe p l k (ed p l o k).2.1).2&&(oe p l k (ed p l o k).2.1).1.1==l.getD (k+1) 0)) with
  |false=>unfold ed at h;rw[hb] at h;cases h
  |true=>
   have he:ed p l o (k+1)=((ed p l o k).1++[(oe p l k (ed p l o k).2.1).1.2],1 - (oe p l k (ed p l o k).2.1).1.2,true):=by
    conv=>lhs;unfold ed
    rw[hb]
    rfl
   simp only[Bool.and_eq_true] at hb
   have nJ:(oe p l k (ed p l o k).2.1).1.2=pG p l (k+1):=by
    show _=((aW aO (dU p) (l.getD k 0,1 - pG p l k)).getD (0,0)).2
    rw[mU,<-i1]
    have:=hb.2.1
    unfold oe at this ⊢
    rw[this]
    rfl
   rw[he,nJ]
   refine⟨rfl,fun j hj=> ?_⟩
   show(_++[_]).getD j 0=_
   by_cases JM:j=k+1
   ·subst JM
    rw[List.getD_eq_getElem?_getD,List.getElem?_append_right (by omega),hlen]
    simp
   ·have:=i2 j (by omega)
    rw[List.getD_eq_getElem?_getD,List.getElem?_append_left (by omega),<-List.getD_eq_getElem?_getD]
    exact this
theorem NK {p:ab} {l:List Int} (h:(eD p l).2=true) {k:Nat} (hk:k<l.length):(eD p l).1.getD k 0=pG p l k/\aK p (l.getD k 0)=1:=by
 have Vk:pG p l 0=M8 p l:=rfl
 unfold eD at h ⊢
 cases h1:decide (l.length=0)|| !l.all (fun e=>aK p e==1) with
 |true=>rw[h1] at h;cases h
 |false=>
  rw[h1,cond_false] at h;rw[cond_false]
  have BX:aK p (l.getD k 0)=1:=by
   rw[Bool.or_eq_false_iff] at h1
   have:=h1.2
   have:l.all (fun e=>aK p e==1)=true:=by simpa using this
   exact eq_of_beq (List.all_eq_true.1 this _ (fJ 0 hk))
  refine⟨?_,BX⟩
  cases h2:decide (l.length=1) with
  |true=>
   rw[cond_true]
   have:=of_decide_eq_true h2
   have hk0:k=0:=by omega
   subst hk0
   rw[Vk]
   unfold M8
   rw[this]
   rfl
  |false=>
   rw[h2,cond_false] at h;rw[cond_false]
   have PE:=of_decide_eq_false h2
   cases h3:decide (fN p l<0) with
   |true=>rw[h3] at h;cases h
   |false=>
    rw[h3,cond_false] at h;rw[cond_false]
    have h3:=of_decide_eq_false h3
    have aau:1 - fN p l=pG p l 0:=by
     rw[Vk]
     unfold M8
     rw[decide_eq_true (by omega:(l.length:Int)>1),cond_true,BI]
     unfold fN at h3 ⊢
     cases ho:qK p l 0 with
     |true=>rfl
     |false=>
      rw[ho] at h3
      cases ho1:qK p l 1 with
      |true=>rfl
      |false=>rw[ho1] at h3;exact absurd (by decide) h3
    cases h4:(ed p l (fN p l) (l.length - 1)).2.2 with
    |false=>rw[h4] at h;cases h
    |true=>
     rw[cond_true]
     exact(KU aau _ h4).2 k (by omega)
end YtjnappfomhkeeaaGreat
end Go.Proofs
end

section
set_option maxRecDepth 100000
set_option linter.unusedVariables false
namespace Go.Vc
open Go
theorem aN.ptr {P:Program} {f:Nat} {t:Ty} {ts:List Ty} {out:Out} {pre:kC (.ref t::ts)->Prop} {fn:kC (.ref t::ts)->kC out.Jx} {pre':kC (.ptr t::ts)->Prop} (h:aN P f ⟨.ref t::ts,out,pre,fn⟩)
  (hp:∀x:kC (.ptr t::ts),pre' x->∃y,x.1=some y/\pre (y,x.2)):aN P f ⟨.ptr t::ts,out,pre',fun x=>fn (x.1.getD t.Du,x.2)⟩ where
 fn:=h.fn
 calls F w x vs hF hx pj:=by
  obtain⟨y,hy,hq⟩:=hp x pj
  obtain⟨x1,x2⟩:=x
  have hy:x1=some y:=hy
  subst hy
  obtain⟨v,us,rfl,h1,h2⟩:=hx
  refine h.calls F w (y,x2) (v::us) hF ⟨v,us,rfl,?_,h2⟩ hq
  have h1:dj F (.ptr t) (some y) [v]:=h1
  rcases h1 with ⟨h,_⟩|⟨y',Nc,b,off,k⟩
  ·cases h
  ·cases Nc
   exact⟨b,off,k⟩
end Go.Vc
namespace Go.Proofs
open Go Go.Vc
namespace YtjnappfomhkeeaaGreat
abbrev ZB:Ty:= .map I (.list I)
abbrev T3:Ty:= .map I (.list eB)
abbrev rk:Ty:= .pair I (.pair ZB (.pair ZB (.pair T3 T3)))
abbrev av:=Int×List (Int×List Int)×List (Int×List Int)×List (Int×List ba)×List (Int×List ba)
abbrev Af:eU:= .cells true (.pair (.aG I) (.pair (.map I (.list I)) (.pair (.map I (.list I)) (.pair (.map I (.list eB)) (.map I (.list eB))))))
abbrev DV:Ty:= .pair (.ptr jx) (.map lx .bool)
abbrev eJ:=Option bk×List (ck×Bool)
abbrev N3:eU:= .cells true (.pair (.aG (.ptr jx)) (.map lx .bool))
def bI (o:Option bk):bk:=o.getD (Ty.Du jx)
def iS (o:Option bk):Prop:=∃n,o=some n
def gS (o:Option bk):Prop:=∃n,o=some n/\xI n
def Cg:bg where
 args:=[.ptr jx,eH]
 out:= .data [.list lx]
 pre:=fun(x:Option bk×af×Unit)=>gS x.1/\x.2.1.2.2.2.1.length<=1000
 fn:=fun(x:Option bk×af×Unit)=>(dM (bI x.1) x.2.1,())
def NR:bg where
 args:=[.ptr jx,I]
 out:= .data [I,I]
 pre:=fun(x:Option bk×Int×Unit)=>iS x.1
 fn:=fun(x:Option bk×Int×Unit)=>((ic (bI x.1) x.2.1).1,(ic (bI x.1) x.2.1).2,())
def NS:bg where
 args:=[.ptr jx,I]
 out:= .data [aO,.bool]
 pre:=fun(x:Option bk×Int×Unit)=>iS x.1
 fn:=fun(x:Option bk×Int×Unit)=>((lL (bI x.1).1 x.2.1).1,(lL (bI x.1).1 x.2.1).2,())
def I6:bg where
 args:=[.ptr jx]
 out:= .data [I]
 pre:=fun(x:Option bk×Unit)=>iS x.1
 fn:=fun(x:Option bk×Unit)=>(((bI x.1).1.1.length:Int),())
theorem Tg:aN Tryz.prog 124 Cg:=adA.ptr fun x h=>by
 obtain⟨⟨n,h1,h2⟩,h3⟩:=h
 exact⟨n,h1,h2,h3⟩
theorem Z5:aN Tryz.prog 199 NR:=Xa.ptr fun x h=>by
 obtain⟨n,h1⟩:=h
 exact⟨n,h1,trivial⟩
theorem Z6:aN Tryz.prog 197 NS:=Xb.ptr fun x h=>by
 obtain⟨n,h1⟩:=h
 exact⟨n,h1,trivial⟩
theorem W2:aN Tryz.prog 52 I6:=ahE.ptr fun x h=>by
 obtain⟨n,h1⟩:=h
 exact⟨n,h1,trivial⟩
def LZ:bg where
 args:=[.list I,I]
 out:= .data [I]
 pre:=fun(x:List Int×Int×Unit)=>True
 fn:=fun(x:List Int×Int×Unit)=>(fp (fun y=>x.2.1==y) x.1,())
def a117 (x:List Int×Int×Unit):eA:=bh [(2,fun _=>tU (fun y=>x.2.1==y) x.1 8 [0,1,7])]
def Ce:bg where
 args:=[.list I,I]
 out:= .data [.bool]
 pre:=fun(x:List Int×Int×Unit)=>True
 fn:=fun(x:List Int×Int×Unit)=>(bN x.1 x.2.1,())
def V4:fG where
 args:=[.aG I]
 outs:=[Af]
 pre:=fun(x:Int×Unit)=>True
 fn:=fun(x:Int×Unit)=>((max 0 (min x.1 40),[],[],[],[]),())
def o4 (b:av) (e:Int):Prop:=∀x∈b.2.1,∀y∈b.2.1,bN x.2 e=true->bN y.2 e=true->x.1=y.1
def WX (o:Option (Int×List Int)):Int:=match o with
 |some x=>x.1
 |none=> -1
@[irreducible] def fT (b:av) (e:Int):Int:=WX (b.2.1.find? fun x=>bN x.2 e)
def JT:bg where
 args:=[.ref rk,I]
 out:= .data [I]
 pre:=fun(x:av×Int×Unit)=>o4 x.1 x.2.1
 fn:=fun(x:av×Int×Unit)=>(fT x.1 x.2.1,())
def CI (b:av) (e:Int) (todo:List (Int×List Int)):Prop:=∃done,b.2.1.Perm (done++todo)/\done.any (fun x=>bN x.2 e)=false
def a29 (x:av×Int×Unit):eA:=bh [(2,fun _=>{
 σ:=List (Int×List Int)
 ok:=fun todo=>CI x.1 x.2.1 todo
 mu:=fun todo=>todo.length
 sl:=fun todo=>[(11,.one (.ptr 11 0))]
 bl:=fun todo=>[(11,.iter I (.list I) todo none)]
 keep:=[0,1]
 cv:=[]})]
def V3:fG where
 args:=[.aG (.ptr jx)]
 outs:=[N3]
 pre:=fun(x:Option bk×Unit)=>True
 fn:=fun(x:Option bk×Unit)=>((x.1,[]),())
def pJ (m:List (ck×Bool)) (t:ck):Bool:=(aW lx m t).getD false
@[irreducible] def w4 (m:List (ck×Bool)) (l:Int):Int:=bif pJ m (l,1) then 1 else bif pJ m (l,2) then 2 else 0
def VT:bg where
 args:=[.ref DV,I]
 out:= .data [I]
 pre:=fun(x:eJ×Int×Unit)=>True
 fn:=fun(x:eJ×Int×Unit)=>(w4 x.1.2 x.2.1,())
def Ar (m:List (ck×Bool)) (l:Int) (k:Nat):Prop:=∀j,1<=j->j<k+1->pJ m (l,(j:Int))=false
def a95 (x:eJ×Int×Unit):eA:=bh [(2,fun _=>{
 σ:=Nat
 ok:=fun k=>k<=2/\Ar x.1.2 x.2.1 k
 mu:=fun k=>2 - k
 sl:=fun k=>[(5,.one (.aG I ((k:Int)+1)))]
 bl:=fun _=>[]
 keep:=[0,1]
 cv:=[]})]
def vZ (iL:List Bool) (e:Int):Bool:=decide (0<=e)&&(decide (e<(iL.length:Int))&&iL.getD e.toNat false)
def FG (n:bk) (l:Int) (iL:List Bool) (b:av) (Jh:Int) (k:Nat):Bool:=
 (ic n (k:Int)).1==l&&((vZ iL (k:Int)&& !((k:Int)==Jh))||decide (0<=fT b (k:Int)))
@[irreducible] def Dn (n:bk) (l:Int) (iL:List Bool) (b:av) (Jh:Int):Bool:= !cj (FG n l iL b Jh) n.1.1.length
def kp (b:av):Prop:=∀e,o4 b e
def Lo:bg where
 args:=[.ref DV,I,.list .bool,.ref rk,I]
 out:= .data [.bool]
 pre:=fun(x:eJ×Int×List Bool×av×Int×Unit)=>iS x.1.1/\kp x.2.2.2.1
 fn:=fun(x:eJ×Int×List Bool×av×Int×Unit)=>(Dn (bI x.1.1) x.2.1 x.2.2.1 x.2.2.2.1 x.2.2.2.2.1,())
def a198 (x:eJ×Int×List Bool×av×Int×Unit):eA:=bh [(2,fun _=>dH (bI x.1.1).1.1.length (eb (FG (bI x.1.1) x.2.1 x.2.2.1 x.2.2.2.1 x.2.2.2.2.1)) 19 [0,1,2,3,4,18] [])]
def DP (n:bk) (s:Int):Int:=bif(lL n.1 s).2 then(lL n.1 s).1.1 else -1
def sB (t:eJ) (iL:List Bool) (b:av) (Jh:Int) (w:ck):Bool:=
 !(w4 t.2 w.1==0)&&(!(w4 t.2 w.1==w.2)&& !Dn (bI t.1) w.1 iL b Jh)
@[irreducible] def mv (t:eJ) (r:af) (iL:List Bool) (b:av):Int:=
 bif(dM (bI t.1) r).any (sB t iL b (DP (bI t.1) r.1)) then 8 else 0
def DI:bg where
 args:=[.ref DV,eH,.list .bool,.ref rk]
 out:= .data [I]
 pre:=fun(x:eJ×af×List Bool×av×Unit)=>(gS x.1.1/\x.2.1.2.2.2.1.length<=1000)/\kp x.2.2.2.1
 fn:=fun(x:eJ×af×List Bool×av×Unit)=>(mv x.1 x.2.1 x.2.2.1 x.2.2.2.1,())
def Zk (x:eJ×af×List Bool×av×Unit):eA:=bh [(6,fun _=>{
 σ:=Nat
 ok:=fun k=>k<=(dM (bI x.1.1) x.2.1).length/\((dM (bI x.1.1) x.2.1).take k).any (sB x.1 x.2.2.1 x.2.2.2.1 (DP (bI x.1.1) x.2.1.1))=false
 mu:=fun k=>(dM (bI x.1.1) x.2.1).length - k
 sl:=fun k=>[(35,.one (.aG I (k:Int))),(9,.one (.aG I (DP (bI x.1.1) x.2.1.1)))]
 bl:=fun _=>[]
 keep:=[0,2,3,33,34]
 cv:=[]})]
def ZY (m:List (ck×Bool)) (w:ck):List (ck×Bool):=df lx (iV lx m (w.1,3 - w.2)) w true
def tH (m:List (ck×Bool)) (l:List ck):Nat->List (ck×Bool)
 |0=>m
 |k+1=>ZY (tH m l k) (l.getD k zT)
@[irreducible] def Dl (t:eJ) (r:af):List (ck×Bool):=tH t.2 (dM (bI t.1) r) (dM (bI t.1) r).length
def TE (t:eJ) (r:af) (iL:List Bool) (b:av):eJ:=(t.1,bif mv t r iL b==0 then Dl t r else t.2)
def VY:fG where
 args:=[N3,.aG eH,.aG (.list .bool),Af]
 outs:=[.aG I]
 pre:=fun(x:eJ×af×List Bool×av×Unit)=>(gS x.1.1/\x.2.1.2.2.2.1.length<=1000)/\kp x.2.2.2.1
 fn:=fun(x:eJ×af×List Bool×av×Unit)=>(mv x.1 x.2.1 x.2.2.1 x.2.2.2.1,())
 fS:=fun(x:eJ×af×List Bool×av×Unit)=>(TE x.1 x.2.1 x.2.2.1 x.2.2.2.1,x.2.1,x.2.2.1,x.2.2.2.1,())
def a70 (x:eJ×af×List Bool×av×Unit):eA:=bh [(5,fun _=>{
 σ:=Nat
 ok:=fun k=>k<=(dM (bI x.1.1) x.2.1).length
 mu:=fun k=>(dM (bI x.1.1) x.2.1).length - k
 sl:=fun k=>[(27,.one (.aG I (k:Int)))]
 bl:=fun k=>[(1000001,.map false lx .bool (tH x.1.2 (dM (bI x.1.1) x.2.1) k) none)]
 keep:=[0,3,25,26]
 cv:=[1000000,1000002,1000003,1000004,1000005,1000006]})]
end YtjnappfomhkeeaaGreat
end Go.Proofs
end

section
set_option maxRecDepth 100000
set_option linter.unusedVariables false
set_option linter.unusedSimpArgs false
set_option maxHeartbeats 4000000
namespace Go.Proofs
open Go Go.Vc
namespace YtjnappfomhkeeaaGreat
theorem v117 (xs:List Int) (v:Int):ah (aj aA []) Tryz.f117 LZ (a117 (xs,v,())) (xs,v,())=(
U (fp (fun(y:Int)=>v==y) xs) fun(y2:Int)=>
(∃(fB:Nat),(fB<=xs.length/\((List.take fB xs).any fun(y:Int)=>v==y)=false)/\(↑fB:Int)=(0:Int)/\xs=xs/\v=v/\(↑xs.length:Int)=(↑xs.length:Int)/\True)/\
∀(s3:Nat),
U (decide ((↑s3:Int)<(↑xs.length:Int))) fun(y4:Bool)=>
U (v==xs.getD (↑s3:Int).toNat (0:Int)) fun(y5:Bool)=>
s3<=xs.length/\((List.take s3 xs).any fun(y:Int)=>v==y)=false->
(y4=true->
aL (↑s3:Int) xs.length/\
(y5=true->(↑s3:Int)=y2/\True)/\
(y5=false->
bo IntKind.i64 ((↑s3:Int)+(1:Int))/\
∃(eV:Nat),
(eV<=xs.length/\((List.take eV xs).any fun(y:Int)=>v==y)=false)/\
xs.length - eV<xs.length - s3/\(↑eV:Int)=(↑s3:Int)+(1:Int)/\xs=xs/\v=v/\(↑xs.length:Int)=(↑xs.length:Int)/\True))/\
(y4=false->(-1:Int)=y2/\True)):=by kernel_rfl
theorem akw (xs:List Int) (v:Int) (hw:xs.length<=aM):ah (aj aA []) Tryz.f117 LZ (a117 (xs,v,())) (xs,v,()):=by
 rw[v117]
 refine U.mk fun y2 e2=> ?_
 simp only[true_and,and_true,eq_self]
 refine⟨⟨0,⟨by omega,by simp⟩,by omega⟩,fun s=>U.mk fun y4 e4=>U.mk fun y5 e5=> ?_⟩
 rintro⟨h1,h2⟩
 rw[Int.toNat_natCast] at e5
 refine⟨fun hs=> ?_,fun hs=> ?_⟩
 ·have hs:=aZ e4 hs
  refine⟨⟨by omega,by omega⟩,fun e=> ?_,fun e=>⟨dw hs hw,s+1,⟨by omega,?_⟩,by omega,by omega⟩⟩
  ·rw[e2]
   exact rX (0:Int) hs h2 (by rw[<-e5];exact e)
  ·exact any_succ (0:Int) hs h2 (by rw[<-e5];exact e)
 ·rw[e2]
  exact qp (s:=s) (bt e4 hs) h2
theorem Xi:aN Tryz.prog 117 LZ:=
 aN.b3 (l:=[]) (A:=a117) aJ trivial Tryz.func117 (by kernel_rfl) (by kernel_rfl) fun x hw hp=>akw x.1 x.2.1 hw.1.1
theorem v74 (xs:List Int) (v:Int):ah (aj aA [(117,LZ)]) Tryz.f74 Ce ar (xs,v,())=(
U (fp (fun(y:Int)=>v==y) xs) fun(y2:Int)=>True/\decide (y2>=(0:Int))=bN xs v/\True):=by kernel_rfl
theorem b74 (xs:List Int) (v:Int):ah (aj aA [(117,LZ)]) Tryz.f74 Ce ar (xs,v,()):=by
 rw[v74]
 refine U.mk fun y2 e2=>⟨trivial,?_,trivial⟩
 rw[e2,p9]
 unfold bN
 congr 1
 funext y
 rw[fI]
theorem Te:aN Tryz.prog 74 Ce:=
 aN.b3 (l:=[(117,LZ)]) (A:=fun _=>ar) aJ ⟨Xi,trivial⟩ Tryz.func74 (by kernel_rfl) (by kernel_rfl) fun x hw hp=>b74 x.1 x.2.1
theorem v51 (n:Int):bS (aj aA []) Tryz.f51 V4 ar (n,())=(
max (0:Int) (min n (40:Int))=max (0:Int) (min n (40:Int))/\([]:List (Int×List Int)).Perm []/\([]:List (Int×List Int)).Perm []/\([]:List (Int×List ba)).Perm []/\([]:List (Int×List ba)).Perm []/\True):=by kernel_rfl
theorem ahF:fq Tryz.prog 51 V4:=
 fq.b3 (l:=[]) (A:=fun _=>ar) aJ trivial Tryz.func51 (by kernel_rfl) (by kernel_rfl) fun x hw hp=>by
  obtain⟨n,⟨⟩⟩:=x
  show bS (aj aA []) Tryz.f51 V4 ar (n,())
  rw[v51]
  exact⟨rfl,.refl _,.refl _,.refl _,.refl _,trivial⟩
theorem Ko {b:av} {e:Int} (h:o4 b e) {x:Int×List Int} (hx:x∈b.2.1) (hm:bN x.2 e=true):fT b e=x.1:=by
 unfold fT
 cases hf:b.2.1.find? (fun x=>bN x.2 e) with
 |none=>exact absurd hm (by simpa using List.find?_eq_none.1 hf x hx)
 |some y=>exact h y (List.mem_of_find?_eq_some hf) x hx (by simpa using List.find?_some hf) hm
theorem OS {b:av} {e:Int} (h:b.2.1.any (fun x=>bN x.2 e)=false):fT b e= -1:=by
 unfold fT
 rw[List.find?_eq_none.2 fun x hx=>by simpa using List.any_eq_false.1 h x hx]
 rfl
theorem UO {α:Type} {l m:List α} (h:l.Perm m) (q:α->Bool):l.any q=m.any q:=by
 cases hm:m.any q with
 |true=>
  obtain⟨x,hx,hq⟩:=List.any_eq_true.1 hm
  exact List.any_eq_true.2 ⟨x,h.mem_iff.2 hx,hq⟩
 |false=>exact List.any_eq_false.2 fun x hx=>List.any_eq_false.1 hm x (h.mem_iff.1 hx)
theorem v29 (b:av) (e:Int):ah (aj aA [(74,Ce)]) Tryz.f29 JT (a29 (b,e,())) (b,e,())=(
(∃(dr:List (Int×List Int)),CI b e dr/\[b]=[b]/\(0:Nat)=(0:Nat)/\e=e/\dr=b.2.1/\True)/\
∀(s2:List (Int×List Int)),
CI b e s2->
(s2=[]->(false=true->False)/\(false=false->(-1:Int)=fT b e/\True))/\
∀(x3:Int×List Int) (WO:List (Int×List Int)),
s2.Perm (x3::WO)->
(true=true->
True/\
(bN x3.2 e=true->x3.1=fT b e/\True)/\
(bN x3.2 e=false->∃(gO:List (Int×List Int)),CI b e gO/\gO.length<s2.length/\[b]=[b]/\(0:Nat)=(0:Nat)/\e=e/\gO=WO/\True))/\
(true=false->(-1:Int)=fT b e/\True)):=by kernel_rfl
theorem b29 (b:av) (e:Int) (h:o4 b e):ah (aj aA [(74,Ce)]) Tryz.f29 JT (a29 (b,e,())) (b,e,()):=by
 rw[v29]
 simp only[true_and,and_true,eq_self]
 refine⟨⟨b.2.1,⟨[],.refl _,rfl⟩,rfl⟩,fun s hs=>⟨fun h0=>⟨fun h=>Bool.noConfusion h,fun _=> ?_⟩,fun x rest hp=>⟨fun _=>⟨fun hm=> ?_,fun hm=> ?_⟩,fun h=>Bool.noConfusion h⟩⟩⟩
 ·obtain⟨done,h1,h2⟩:=hs
  subst h0
  rw[OS]
  rw[UO h1,List.append_nil]
  exact h2
 ·obtain⟨done,h1,h2⟩:=hs
  exact(Ko h (h1.mem_iff.2 (List.mem_append_right _ (hp.mem_iff.2 (List.mem_cons_self ..)))) hm).symm
 ·obtain⟨done,h1,h2⟩:=hs
  refine⟨rest,⟨done++[x],?_,?_⟩,?_,rfl⟩
  ·rw[List.append_assoc]
   exact h1.trans (hp.append_left done)
  ·rw[List.any_append,h2]
   simp[hm]
  ·rw[hp.length_eq]
   exact Nat.lt_succ_self _
theorem abt:aN Tryz.prog 29 JT:=
 aN.b3 (l:=[(74,Ce)]) (A:=a29) aJ ⟨Te,trivial⟩ Tryz.func29 (by kernel_rfl) (by kernel_rfl) fun x hw hp=>b29 x.1 x.2.1 hp
theorem v53 (n:Option (bk)):bS (aj aA []) Tryz.f53 V3 ar (n,())=(
n=n/\([]:List (ck×Bool)).Perm []/\True):=by kernel_rfl
theorem ahD:fq Tryz.prog 53 V3:=
 fq.b3 (l:=[]) (A:=fun _=>ar) aJ trivial Tryz.func53 (by kernel_rfl) (by kernel_rfl) fun x hw hp=>by
  obtain⟨n,⟨⟩⟩:=x
  show bS (aj aA []) Tryz.f53 V3 ar (n,())
  rw[v53]
  exact⟨rfl,.refl _,trivial⟩
theorem v95 (t:Option (bk)×List ((Int×Int)×Bool)) (l:Int):ah (aj aA []) Tryz.f95 VT (a95 (t,l,())) (t,l,())=(
(∃(dr:Nat),(dr<=(2:Nat)/\Ar t.2 l dr)/\(↑dr:Int)+(1:Int)=(1:Int)/\[t]=[t]/\(0:Nat)=(0:Nat)/\l=l/\True)/\
∀(s2:Nat),
U (decide ((↑s2:Int)+(1:Int)<=(2:Int))) fun(y3:Bool)=>
U ((aW aO t.2 (l,(↑s2:Int)+(1:Int))).getD false) fun(y4:Bool)=>
U ((↑s2:Int)+(1:Int)+(1:Int)) fun(y5:Int)=>
s2<=(2:Nat)/\Ar t.2 l s2->
(y3=true->
(y4=true->(↑s2:Int)+(1:Int)=w4 t.2 l/\True)/\
(y4=false->
bo IntKind.i64 y5/\
∃(eV:Nat),(eV<=(2:Nat)/\Ar t.2 l eV)/\(2:Nat) - eV<(2:Nat) - s2/\(↑eV:Int)+(1:Int)=y5/\[t]=[t]/\(0:Nat)=(0:Nat)/\l=l/\True))/\
(y3=false->(0:Int)=w4 t.2 l/\True)):=by kernel_rfl
theorem aa1 {m:List (ck×Bool)} {l:Int} {k:Nat} (hk:k<2) (h0:Ar m l k) (h:pJ m (l,(k:Int)+1)=true):((k:Int)+1)=w4 m l:=by
 unfold w4
 rcases(by omega:k=0\/k=1) with rfl|rfl
 ·have h:pJ m (l,1)=true:=h
  rw[h]
  rfl
 ·have h:pJ m (l,2)=true:=h
  have h1:pJ m (l,1)=false:=h0 1 (by omega) (by omega)
  rw[h,h1]
  rfl
theorem VQ {m:List (ck×Bool)} {l:Int} (h0:Ar m l 2):0=w4 m l:=by
 unfold w4
 have h1:pJ m (l,1)=false:=h0 1 (by omega) (by omega)
 have h2:pJ m (l,2)=false:=h0 2 (by omega) (by omega)
 rw[h1,h2]
 rfl
theorem b95 (t:eJ) (l:Int):ah (aj aA []) Tryz.f95 VT (a95 (t,l,())) (t,l,()):=by
 rw[v95]
 simp only[true_and,and_true,eq_self]
 refine⟨⟨0,⟨by omega,fun j h1 h2=>by omega⟩,by omega⟩,fun k=>U.mk fun y3 e3=>U.mk fun y4 e4=>U.mk fun y5 e5=> ?_⟩
 rintro⟨h1,h2⟩
 have e4:y4=pJ t.2 (l,(k:Int)+1):=e4
 refine⟨fun h=>⟨fun hy=> ?_,fun hy=> ?_⟩,fun h=> ?_⟩
 ·rw[h] at e3
  have:=of_decide_eq_true e3.symm
  exact aa1 (by omega) h2 (by rw[<-e4];exact hy)
 ·rw[h] at e3
  have:=of_decide_eq_true e3.symm
  refine⟨aY (by omega) (by omega),k+1,⟨by omega,fun j h3 h4=> ?_⟩,by omega,by omega⟩
  by_cases hj:j=k+1
  ·subst hj
   rw[<-hy,e4]
   congr 2
  ·exact h2 j h3 (by omega)
 ·rw[h] at e3
  have:=of_decide_eq_false e3.symm
  have:k=2:=by omega
  subst this
  exact VQ h2
theorem aho:aN Tryz.prog 95 VT:=
 aN.b3 (l:=[]) (A:=a95) aJ trivial Tryz.func95 (by kernel_rfl) (by kernel_rfl) fun x hw hp=>b95 x.1 x.2.1
theorem v198 (t:Option (bk)×List ((Int×Int)×Bool)) (l:Int) (o:List Bool) (b:av) (h:Int):ah (aj aA [(199,NR),(52,I6),(29,JT)]) Tryz.f198 Lo (a198 (t,l,o,b,h,())) (t,l,o,b,h,())=(
U (bI t.1).1.1.length fun(y5:Nat)=>
U (Dn (bI t.1) l o b h) fun(y6:Bool)=>
iS t.1/\
(∃(lf:Nat),
(lf<=y5/\eb (FG (bI t.1) l o b h) lf)/\
(↑lf:Int)=(0:Int)/\
[t]=[t]/\(0:Nat)=(0:Nat)/\l=l/\o=o/\[b]=[b]/\(0:Nat)=(0:Nat)/\h=h/\(↑(bI t.1).1.1.length:Int)=(↑(bI t.1).1.1.length:Int)/\True)/\
∀(s7:Nat),
U (decide ((↑s7:Int)<(↑(bI t.1).1.1.length:Int))) fun(y8:Bool)=>
U ((ic (bI t.1) (↑s7:Int)).1==l) fun(y9:Bool)=>
U (decide ((↑s7:Int)<(↑o.length:Int))) fun(bu:Bool)=>
U (bif bif bu then o.getD (↑s7:Int).toNat false else false then(↑s7:Int) !=h else false) fun(bH:Bool)=>
U (bif y9 then bif bH then true else decide (fT b (↑s7:Int)>=(0:Int)) else false) fun(aw:Bool)=>
s7<=y5/\eb (FG (bI t.1) l o b h) s7->
(y8=true->
iS t.1/\
(y9=true->bu=true->aL (↑s7:Int) o.length)/\
(y9=true->bH=false->o4 b (↑s7:Int))/\
(aw=true->false=y6/\True)/\
(aw=false->
bo IntKind.i64 ((↑s7:Int)+(1:Int))/\
∃(fR:Nat),
(fR<=y5/\eb (FG (bI t.1) l o b h) fR)/\
y5 - fR<y5 - s7/\
(↑fR:Int)=(↑s7:Int)+(1:Int)/\
[t]=[t]/\
(0:Nat)=(0:Nat)/\
l=l/\o=o/\[b]=[b]/\(0:Nat)=(0:Nat)/\h=h/\(↑(bI t.1).1.1.length:Int)=(↑(bI t.1).1.1.length:Int)/\True))/\
(y8=false->true=y6/\True)):=by kernel_rfl
theorem aj3 (t:eJ) (l:Int) (o:List Bool) (b:av) (h:Int) (hn:iS t.1) (hb:kp b) (hl:(bI t.1).1.1.length<=aM):ah (aj aA [(199,NR),(52,I6),(29,JT)]) Tryz.f198 Lo (a198 (t,l,o,b,h,())) (t,l,o,b,h,()):=by
 rw[v198]
 refine U.mk fun y5 e5=>U.mk fun y6 e6=> ?_
 simp only[true_and,and_true,eq_self]
 rw[<-e5]
 refine⟨hn,⟨0,⟨by omega,rfl⟩,by omega⟩,fun s=>U.mk fun y8 e8=>U.mk fun y9 e9=>U.mk fun bu dy=>U.mk fun bH eK=>U.mk fun aw dW=> ?_⟩
 rintro⟨h1,h2⟩
 have hq:y6= !cj (FG (bI t.1) l o b h) y5:=by rw[e6,e5];unfold Dn;rfl
 refine⟨fun hs=> ?_,fun hs=> ?_⟩
 ·have hs:=aZ e8 hs
  have X0:FG (bI t.1) l o b h s=aw:=by
   unfold FG vZ
   rw[dW,eK,dy,e9,decide_eq_true (by omega:(0:Int)<=(s:Int))]
   cases ((ic (bI t.1) (s:Int)).1==l)<;>cases decide ((s:Int)<(o.length:Int))<;>cases (o.getD (s:Int).toNat false)<;>cases hx:((s:Int)==h)<;>simp[hx,bne]
  refine⟨hn,fun _ lp=> ?_,fun _ _=>hb _,fun hy=> ?_,fun hy=>⟨dw hs (by rw[e5];exact hl),s+1,⟨by omega,j6 h2 (by rw[X0];exact hy)⟩,by omega,by omega⟩⟩
  ·rw[lp] at dy
   have:=of_decide_eq_true dy.symm
   exact⟨by omega,by omega⟩
  ·rw[hq,nR hs (by rw[X0];exact hy)]
   rfl
 ·have hs:=bt e8 hs
  have:s=y5:=by omega
  subst this
  rw[hq,h2]
  rfl
theorem aaa {o:Option bk} (h:(Ty.ptr jx).wf o):(bI o).1.1.length<=aM:=by
 cases o with
 |none=>exact Nat.zero_le _
 |some n=>
  have:=h n rfl
  exact this.1.1.1
theorem acU:aN Tryz.prog 198 Lo:=
 aN.b3 (l:=[(199,NR),(52,I6),(29,JT)]) (A:=a198) aJ ⟨Z5,W2,abt,trivial⟩ Tryz.func198 (by kernel_rfl) (by kernel_rfl) fun x hw hp=>aj3 x.1 x.2.1 x.2.2.1 x.2.2.2.1 x.2.2.2.2.1 hp.1 hp.2 (aaa hw.1.1)
theorem FY {o:Option bk} (h:gS o) (r:af):(dM (bI o) r).length<=10:=by
 obtain⟨n,rfl,hl⟩:=h
 show(dM n r).length<=10
 unfold dM
 rw[(Hf _).length_eq]
 exact Bu (Ai hl r _)
theorem ag1 (t:Option (bk)×List ((Int×Int)×Bool)) (r:af) (o:List Bool) (b:av):ah (aj aA [(124,Cg),(197,NS),(95,VT),(198,Lo)]) Tryz.f123 DI (Zk (t,r,o,b,())) (t,r,o,b,())=(
U (dM (bI t.1) r).length fun(y4:Nat)=>
U (DP (bI t.1) r.1) fun(y5:Int)=>
U (lL (bI t.1).1 r.1) fun(y6:ak×Bool)=>
U (dM (bI t.1) r).length fun(y7:Nat)=>
iS t.1/\
(gS t.1/\r.2.2.2.1.length<=(1000:Nat))/\
(∃(mQ:Nat),
(mQ<=y4/\(List.take mQ (dM (bI t.1) r)).any (sB t o b y5)=false)/\
(↑mQ:Int)=(0:Int)/\
(y5=bif y6.2 then y6.1.1 else(-1:Int))/\
[t]=[t]/\(0:Nat)=(0:Nat)/\o=o/\[b]=[b]/\(0:Nat)=(0:Nat)/\dM (bI t.1) r=dM (bI t.1) r/\(↑y7:Int)=(↑y7:Int)/\True)/\
∀(s8:Nat),
U (decide ((↑s8:Int)<(↑y7:Int))) fun(y9:Bool)=>
U ((dM (bI t.1) r).getD (↑s8:Int).toNat ((0:Int),(0:Int))) fun(bu:Int×Int)=>
U (bif w4 t.2 bu.1 !=(0:Int) then w4 t.2 bu.1 !=bu.2 else false) fun(bH:Bool)=>
U (bif bH then !Dn (bI t.1) bu.1 o b y5 else false) fun(aw:Bool)=>
s8<=y4/\(List.take s8 (dM (bI t.1) r)).any (sB t o b y5)=false->
(y9=true->
aL (↑s8:Int) y7/\
True/\
(bH=true->iS t.1/\kp b)/\
(aw=true->(8:Int)=mv t r o b/\True)/\
(aw=false->
bo IntKind.i64 ((↑s8:Int)+(1:Int))/\
∃(fR:Nat),
(fR<=y4/\(List.take fR (dM (bI t.1) r)).any (sB t o b y5)=false)/\
y4 - fR<y4 - s8/\
(↑fR:Int)=(↑s8:Int)+(1:Int)/\
y5=y5/\
[t]=[t]/\
(0:Nat)=(0:Nat)/\
o=o/\[b]=[b]/\(0:Nat)=(0:Nat)/\dM (bI t.1) r=dM (bI t.1) r/\(↑y7:Int)=(↑y7:Int)/\True))/\
(y9=false->(0:Int)=mv t r o b/\True)):=by kernel_rfl
theorem akr (t:eJ) (r:af) (o:List Bool) (b:av) (hn:gS t.1) (hr:r.2.2.2.1.length<=1000) (hb:kp b):ah (aj aA [(124,Cg),(197,NS),(95,VT),(198,Lo)]) Tryz.f123 DI (Zk (t,r,o,b,())) (t,r,o,b,()):=by
 rw[ag1]
 refine U.mk fun y4 e4=>U.mk fun y5 e5=>U.mk fun y6 e6=>U.mk fun y7 e7=> ?_
 have ht:iS t.1:=by obtain⟨n,h,_⟩:=hn;exact⟨n,h⟩
 have hl:=FY hn r
 have e7:y7=y4:=by rw[e4];exact e7
 subst e7
 have hF:mv t r o b=bif(dM (bI t.1) r).any (sB t o b y5) then 8 else 0:=by rw[e5];unfold mv;rfl
 simp only[true_and,and_true,eq_self]
 refine⟨ht,⟨hn,hr⟩,⟨0,⟨by omega,by simp⟩,by omega,by rw[e5,e6];rfl⟩,fun s=>U.mk fun y9 e9=>U.mk fun bu dy=>U.mk fun bH eK=>U.mk fun aw dW=> ?_⟩
 rintro⟨h1,h2⟩
 refine⟨fun hs=> ?_,fun hs=> ?_⟩
 ·have hs:=aZ e9 hs
  rw[Int.toNat_natCast] at dy
  have dy:bu=(dM (bI t.1) r).getD s zT:=dy
  have jD:sB t o b y5 ((dM (bI t.1) r).getD s zT)=aw:=by
   rw[<-dy,dW,eK]
   unfold sB
   cases hx:(w4 t.2 bu.1==0)<;>cases hz:(w4 t.2 bu.1==bu.2)<;>simp[hx,hz,bne]
  refine⟨⟨by omega,by omega⟩,fun _=>⟨ht,hb⟩,fun hy=> ?_,fun hy=>⟨aY (by omega) (by omega),s+1,⟨by omega,?_⟩,by omega,by omega⟩⟩
  ·rw[hF,nZ (s:=s) zT (by omega) (by rw[jD];exact hy)]
   rfl
  ·exact any_succ zT (by omega) h2 (by rw[jD];exact hy)
 ·have hs:=bt e9 hs
  rw[hF,lU (s:=s) (by omega) h2]
  rfl
theorem Xg:aN Tryz.prog 123 DI:=
 aN.b3 (l:=[(124,Cg),(197,NS),(95,VT),(198,Lo)]) (A:=Zk) aJ ⟨Tg,Z6,aho,acU,trivial⟩ Tryz.func123 (by kernel_rfl) (by kernel_rfl) fun x hw hp=>akr x.1 x.2.1 x.2.2.1 x.2.2.2.1 hp.1.1 hp.1.2 hp.2
theorem Vt (n:bk) (e i:Int):0<=uZ n e i/\uZ n e i<=2:=by
 unfold uZ
 cases (!(aW I n.2.2.2.2 e).isSome||(decide (i<0)||decide (i>1))) with
 |true=>exact⟨Int.le_refl 0,by show(0:Int)<=2;decide⟩
 |false=>
  cases ((aW I n.2.2.2.2 e).getD 0==i) with
  |true=>exact⟨by decide,by decide⟩
  |false=>exact⟨by decide,by decide⟩
theorem yI (n:bk) (r:af):∀(k:Nat),∀t∈fD n r k,0<=t.2/\t.2<=2
 |0,t,h=>absurd h List.not_mem_nil
 |k+1,t,h=>by
  have h:t∈rE n (fD n r k) (r.2.2.2.1.getD k iC):=h
  unfold rE at h
  cases hc:(decide ((ic n (r.2.2.2.1.getD k iC).1).1<0)||(fD n r k).any (fun t=>t.1==(ic n (r.2.2.2.1.getD k iC).1).1)) with
  |true=>rw[hc] at h;exact yI n r k t h
  |false=>
   rw[hc] at h
   rcases List.mem_append.1 h with h|h
   ·exact yI n r k t h
   ·rw[List.mem_singleton.1 h]
    exact Vt n _ _
theorem v70 (t:Option (bk)×List ((Int×Int)×Bool)) (r:af) (o:List Bool) (b:av):bS (aj aA [(123,DI),(124,Cg)]) Tryz.f70 VY (a70 (t,r,o,b,())) (t,r,o,b,())=(
U (mv t r o b !=(0:Int)) fun(y4:Bool)=>
U (bif mv t r o b==(0:Int) then Dl t r else t.2) fun(y5:List (ck×Bool))=>
U (dM (bI t.1) r).length fun(y6:Nat)=>
U (dM (bI t.1) r).length fun(y7:Nat)=>
((gS t.1/\r.2.2.2.1.length<=(1000:Nat))/\kp b)/\
(y4=true->
mv t r o b=mv t r o b/\
t.1=t.1/\
t.2.Perm y5/\
b.1=b.1/\b.2.1.Perm b.2.1/\b.2.2.1.Perm b.2.2.1/\b.2.2.2.1.Perm b.2.2.2.1/\b.2.2.2.2.Perm b.2.2.2.2/\True)/\
(y4=false->
(gS t.1/\r.2.2.2.1.length<=(1000:Nat))/\
(∃(mQ:Nat),
mQ<=y6/\
(↑mQ:Int)=(0:Int)/\
dM (bI t.1) r=dM (bI t.1) r/\
(↑y7:Int)=(↑y7:Int)/\
tH t.2 (dM (bI t.1) r) mQ=t.2/\
t.1=t.1/\
b.1=b.1/\b.2.1=b.2.1/\b.2.2.1=b.2.2.1/\b.2.2.2.1=b.2.2.2.1/\b.2.2.2.2=b.2.2.2.2/\True)/\
∀(s8:Nat),
U (decide ((↑s8:Int)<(↑y7:Int))) fun(y9:Bool)=>
U ((dM (bI t.1) r).getD (↑s8:Int).toNat ((0:Int),(0:Int))) fun(bu:Int×Int)=>
U (tH t.2 (dM (bI t.1) r) s8) fun(bH:List (ck×Bool))=>
s8<=y6->
(y9=true->
aL (↑s8:Int) y7/\
bo IntKind.i64 ((3:Int) - bu.2)/\
bo IntKind.i64 ((↑s8:Int)+(1:Int))/\
∃(nw:Nat),
nw<=y6/\
y6 - nw<y6 - s8/\
(↑nw:Int)=(↑s8:Int)+(1:Int)/\
dM (bI t.1) r=dM (bI t.1) r/\
(↑y7:Int)=(↑y7:Int)/\
tH t.2 (dM (bI t.1) r) nw=
df aO (iV aO bH (bu.1,(3:Int) - bu.2))
bu true/\
t.1=t.1/\
b.1=b.1/\
b.2.1=b.2.1/\b.2.2.1=b.2.2.1/\b.2.2.2.1=b.2.2.2.1/\b.2.2.2.2=b.2.2.2.2/\True)/\
(y9=false->
(0:Int)=mv t r o b/\
t.1=t.1/\
bH.Perm y5/\
b.1=b.1/\
b.2.1.Perm b.2.1/\b.2.2.1.Perm b.2.2.1/\b.2.2.2.1.Perm b.2.2.2.1/\b.2.2.2.2.Perm b.2.2.2.2/\True))):=by kernel_rfl
theorem b70 (t:eJ) (r:af) (o:List Bool) (b:av) (hn:gS t.1) (hr:r.2.2.2.1.length<=1000) (hb:kp b):bS (aj aA [(123,DI),(124,Cg)]) Tryz.f70 VY (a70 (t,r,o,b,())) (t,r,o,b,()):=by
 rw[v70]
 have hl:=FY hn r
 simp only[true_and,and_true,eq_self,List.Perm.refl]
 refine U.mk fun y4 e4=>U.mk fun y5 e5=>U.mk fun y6 e6=>U.mk fun y7 e7=> ?_
 have e7:y7=y6:=by rw[e6];exact e7
 subst e7
 refine⟨⟨⟨hn,hr⟩,hb⟩,fun h=> ?_,fun h=>⟨⟨hn,hr⟩,⟨0,by omega,by omega,rfl⟩,fun s=>U.mk fun y9 e9=>U.mk fun bu dy=>U.mk fun bH eK=>fun hs=>⟨fun h9=> ?_,fun h9=> ?_⟩⟩⟩
 ·rw[h] at e4
  have:(mv t r o b==0)=false:=by
   cases hx:(mv t r o b==0) with
   |false=>rfl
   |true=>rw[iy,hx] at e4;cases e4
  rw[e5,this]
  exact .refl _
 ·have nI:=aZ e9 h9
  rw[Int.toNat_natCast] at dy
  have dy:bu=(dM (bI t.1) r).getD s zT:=dy
  have hm:bu∈dM (bI t.1) r:=by rw[dy];exact fJ zT (by omega)
  have hd:0<=bu.2/\bu.2<=2:=by
   unfold dM at hm
   exact yI _ r _ _ ((Hf _).mem_iff.1 hm)
  refine⟨⟨by omega,by omega⟩,aY (by omega) (by omega),aY (by omega) (by omega),s+1,by omega,by omega,by omega,?_⟩
  rw[eK,dy]
  rfl
 ·have nI:=bt e9 h9
  have hm:mv t r o b=0:=by
   rw[h,iy] at e4
   cases hx:(mv t r o b==0) with
   |false=>rw[hx] at e4;cases e4
   |true=>exact eq_of_beq hx
  refine⟨hm.symm,?_⟩
  have:s=(dM (bI t.1) r).length:=by omega
  subst this
  rw[eK,e5,hm]
  unfold Dl
  exact .refl _
theorem aht:fq Tryz.prog 70 VY:=
 fq.b3 (l:=[(123,DI),(124,Cg)]) (A:=a70) aJ ⟨Xg,Tg,trivial⟩ Tryz.func70 (by kernel_rfl) (by kernel_rfl) fun x hw hp=>b70 x.1 x.2.1 x.2.2.1 x.2.2.2.1 hp.1.1 hp.1.2 hp.2
def mV (p:ab) (y:ak):Prop:=∃x,(bx p x).2=true/\y=(bx p x).1
structure Kept (p:ab) (Q:au->Prop):Prop where
 qJ:∀s,Q s->s.1=p
 bare:∀s,Q s->Q (uA s)
 nu:∀s (y:ak),Q s->mV p y->kI (iZ s) y.1=false->bN (cP s) y.1=false->(cP s).length<12->Q (Mr s (cP s++[y.1]))
 hold:∀s z,Q s->Q (BC s z)
 met:∀s m,Q s->Q (eR s m)
 guard:∀s (y:ak),Q s->mV p y->kI (iZ s) y.1=false->aK p y.1=2->(y.2==0)=false->bq (aS s) (y.1,y.2)=false->bq (aS s) (y.1,3 - y.2)=false->
  Q (An s (aS s++[(y.1,3 - y.2)]))
theorem G1 {p:ab} {Q:au->Prop} (k:Kept p Q) {s:au} (h:Q s) {y:ak} (hy:mV p y) (ho:kI (iZ s) y.1=false):Q (bK s y.1).2:=by
 unfold bK
 cases hm:bN (cP s) y.1 with
 |true=>exact h
 |false=>
  cases hl:decide (12<=(cP s).length) with
  |true=>exact k.bare _ h
  |false=>exact k.nu _ _ h hy ho hm (by have:=of_decide_eq_false hl;omega)
theorem zd {p:ab} {Q:au->Prop} (k:Kept p Q) {rec:ak->au->au} (ph:∀y s,mV p y->Q s->Q (rec y s)) (e stop:Int) {s:au} (h:Q s):Q (pB rec e stop s):=by
 unfold pB
 have hp:=k.qJ s h
 cases hn:(bx s.1 (e,stop)).2 with
 |true=>exact ph _ _ ⟨(e,stop),by rw[<-hp];exact hn,by rw[hp]⟩ h
 |false=>exact h
theorem My {p:ab} {Q:au->Prop} (k:Kept p Q) {rec:ak->au->au} (ph:∀y s,mV p y->Q s->Q (rec y s)) {y:ak} {s:au} (h:Q s) (hy:mV p y)
  (ho:kI (iZ s) y.1=false) (hk:aK p y.1=2):Q (jn rec y s):=by
 have hz:=G1 k h hy ho
 unfold jn
 cases h0:y.2==0 with
 |true=>
  cases (bK s y.1).1 with
  |true=>exact zd k ph _ _ (zd k ph _ _ hz)
  |false=>exact hz
 |false=>
  cases h1: !bq (cX s) (y.1,y.2)&& !bq (aS s) (y.1,y.2) with
  |true=>
   cases h2:bq (aS s) (y.1,3 - y.2) with
   |true=>exact h
   |false=>
    rw[Bool.and_eq_true] at h1
    exact k.guard s y h hy ho hk h0 (by simpa using h1.2) h2
  |false=>
   cases (bK s y.1).1 with
   |true=>exact zd k ph _ _ hz
   |false=>exact hz
theorem UX {p:ab} {Q:au->Prop} (k:Kept p Q) {rec:ak->au->au} (ph:∀y s,mV p y->Q s->Q (rec y s)) {y:ak} {s:au} (h:Q s) (hy:mV p y)
  (ho:kI (iZ s) y.1=false):Q (vp rec y s):=by
 have hz:=G1 k h hy ho
 have hp:=k.qJ s h
 unfold vp
 cases decide (0<=cc s.1 y)&& !s.1.2.2.2.2.2.2.2.2 with
 |true=>
  cases bN (cH s) (cc s.1 y) with
  |true=>exact h
  |false=>exact k.hold _ _ h
 |false=>
  cases aK s.1 y.1==4 with
  |true=>exact k.bare _ h
  |false=>
   cases hk:aK s.1 y.1==2 with
   |true=>exact My k ph h hy ho (by rw[<-hp];exact eq_of_beq hk)
   |false=>
    cases (bK s y.1).1 with
    |true=>exact zd k ph _ _ hz
    |false=>exact hz
theorem IU {p:ab} {Q:au->Prop} (k:Kept p Q):∀(n:Nat) (y:ak) (s:au),mV p y->Q s->Q (dP n y s)
 |0,_,_,_,h=>h
 |n+1,y,s,hy,h=>by
  show Q (sT (dP n) y s)
  unfold sT
  cases hb:kI (iZ s) y.1||fV (ct s) y with
  |true=>exact h
  |false=>
   rw[Bool.or_eq_false_iff] at hb
   refine UX k (IU k n) (k.met _ _ h) hy ?_
   unfold iZ at hb ⊢
   exact hb.1
theorem qo {p:ab} {Q:au->Prop} (k:Kept p Q) {r:af} (h0:Q (s0 p r)):∀n,Q (bF p r n)
 |0=>h0
 |n+1=>zd k (IU k 161) _ _ (qo k h0 n)
def still (p:ab) (r:af) (s:au):Prop:=s.1=p/\s.2.1=r.1/\s.2.2.1=r.2.1/\s.2.2.2.1=r.2.2.1/\eP s=r.2.2.2.1/\cX s=r.2.2.2.2.1
theorem Oq (p:ab) (r:af):Kept p (still p r) where
 qJ s h:=h.1
 bare s h:=h
 nu s y h _ _ _ _:=h
 hold s z h:=h
 met s m h:=h
 guard s y h _ _ _ _ _ _:=h
theorem tA (p:ab) (r:af):(dV p r).1=r.1/\(dV p r).2.1=r.2.1/\(dV p r).2.2.1=r.2.2.1/\(dV p r).2.2.2.1=r.2.2.2.1/\(dV p r).2.2.2.2.1=r.2.2.2.2.1:=by
 have:=qo (Oq p r) (r:=r) ⟨rfl,rfl,rfl,rfl,rfl,rfl⟩ (bE p r).length
 obtain⟨h1,h2,h3,h4,h5,h6⟩:=this
 unfold dV iZ
 exact⟨h2,h3,h4,h5,h6⟩
structure pN (p:ab):Prop where
 ajn:oQ p=true
 check:bX p=0
 short:cY p
 made:Yv p=some (nf p)
 len:(bz p).1.length<=64
 rz:∀r∈(bz p).1,∃q∈(cZ p).1,r=dV p q
theorem wH {p:ab} (h:(bz p).2=true):pN p:=by
 have hf:oQ p=true:=by
  unfold bz at h
  cases hf:oQ p with
  |true=>rfl
  |false=>rw[hf] at h;cases h
 obtain⟨_,hc,hl⟩:=P0 hf
 have hR:(bz p).1=(cK p).1.2/\(cK p).2=0:=by
  unfold bz at h ⊢
  rw[hf] at h ⊢
  exact⟨rfl,eq_of_beq h⟩
 have ha:(cZ p).2=0:=by
  have hb:=hR.2
  unfold cK at hb
  rw[hc] at hb
  cases ha:((cZ p).2==0) with
  |true=>exact eq_of_beq ha
  |false=>
   rw[ha] at hb
   have hb:(cZ p).2=0:=hb
   rw[hb] at ha
   cases ha
 have hB:(bz p).1=(cZ p).1.map (dV p):=by
  rw[hR.1]
  unfold cK
  rw[hc,ha]
  rfl
 refine⟨hf,hc,hl,?_,?_,fun r hr=> ?_⟩
 ·unfold Yv
  rw[hf]
  rfl
 ·rw[hB,List.length_map]
  exact DT p
 ·rw[hB] at hr
  obtain⟨q,hq,e⟩:=List.mem_map.1 hr
  exact⟨q,hq,e.symm⟩
theorem Kh {p:ab} (h:pN p) {r:af} (hr:r∈(bz p).1):r.2.2.2.1.length<=13/\r.2.2.2.2.1.length<=1000:=by
 obtain⟨q,hq,rfl⟩:=h.rz r hr
 obtain⟨_,h2,h3⟩:=GX (gw h.check).2.2.1 q hq
 have hs:=tA p q
 rw[hs.2.2.2.1,hs.2.2.2.2]
 exact⟨h2,by omega⟩
def MY (ts:List Ty):bg where
 args:=ts
 out:= .data [.bool]
 pre _:=True
 fn _:=(true,())
def vg {α:Type} (q:α->Bool) (xs:List α) (slot:Nat) (keep cv:List Nat):LA where
 σ:=Nat
 ok:=fun k=>k<=xs.length/\(xs.take k).any q=false
 mu:=fun k=>xs.length - k
 sl:=fun k=>[(slot,.one (.aG I (k:Int)))]
 bl:=fun _=>[]
 keep:=keep
 cv:=cv
def tb (x y:ba):Bool:=x.1==y.1&& !(x.2==y.2)
def ko (r:af):Prop:=r.2.2.2.1.length<=1000/\r.2.2.2.2.1.length<=1000/\r.2.2.2.2.2.1.length<=1000
@[irreducible] def aR (r:af):List ba:=r.2.2.2.2.1++r.2.2.2.2.2.1
theorem VM (p:ab) (x:ak):x∈bW p↔∃j∈p.2.1,x=j.1\/x=j.2:=by
 unfold bW
 rw[List.mem_flatMap]
 constructor
 ·rintro⟨j,hj,hx⟩
  exact⟨j,hj,by simpa using hx⟩
 ·rintro⟨j,hj,hx⟩
  exact⟨j,hj,by simpa using hx⟩
def HD (s:cu):ak:=(s.1,s.2.2)
def aao (s:cu):ak:=(s.1,s.2.1)
def gh (l:List cu) (t:Nat):cu:=l.getD t iC
def chained (p:ab) (l:List cu):Prop:=∀t,t+1<l.length->bx p (HD (gh l t))=(aao (gh l (t+1)),true)
def MB (p:ab) (s:cu):Prop:=aK p s.1=4\/∃w∈bG p s.1 s.2.1,w.1=s.2.2
def aac (p:ab) (l:List cu) (n:ba):Prop:=(∃s∈l,s.1=n.1)/\(n.2=1\/n.2=2)
structure Wo (p:ab) (q:af):Prop where
 chain:chained p q.2.2.2.1
 nodup:(q.2.2.2.1.map Prod.fst).Nodup
 pass:∀s∈q.2.2.2.1,MB p s
 Kt:∀n∈q.2.2.2.2.1,aac p q.2.2.2.1 n
 once:(q.2.2.2.2.1.map Prod.fst).Nodup
theorem yN {l:List cu} {s:cu} {t:Nat} (h:t<l.length):gh (l++[s]) t=gh l t:=by
 unfold gh
 rw[List.getD_eq_getElem?_getD,List.getElem?_append_left h,<-List.getD_eq_getElem?_getD]
theorem Fk (l:List cu) (s:cu):gh (l++[s]) l.length=s:=by
 unfold gh
 rw[List.getD_eq_getElem?_getD,List.getElem?_append_right (Nat.le_refl _)]
 simp
structure ZD (p:ab) (q:af) (x:ak) (met:List Int):Prop where
 run:Wo p q
 last:q.2.2.2.1.length≠0->bx p (HD (gh q.2.2.2.1 (q.2.2.2.1.length - 1)))=(x,true)
 met:∀s∈q.2.2.2.1,s.1∈met
theorem yG (r:af) (s:cu) (pos stop to:Int):(eO r s pos stop to).2.2.2.2.1=r.2.2.2.2.1++(bif pos==0 then[] else[(s.1,pos)]):=by unfold eO;rfl
theorem Ao {p:ab} {q:af} {x:ak} {met:List Int} (g:ZD p q x met) (hx:x.1∉met) {o pos:Int} (stop to:Int) (hp:MB p (x.1,x.2,o)) (vG:pos=0\/pos=1\/pos=2):Wo p (eO q (x.1,x.2,o) pos stop to):=by
 have qn:∀s∈q.2.2.2.1,s.1≠x.1:=fun s hs e=>hx (by rw[<-e];exact g.met s hs)
 constructor
 ·rw[jR]
  intro t ht
  rw[List.length_append] at ht
  have ht:t+1<q.2.2.2.1.length+1:=ht
  by_cases h:t+1<q.2.2.2.1.length
  ·rw[yN h,yN (by omega)]
   exact g.run.chain t h
  ·have e:t+1=q.2.2.2.1.length:=by omega
   rw[e,Fk,yN (by omega)]
   have:=g.last (by omega)
   rw[show q.2.2.2.1.length - 1=t by omega] at this
   exact this
 ·rw[jR,List.map_append,List.nodup_append]
  refine⟨g.run.nodup,by simp,fun a ha b hb e=> ?_⟩
  obtain⟨s,hs,rfl⟩:=List.mem_map.1 ha
  have hb:b=x.1:=by simpa using hb
  exact qn s hs (e.trans hb)
 ·rw[jR]
  intro s hs
  rcases List.mem_append.1 hs with hs|hs
  ·exact g.run.pass s hs
  ·rw[List.mem_singleton.1 hs];exact hp
 ·rw[jR,yG]
  intro n hn
  rcases List.mem_append.1 hn with hn|hn
  ·obtain⟨⟨s,hs,e⟩,h2⟩:=g.run.Kt n hn
   exact⟨⟨s,List.mem_append_left _ hs,e⟩,h2⟩
  ·cases h0:(pos==0) with
   |true=>rw[h0] at hn;exact absurd hn List.not_mem_nil
   |false=>
    rw[h0] at hn
    have hn:n=(x.1,pos):=List.mem_singleton.1 hn
    rw[hn]
    refine⟨⟨(x.1,x.2,o),List.mem_append_right _ (List.mem_singleton.2 rfl),rfl⟩,?_⟩
    rcases vG with h|h|h
    ·rw[h] at h0;cases h0
    ·exact .inl h
    ·exact .inr h
 ·rw[yG,List.map_append,List.nodup_append]
  refine⟨g.run.once,?_,fun a ha b hb e=> ?_⟩
  ·cases (pos==0) with
   |true=>exact List.nodup_nil
   |false=>show([x.1]:List Int).Nodup;simp
  ·obtain⟨n,hn,rfl⟩:=List.mem_map.1 ha
   obtain⟨⟨s,hs,e1⟩,_⟩:=g.run.Kt n hn
   cases h0:(pos==0) with
   |true=>rw[h0] at hb;exact absurd hb List.not_mem_nil
   |false=>
    rw[h0] at hb
    have hb:b=x.1:=by
     have hb:b∈[x.1]:=hb
     exact List.mem_singleton.1 hb
    exact qn s hs (by rw[e1,e,hb])
theorem US {p:ab} {e i:Int} {w:Int×Int} (hw:w∈bG p e i):w.2=0\/w.2=1\/w.2=2:=by
 have hh:dC p (e,i)=true:=by
  cases hh:dC p (e,i) with
  |true=>rfl
  |false=>unfold bG at hw;rw[hh] at hw;cases hw
 unfold bG at hw
 rw[hh] at hw
 have hw:w∈(bif aK p e==1 then[(1 - i,0)] else bif aK p e==3 then[(tD i,0)] else bif aK p e==2 then(bif i==0 then[(1,1),(2,2)] else[(0,i)]) else[]):=hw
 cases h1:aK p e==1 with
 |true=>rw[h1] at hw;rw[List.mem_singleton.1 hw];exact .inl rfl
 |false=>
  rw[h1] at hw
  have hw:w∈(bif aK p e==3 then[(tD i,0)] else bif aK p e==2 then(bif i==0 then[(1,1),(2,2)] else[(0,i)]) else[]):=hw
  cases h3:aK p e==3 with
  |true=>rw[h3] at hw;rw[List.mem_singleton.1 hw];exact .inl rfl
  |false=>
   rw[h3] at hw
   have hw:w∈(bif aK p e==2 then(bif i==0 then[(1,1),(2,2)] else[(0,i)]) else[]):=hw
   cases h2:aK p e==2 with
   |false=>rw[h2] at hw;exact absurd hw List.not_mem_nil
   |true=>
    rw[h2] at hw
    have hw:w∈(bif i==0 then[(1,1),(2,2)] else[(0,i)]):=hw
    cases h0:(i==0) with
    |true=>
     rw[h0] at hw
     have hw:w=(1,1)\/w=(2,2):=by simpa using hw
     rcases hw with rfl|rfl
     ·exact .inr (.inl rfl)
     ·exact .inr (.inr rfl)
    |false=>
     rw[h0] at hw
     have hw:w=(0,i):=List.mem_singleton.1 hw
     rw[hw]
     have hk:aK p e=2:=eq_of_beq h2
     unfold dC at hh
     have hh:(decide (0<=e)&&(decide (e<(p.1.length:Int))&&(decide (0<=i)&&decide (i<cQ (aK p e)))))=true:=hh
     rw[hk,show cQ 2=3 by unfold cQ;rfl] at hh
     simp only[Bool.and_eq_true,decide_eq_true_eq] at hh
     have:i≠0:=fun e=>by rw[e] at h0;cases h0
     show i=0\/i=1\/i=2
     omega
theorem Td {p:ab}:∀(n:Nat) (r:af) (x:ak) (met:List Int),ZD p r x met->∀q∈na p n r x met,Wo p q
 |0,_,_,_,_,q,hq=>absurd hq List.not_mem_nil
 |n+1,r,x,met,g,q,hq=>by
  have hq:q∈nG p (na p n) r x met:=hq
  unfold nG at hq
  cases h1:bN met x.1||decide (r.2.2.2.1.length=12) with
  |true=>rw[h1] at hq;cases hq
  |false=>
   rw[h1] at hq
   have hx:x.1∉met:=fun hx=>by
    have:=(Bool.or_eq_false_iff.1 h1).1
    unfold bN at this
    have:=List.any_eq_false.1 this _ hx
    simp at this
   cases h2:aK p x.1==4 with
   |true=>
    rw[h2] at hq
    have hq:q=eO r (x.1,x.2, -1) 0 2 (-1):=by simpa using hq
    rw[hq]
    exact Ao g hx 2 (-1) (.inl (eq_of_beq h2)) (.inl rfl)
   |false=>
    rw[h2] at hq
    have hq:q∈ji p (na p n) r x (met++[x.1]) (bG p x.1 x.2).length:=hq
    unfold ji at hq
    rw[List.take_length] at hq
    obtain⟨w,hw,hq⟩:=List.mem_flatMap.1 hq
    have hp:MB p (x.1,x.2,w.1):= .inr ⟨w,hw,rfl⟩
    have vG:=US hw
    unfold qM at hq
    cases h3:decide (0<=cc p (x.1,w.1)) with
    |true=>
     rw[h3] at hq
     have hq:q=eO r (x.1,x.2,w.1) w.2 1 (cc p (x.1,w.1)):=by simpa using hq
     rw[hq]
     exact Ao g hx _ _ hp vG
    |false=>
     rw[h3] at hq
     cases h4:(bx p (x.1,w.1)).2 with
     |false=>
      rw[h4] at hq
      have hq:q=eO r (x.1,x.2,w.1) w.2 3 (-1):=by simpa using hq
      rw[hq]
      exact Ao g hx _ _ hp vG
     |true=>
      rw[h4] at hq
      have hq:q∈na p n (eO r (x.1,x.2,w.1) w.2 0 (-1)) (bx p (x.1,w.1)).1 (met++[x.1]):=hq
      refine Td n _ _ _ ⟨Ao g hx _ _ hp vG,fun _=> ?_,fun s hs=> ?_⟩ q hq
      ·rw[jR,List.length_append]
       show bx p (HD (gh _ (r.2.2.2.1.length+1 - 1)))=_
       rw[Nat.add_sub_cancel,Fk,<-h4]
       rfl
      ·rw[jR] at hs
       rcases List.mem_append.1 hs with hs|hs
       ·exact List.mem_append_left _ (g.met s hs)
       ·rw[List.mem_singleton.1 hs]
        exact List.mem_append_right _ (List.mem_singleton.2 rfl)
theorem YZ {p:ab}:∀q∈(cZ p).1,Wo p q:=by
 intro q hq
 unfold cZ at hq
 cases h:cj (j7 p) p.2.2.1.length with
 |true=>rw[h] at hq;cases hq
 |false=>
  rw[h] at hq
  have hq:q∈fP p p.2.2.1.length:=hq
  unfold fP at hq
  obtain⟨s,_,hq⟩:=List.mem_flatMap.1 hq
  unfold py at hq
  cases h1:(lL p (s:Int)).2 with
  |false=>rw[h1] at hq;cases hq
  |true=>
   rw[h1] at hq
   cases h2:(bx p (lL p (s:Int)).1).2 with
   |false=>rw[h2] at hq;cases hq
   |true=>
    rw[h2] at hq
    have h0:Wo p (wI (s:Int)):=⟨fun t ht=>absurd ht (by show ¬t+1<0;omega),List.nodup_nil,fun s hs=>absurd hs List.not_mem_nil,fun n hn=>absurd hn List.not_mem_nil,List.nodup_nil⟩
    exact Td 13 _ _ _ ⟨h0,fun h=>absurd rfl h,fun s hs=>absurd hs List.not_mem_nil⟩ q hq
theorem Kg {p:ab} (h:pN p) {r:af} (hr:r∈(bz p).1):Wo p r:=by
 obtain⟨q,hq,rfl⟩:=h.rz r hr
 have hs:=tA p q
 have:=YZ q hq
 constructor
 ·rw[hs.2.2.2.1];exact this.chain
 ·rw[hs.2.2.2.1];exact this.nodup
 ·rw[hs.2.2.2.1];exact this.pass
 ·rw[hs.2.2.2.1,hs.2.2.2.2];exact this.Kt
 ·rw[hs.2.2.2.2];exact this.once
structure Row (p:ab) (C:Nat->ak) (m:Nat):Prop where
 alx:∀k,k<m->aK p (C k).1=1
 ends:∀k,k<m->(C k).2=0\/(C k).2=1
 next:∀k,k+1<m->bx p ((C k).1,1 - (C k).2)=(C (k+1),true)
 apart:∀j k,j<m->k<m->(C j).1=(C k).1->j=k
theorem OJ {p:ab} (h:pN p) {r:af} (hr:r∈(bz p).1):ko r:=by
 have hl:=Kh h hr
 obtain⟨q,hq,rfl⟩:=h.rz r hr
 obtain⟨h1,h2,h3⟩:=GX (gw h.check).2.2.1 q hq
 have hon:=(wZ (p:=p) (r:=q) ⟨h.check,⟨by omega,h1⟩,by omega⟩ (bE p q).length)
 have hi:=hon.1.1
 have hm:=pZ hi.nodup hi.sub
 have hg:=hi.guards
 have he:(bW (bF p q (bE p q).length).1).length<=160:=by
  rw[hon.2,mz]
  have:=(jL (gw h.check).1).2.2.2
  omega
 refine⟨by omega,hl.2,?_⟩
 have:(dV p q).2.2.2.2.2.1=aS (bF p q (bE p q).length):=by unfold dV iZ;rfl
 rw[this]
 omega
def xl (l:List Int) (j:Nat):List Int:=(l.set (j+1) (l.getD j 0)).set j (l.getD (j+1) 0)
def zr:Nat->List Int->List Int
 |0,l=>l
 |j+1,l=>bif decide (l.getD (j+1) 0<l.getD j 0) then zr j (xl l j) else l
def ob (l:List Int):Nat->List Int
 |0=>l
 |k+1=>zr k (ob l k)
def Ew (a b:Int):Bool:=decide (a<=b)
def c61:fG where
 args:=[.row 3 I]
 outs:=[]
 pre:=fun(x:List Int×Unit)=>x.1.length<=1000000
 fn:=fun _=>()
 fS:=fun(x:List Int×Unit)=>(ob x.1 x.1.length,x.2)
def TK:bg where
 args:=[.list eB]
 out:= .data [.list eB]
 pre:=fun(x:List ba×Unit)=>cR x.1
 fn:=fun(x:List ba×Unit)=>(x.1,())
def Cd:bg where
 args:=[.list eB]
 out:= .row 90 eB
 pre:=fun(x:List ba×Unit)=>cR x.1
 fn:=fun(x:List ba×Unit)=>(x.1,())
def TL:bg where
 args:=[.list I]
 out:= .data [.list I]
 pre:=fun(x:List Int×Unit)=>cR x.1
 fn:=fun(x:List Int×Unit)=>(x.1,())
def kg {α:Type} (m:List (Int×List α)) (o:Int):List α:=(aW I m o).getD []
structure gz (b:av):Prop where
 steps:∀x∈b.2.1,x.2.length<=1000
 nu:∀x∈b.2.2.1,x.2.length<=1000
 sV:∀x∈b.2.2.2.1,x.2.length<=1000
 guards:∀x∈b.2.2.2.2,x.2.length<=1000
 vz:b.2.1.length<=1000/\b.2.2.1.length<=1000/\b.2.2.2.1.length<=1000
def ET (b:av) (e:Int):Bool:=decide (0<=e)&&decide (e<b.1)
def K6:bg where
 args:=[.ref rk,I]
 out:= .data [.bool]
 pre:=fun(x:av×Int×Unit)=>True
 fn:=fun(x:av×Int×Unit)=>(ET x.1 x.2.1,())
@[irreducible] def iD (b:av) (o:Int):Bool:=decide (((kg b.2.1 o).length:Int)+((kg b.2.2.1 o).length:Int)+((kg b.2.2.2.2 o).length:Int)>0)
def Gw:bg where
 args:=[.ref rk,I]
 out:= .data [.bool]
 pre:=fun(x:av×Int×Unit)=>gz x.1
 fn:=fun(x:av×Int×Unit)=>(iD x.1 x.2.1,())
def qC (b:av) (r:af) (i:Nat):Bool:=ET b (gh r.2.2.2.1 i).1&& !cj (fun j=>(gh r.2.2.2.1 j).1==(gh r.2.2.2.1 i).1) i
def sA (b:av) (r:af) (e:Int):Bool:=ET b e&& !bN (cw r) e
def eX (r:af) (i:Nat):ba:=(aR r).getD i (0,0)
def l8 (b:av) (r:af) (i:Nat):Bool:=ET b (eX r i).1&&(((eX r i).2==1||(eX r i).2==2)&& !cj (fun j=>tb (eX r j) (eX r i)) i)
@[irreducible] def ot (b:av) (r:af):Bool:=
 !decide (r.2.2.2.1.length=0)&&(de (qC b r) r.2.2.2.1.length&&(r.2.2.2.2.2.2.1.all (sA b r)&&de (l8 b r) (r.2.2.2.2.1.length+r.2.2.2.2.2.1.length)))
def Lq:bg where
 args:=[.ref rk,eH]
 out:= .data [.bool]
 pre:=fun(x:av×af×Unit)=>ko x.2.1
 fn:=fun(x:av×af×Unit)=>(ot x.1 x.2.1,())
def ga (r:af) (k:Nat):List (Int×Bool):=(r.2.2.2.1.take k).map fun s=>(s.1,true)
def jr (r:af):Nat->List (Int×Int)
 |0=>[]
 |k+1=>df I (jr r k) (eX r k).1 (eX r k).2
def kf (r:af):Nat->Nat
 |0=>0
 |1=>r.2.2.2.2.1.length
 |_=>r.2.2.2.2.1.length+r.2.2.2.2.2.1.length
def uP (r:af):Nat->List ba
 |0=>r.2.2.2.2.1
 |_=>r.2.2.2.2.2.1
def a196 (x:av×af×Unit):eA:=bh [
 (5,fun _=>{
  σ:=Nat
  ok:=fun k=>k<=x.2.1.2.2.2.1.length/\de (qC x.1 x.2.1) k=true
  mu:=fun k=>x.2.1.2.2.2.1.length - k
  sl:=fun k=>[(25,.one (.aG I (k:Int)))]
  bl:=fun k=>[(21,.map false I .bool (ga x.2.1 k) none)]
  keep:=[0,3,5,23,24]
  cv:=[3]}),
 (12,fun _=>{
  σ:=Nat
  ok:=fun k=>k<=x.2.1.2.2.2.2.2.2.1.length/\(x.2.1.2.2.2.2.2.2.1.take k).all (sA x.1 x.2.1)=true
  mu:=fun k=>x.2.1.2.2.2.2.2.2.1.length - k
  sl:=fun k=>[(47,.one (.aG I (k:Int)))]
  bl:=fun k=>[]
  keep:=[0,3,5,45,46]
  cv:=[3,21]}),
 (19,fun _=>{
  σ:=Nat
  ok:=fun k=>k<=2/\de (l8 x.1 x.2.1) (kf x.2.1 k)=true
  mu:=fun k=>2 - k
  sl:=fun k=>[(68,.one (.aG I (k:Int)))]
  bl:=fun k=>[(61,.map false I I (jr x.2.1 (kf x.2.1 k)) none)]
  keep:=[0,10,66,67]
  cv:=[66]}),
 (22,fun S=>{
  σ:=Nat
  ok:=fun k=>k<=(uP x.2.1 (da S 68).toNat).length/\de (l8 x.1 x.2.1) (kf x.2.1 (da S 68).toNat+k)=true
  mu:=fun k=>(uP x.2.1 (da S 68).toNat).length - k
  sl:=fun k=>[(74,.one (.aG I (k:Int)))]
  bl:=fun k=>[(61,.map false I I (jr x.2.1 (kf x.2.1 (da S 68).toNat+k)) none)]
  keep:=[0,10,66,67,68,72,73]
  cv:=[66]})]
def eF (e:Int) (l:List (Int×List Int)):List Int:=(l.filter fun x=>bN x.2 e).map fun x=>x.1
@[irreducible] def lB (b:av) (e:Int):List Int:=ob (eF e b.2.2.1) (eF e b.2.2.1).length
def pd (b:av) (e:Int):Prop:=b.2.2.1.length<=1000
def c30:bg where
 args:=[.ref rk,I]
 out:= .data [.list I]
 pre:=fun(x:av×Int×Unit)=>pd x.1 x.2.1
 fn:=fun(x:av×Int×Unit)=>(lB x.1 x.2.1,())
def YN:bg where
 args:=[.ref rk,I]
 out:= .row 3 I
 pre:=fun(x:av×Int×Unit)=>pd x.1 x.2.1
 fn:=fun(x:av×Int×Unit)=>(lB x.1 x.2.1,())
def mJ {α:Type} (l:List α) (s:List α×List α):Prop:=l.Perm (s.2++s.1)
def a30 (x:av×Int×Unit):eA:=bh [(3,fun _=>{
 σ:=List (Int×List Int)×List (Int×List Int)
 ok:=fun s=>mJ x.1.2.2.1 s
 mu:=fun s=>s.1.length
 sl:=fun s=>[(12,.one (.ptr 12 0)),(5,.one (.row I 1000))]
 bl:=fun s=>[(12,.iter I (.list I) s.1 none),(1000,.row false 3 I (eF x.2.1 s.2))]
 keep:=[0,1]
 cv:=[]})] [20]
def lZ (b:av) (o:Int):List ba:=kg b.2.2.2.1 o++kg b.2.2.2.2 o
def mc (b:av) (o e:Int):Option ba:=(lZ b o).find? fun x=>x.1==e
def holds (b:av) (e:Int) (x:Int×List ba):Bool:=(mc b x.1 e).isSome
def gd (b:av) (e:Int) (l:List (Int×List ba)):Int:=match l.find? (holds b e) with
 |some x=>((mc b x.1 e).getD (0,0)).2
 |none=>0
@[irreducible] def lK (b:av) (e:Int):Int×Int:=(gd b e b.2.2.2.1,((b.2.2.2.1.filter (holds b e)).length:Int))
def pH (b:av) (e:Int):Prop:=∀x∈b.2.2.2.1,∀y∈b.2.2.2.1,∀u v,mc b x.1 e=some u->mc b y.1 e=some v->u.2=v.2
def NQ:bg where
 args:=[.ref rk,I]
 out:= .data [I,I]
 pre:=fun(x:av×Int×Unit)=>gz x.1/\pH x.1 x.2.1
 fn:=fun(x:av×Int×Unit)=>((lK x.1 x.2.1).1,(lK x.1 x.2.1).2,())
def YT (S:St) (n:Nat):List (Int×List ba):=
 match find S.bl n with
 |some (.iter (.int _) (.list (.pair (.int _) (.int _))) todo _)=>todo
 |_=>[]
def a33 (x:av×Int×Unit):eA:=bh [(3,fun _=>{
 σ:=List (Int×List ba)×List (Int×List ba)
 ok:=fun s=>mJ x.1.2.2.2.1 s
 mu:=fun s=>s.1.length
 sl:=fun s=>[(15,.one (.ptr 15 0)),(6,.one (.aG I (gd x.1 x.2.1 s.2))),(7,.one (.aG I ((s.2.filter (holds x.1 x.2.1)).length:Int)))]
 bl:=fun s=>[(15,.iter I (.list eB) s.1 none)]
 keep:=[0,1]
 cv:=[]}),
 (6,fun S=>{
 σ:=Nat
 ok:=fun k=>k<=(lZ x.1 (da S 8)).length/\((lZ x.1 (da S 8)).take k).any (fun n=>n.1==x.2.1)=false
 mu:=fun k=>(lZ x.1 (da S 8)).length - k
 sl:=fun k=>[(35,.one (.aG I (k:Int)))]
 bl:=fun k=>[(15,.iter I (.list eB) (YT S 15) none)]
 keep:=[0,1,6,7,8,15,33,34]
 cv:=[33]})]
def k8 (b:av) (s:cu):Bool:=decide (0<=fT b s.1)||decide (0<(lB b s.1).length)
def ln (b:av) (x:ba):Bool:= !((lK b x.1).1==0)&& !((lK b x.1).1==x.2)
@[irreducible] def jE (b:av) (o:Int) (r:af):Int:=
 bif decide (o<0)||(iD b o|| !ot b r) then 1 else bif r.2.2.2.1.any (k8 b) then 14 else bif r.2.2.2.2.2.2.1.any (fun e=>decide (0<=fT b e)) then 14 else
  bif(aR r).any (ln b) then 15 else 0
structure pV (b:av):Prop where
 small:gz b
 vz:kp b
 held:∀e,pH b e
 Sh:∀e,pd b e
def DJ:bg where
 args:=[.ref rk,I,eH]
 out:= .data [I]
 pre:=fun(x:av×Int×af×Unit)=>pV x.1/\ko x.2.2.1
 fn:=fun(x:av×Int×af×Unit)=>(jE x.1 x.2.1 x.2.2.1,())
def Zl (x:av×Int×af×Unit):eA:=bh [
 (4,fun _=>vg (k8 x.1) x.2.2.1.2.2.2.1 33 [0,5,31,32] [5]),
 (10,fun _=>vg (fun e=>decide (0<=fT x.1 e)) x.2.2.1.2.2.2.2.2.2.1 54 [0,5,52,53] [5]),
 (16,fun _=>{
  σ:=Nat
  ok:=fun k=>k<=2/\((aR x.2.2.1).take (kf x.2.2.1 k)).any (ln x.1)=false
  mu:=fun k=>2 - k
  sl:=fun k=>[(69,.one (.aG I (k:Int)))]
  bl:=fun k=>[]
  keep:=[0,67,68]
  cv:=[67]}),
 (19,fun S=>{
  σ:=Nat
  ok:=fun k=>k<=(uP x.2.2.1 (da S 69).toNat).length/\((aR x.2.2.1).take (kf x.2.2.1 (da S 69).toNat+k)).any (ln x.1)=false
  mu:=fun k=>(uP x.2.2.1 (da S 69).toNat).length - k
  sl:=fun k=>[(75,.one (.aG I (k:Int)))]
  bl:=fun k=>[]
  keep:=[0,67,68,69,73,74]
  cv:=[67]})]
def oR (r:af) (k:Nat):List Int:=(r.2.2.2.1.take k).map fun s=>s.1
def taken (b:av) (o:Int) (r:af):av:=(b.1,df I b.2.1 o (cw r),df I b.2.2.1 o r.2.2.2.2.2.2.1,df I b.2.2.2.1 o r.2.2.2.2.1,df I b.2.2.2.2 o r.2.2.2.2.2.1)
@[irreducible] def oq (b:av) (o:Int) (r:af):av:=bif jE b o r==0 then taken b o r else b
def VX:fG where
 args:=[Af,.aG I,.aG eH]
 outs:=[.aG I]
 pre:=fun(x:av×Int×af×Unit)=>(pV x.1/\ko x.2.2.1)/\cR x.2.2.1.2.2.2.2.2.2.1
 fn:=fun(x:av×Int×af×Unit)=>(jE x.1 x.2.1 x.2.2.1,())
 fS:=fun(x:av×Int×af×Unit)=>(oq x.1 x.2.1 x.2.2.1,x.2.1,x.2.2.1,())
def a71 (x:av×Int×af×Unit):eA:=bh [(6,fun _=>mS x.2.2.1.2.2.2.1.length 21 8 1000 3 I (oR x.2.2.1) [0,1,5,19,20] [5,1000000,1000001,1000002,1000003,1000004])]
theorem By (l:List Int) (j:Nat):(xl l j).length=l.length:=by unfold xl;simp
theorem KB:∀(j:Nat) (l:List Int),(zr j l).length=l.length
 |0,_=>rfl
 |j+1,l=>by
  unfold zr
  cases decide (l.getD (j+1) 0<l.getD j 0) with
  |true=>rw[cond_true,KB j,By]
  |false=>rw[cond_false]
theorem xq (l:List Int):∀(k:Nat),(ob l k).length=l.length
 |0=>rfl
 |k+1=>by show(zr k (ob l k)).length=_;rw[KB,xq l k]
theorem Fh:∀(j:Nat) (l:List Int),j+1<l.length->(xl l j).Perm l
 |_,[],h=>by simp at h
 |0,[x],h=>by simp at h
 |0,x::y::l,_=>by show(y::x::l).Perm _;exact .swap x y l
 |j+1,x::l,h=>by
  have:=Fh j l (by simp at h;omega)
  have e:xl (x::l) (j+1)=x::xl l j:=by unfold xl;simp
  rw[e]
  exact this.cons x
theorem H4:∀(j:Nat) (l:List Int),j<l.length->(zr j l).Perm l
 |0,l,_=> .refl l
 |j+1,l,h=>by
  unfold zr
  cases decide (l.getD (j+1) 0<l.getD j 0) with
  |true=>rw[cond_true];exact(H4 j _ (by rw[By];omega)).trans (Fh j l h)
  |false=>exact .refl l
theorem vo (l:List Int):∀(k:Nat),k<=l.length->(ob l k).Perm l
 |0,_=> .refl l
 |k+1,h=>(H4 k _ (by rw[xq];omega)).trans (vo l k (by omega))
theorem AL (l:List Int) (j:Nat) (h:j+1<l.length) (i:Nat):(xl l j).getD i 0=if i=j then l.getD (j+1) 0 else if i=j+1 then l.getD j 0 else l.getD i 0:=by
 unfold xl
 simp only[List.getD_eq_getElem?_getD,List.getElem?_set,List.length_set]
 by_cases h1:i=j
 ·subst h1
  simp[show i<l.length by omega]
 ·by_cases h2:i=j+1
  ·subst h2
   simp[h,h1]
  ·rw[if_neg (fun e=>h1 e.symm),if_neg (fun e=>h2 e.symm),if_neg h1,if_neg h2]
structure ZC (l:List Int) (j K:Nat):Prop where
 rest:∀a b,a<b->b<K->a≠j->b≠j->l.getD a 0<=l.getD b 0
 lt:∀b,j<b->b<K->l.getD j 0<l.getD b 0
theorem C9:∀(j K:Nat) (l:List Int),j<K->K<=l.length->ZC l j K->∀a b,a<b->b<K->(zr j l).getD a 0<=(zr j l).getD b 0
 |0,K,l,_,_,hi,a,b,zA,hb=>by
  show l.getD a 0<=l.getD b 0
  by_cases h:a=0
  ·subst h;exact Int.le_of_lt (hi.lt b (by omega) hb)
  ·exact hi.rest a b zA hb h (by omega)
 |j+1,K,l,hj,hK,hi,a,b,zA,hb=>by
  unfold zr
  cases h:decide (l.getD (j+1) 0<l.getD j 0) with
  |true=>
   have h:=of_decide_eq_true h
   rw[cond_true]
   refine C9 j K _ (by omega) (by rw[By];exact hK) ⟨fun a b zA hb h1 h2=> ?_,fun b h1 hb=> ?_⟩ a b zA hb
   ·rw[AL l j (by omega),AL l j (by omega),if_neg h1,if_neg h2]
    by_cases h3:a=j+1
    ·rw[if_pos h3,if_neg (by omega)]
     exact hi.rest j b (by omega) hb (by omega) (by omega)
    ·rw[if_neg h3]
     by_cases h4:b=j+1
     ·rw[if_pos h4]
      exact hi.rest a j (by omega) (by omega) h3 (by omega)
     ·rw[if_neg h4]
      exact hi.rest a b zA hb h3 h4
   ·rw[AL l j (by omega),AL l j (by omega),if_pos rfl,if_neg (by omega)]
    by_cases h4:b=j+1
    ·rw[if_pos h4];exact h
    ·rw[if_neg h4]
     exact hi.lt b (by omega) hb
  |false=>
   have h:l.getD j 0<=l.getD (j+1) 0:=by have:=of_decide_eq_false h;omega
   rw[cond_false]
   by_cases h3:a=j+1
   ·subst h3;exact Int.le_of_lt (hi.lt b zA hb)
   ·by_cases h4:b=j+1
    ·subst h4
     by_cases h5:a=j
     ·subst h5;exact h
     ·exact Int.le_trans (hi.rest a j (by omega) (by omega) h3 (by omega)) h
    ·exact hi.rest a b zA hb h3 h4
theorem A6 (l:List Int):∀(k:Nat),k<=l.length->∀a b,a<b->b<k->(ob l k).getD a 0<=(ob l k).getD b 0
 |0,_,a,b,_,hb=>by omega
 |k+1,h,a,b,zA,hb=>by
  show(zr k (ob l k)).getD a 0<=_
  refine C9 k (k+1) _ (by omega) (by rw[xq];exact h) ⟨fun a b zA hb h1 h2=> ?_,fun b h1 h2=>by omega⟩ a b zA hb
  exact A6 l k (by omega) a b zA (by omega)
theorem HZ (a b c:Int) (h1:Ew a b=true) (h2:Ew b c=true):Ew a c=true:=by
 unfold Ew at *
 have h1:=of_decide_eq_true h1
 have h2:=of_decide_eq_true h2
 exact decide_eq_true (by omega)
theorem H0 (a b:Int):(Ew a b||Ew b a)=true:=by
 unfold Ew
 by_cases h:a<=b
 ·rw[decide_eq_true h];rfl
 ·rw[decide_eq_true (show b<=a by omega),Bool.or_true]
theorem Kv {l m:List Int} (hp:m.Perm l) (hs:m.Pairwise fun a b=>a<=b):m=l.mergeSort Ew:=by
 refine List.Perm.eq_of_pairwise (le:=fun a b:Int=>a<=b) (fun a b _ _ h1 h2=>by omega) hs ?_ (hp.trans (List.mergeSort_perm l Ew).symm)
 exact(List.pairwise_mergeSort HZ H0 l).imp fun h=>of_decide_eq_true h
theorem xp (l:List Int):ob l l.length=l.mergeSort Ew:=by
 refine Kv (vo l _ (Nat.le_refl _)) ?_
 rw[List.pairwise_iff_getElem]
 intro a b ha hb zA
 have:=A6 l l.length (Nat.le_refl _) a b zA (by rw[xq] at hb;exact hb)
 rw[eW 0 ha,eW 0 hb] at this
 exact this
theorem Pa {l m:List Int} (h:l.Perm m):l.mergeSort Ew=m.mergeSort Ew:=
 Kv ((List.mergeSort_perm l Ew).trans h) ((List.pairwise_mergeSort HZ H0 l).imp fun h=>of_decide_eq_true h)
theorem Ou {l m:List Int} (h:l.Perm m):ob l l.length=ob m m.length:=by
 rw[xp,xp]
 exact Pa h
end YtjnappfomhkeeaaGreat
end Go.Proofs
end

section
set_option maxRecDepth 100000
set_option linter.unusedVariables false
set_option linter.unusedSimpArgs false
set_option maxHeartbeats 2000000
namespace Go.Vc
open Go Go.Sort Go.RowKit
theorem UL {w:World} {b e n:Nat} {vs:Array Value} {fr:Nat×Nat} {os:Array Obj} {zs:List Int} (h:w.heap[b]? =some (.cells vs e fr)):
  (grow (putRow (Value.int .i64) (Sort.ahead w n) b 0 zs.toArray) os).heap[b]? =some (.cells (putCells (Value.int .i64) 0 zs.toArray vs) e fr):=by
 have dQ:=dR h
 show((w.heap.modify b _)++os)[b]? =_
 rw[Array.getElem?_append_left (by simpa using dQ),Array.getElem?_modify,if_pos rfl,h]
 rfl
theorem Kl {w:World} {b n:Nat} {os:Array Obj} {zs:List Int}:sQ (fun k=>k=b) w (grow (putRow (Value.int .i64) (Sort.ahead w n) b 0 zs.toArray) os) where
 os:=rfl
 tape:=rfl
 output:=rfl
 size:=by
  show w.heap.size<=((w.heap.modify b _)++os).size
  simp
 block k hk kz:=by
  show((w.heap.modify b _)++os)[k]? =_
  rw[Array.getElem?_append_left (by simpa using hk),Array.getElem?_modify,if_neg (fun e=>kz e.symm)]
theorem Hr {E:Env} {w:World} {p:Place} {e:Nat} {xs:List Int} (h:n6 E w p false e (.int .i64) xs):Holds (Value.int .i64) w p.bp 0 xs.toArray:=by
 obtain⟨h0,⟨h1,h2⟩,vs,h3,h4,_,h5⟩:=h
 intro j hj
 have hj:j<xs.length:=by simpa using hj
 obtain⟨us,k1,k2,k3⟩:=h5 j xs[j] (List.getElem?_eq_getElem hj)
 have k1:us=[.int .i64 xs[j]]:=k1.1
 subst k1
 have k3:=k3 0 _ rfl
 have k3:vs[j*1+0]? =some (.int .i64 xs[j]):=k3
 rw[Nat.mul_one,Nat.add_zero] at k3
 refine⟨?_,?_⟩
 ·unfold World.cell?
  rw[h3]
  simp only[Nat.zero_add,Option.isSome_none,Bool.false_eq_true,if_false]
  rw[k3]
  simp[hj]
 ·unfold World.frozen?
  rw[h3]
  simp
theorem OG {F:Mem} {w:World} {p:Place} {e n:Nat} {xs zs ys:List Int} {os:Array Obj} (h:n6 ⟨F,fun _=>none⟩ w p false e (.int .i64) xs) (hz:zs.length=xs.length) (hy:ys.length<=zs.length) (Gs:∀i,i<ys.length->ys[i]? =zs[i]?) (hr:∀y∈ys,bo .i64 y):
  n6 ⟨F,fun _=>none⟩ (grow (putRow (Value.int .i64) (Sort.ahead w n) p.bp 0 zs.toArray) os) ⟨p.nil,p.bp,p.cap,ys.length⟩ false e (.int .i64) ys:=by
 obtain⟨h0,⟨h1,h2⟩,vs,h3,h4,_,h5⟩:=h
 have h4:vs.size=p.cap*1:=h4
 refine⟨h0,⟨rfl,by show ys.length<=p.cap;omega⟩,_,UL h3,?_,(fun h=>by cases h),fun i x hx=> ?_⟩
 ·show(putCells _ 0 zs.toArray vs).size=p.cap*1
  unfold putCells
  simpa using h4
 ·have hi:=(List.getElem?_eq_some_iff.1 hx).1
  rw[Gs i hi] at hx
  obtain⟨hi2,Pw⟩:=List.getElem?_eq_some_iff.1 hx
  have hm:x∈ys:=List.mem_of_getElem? (by rw[Gs i hi];exact hx)
  refine⟨[.int .i64 x],⟨rfl,hr x hm⟩,rfl,fun j u hu=> ?_⟩
  have hj:j=0:=by
   cases j with
   |zero=>rfl
   |succ j=>simp at hu
  subst hj
  have hu:Value.int .i64 x=u:=by simpa using hu
  show(putCells _ 0 zs.toArray vs)[i*1+0]? =some u
  rw[<-hu,Nat.mul_one,Nat.add_zero]
  unfold putCells
  rw[Array.getElem?_mapIdx,Array.getElem?_eq_getElem (by omega)]
  simp[hi2,Pw]
theorem OI {E:Env} {w:World} {p:Place} {e:Nat} {xs:List Int} (h:n6 E w p false e (.int .i64) xs):∀x∈xs,bo .i64 x:=by
 obtain⟨_,_,vs,_,_,_,h5⟩:=h
 intro x hx
 obtain⟨i,hi,rfl⟩:=List.mem_iff_getElem.1 hx
 obtain⟨us,k1,_⟩:=h5 i _ (List.getElem?_eq_getElem hi)
 exact k1.2
theorem fq.WB {P:Program} {f e:Nat} {fn:Func} {code:Code} {L:Nat} {g:List Int->List Int} (hf:P.funcs[f]? =some fn) (hn:(fn.name=="runtime.NumGoroutine")=false) (hb:fn.body=some code)
  (hg:∀l,(g l).Perm l) (hL:L<4611686018427387904) (h0:∀w,Calls P f #[.slice none 0 0] w fun e w'=>e= .returned (.tuple #[])/\w'=w)
  (h1:∀(bp cap:Nat) (zs:List Int) (w:World),Holds (Value.int .i64) w bp 0 zs.toArray->bp<w.heap.size->zs.length<=L->
   Calls P f #[.slice (some ⟨bp,0,none⟩) zs.length cap] w fun e w'=>e= .returned (.tuple #[])/\∃n os,w'=grow (putRow (Value.int .i64) (Sort.ahead w n) bp 0 (g zs).toArray) os)
  {pre:(cW [.row e (.int .i64)]).den->Prop} (pj:∀x,pre x->(x.1:List Int).length<=L):
  fq P f {args:=[.row e (.int .i64)],outs:=[],pre:=pre,fn:=fun _=>(),fS:=fun x=>(g x.1,x.2)} where
 fn:=⟨fn,code,hf,hn,hb⟩
 Z4 o ho:=by rw[List.mem_singleton.1 ho];rfl
 WZ:=rfl
 calls F w x vs pl hF hx hs RZ EI hp EH:=by
  obtain⟨v,us,rfl,⟨rp,_⟩,rfl⟩:=hs
  obtain⟨us,ws,p0,q0,h2,rfl,⟨p,v',rfl,rfl,hv,hB⟩,rfl,rfl⟩:=hx
  have hvc:gB [v]=[v]:=by simp[gB,rp]
  rw[hvc] at h2 ⊢
  have e2:v=v':=by simpa using h2
  subst e2
  have hlen:=pj x hp
  show Calls P f #[v] w _
  rcases hv with ⟨yn,rfl,BW⟩|⟨wT,rfl,PE,zy⟩
  ·have XH:(x.1:List Int)=[]:=by
    rcases hB with ⟨_,h,_⟩|⟨h,_⟩
    ·exact h
    ·rw[yn] at h;cases h
   have hg0:g x.1=[]:=by rw[XH];exact(hg []).eq_nil
   refine(h0 w).mono fun e' w' ⟨he,hw⟩=> ?_
   subst hw
   refine⟨_,F,[],_,.nil,he,.refl _,hF,fun b o h=> .inl h,.refl _ _,rfl,rfl,⟨rfl,rfl⟩,⟨.row p,.nil,.row p,.nil,rfl,rfl,rfl,⟨p,_,rfl,rfl,.inl ⟨yn,rfl,BW⟩,.inl ⟨yn,hg0,BW⟩⟩,fun _=>rfl⟩,?_,fun q hq Dc=> ?_⟩
   ·simp[PT.list,mj]
   ·simp[PT.list] at hq
    subst hq
    rw[yn] at Dc;cases Dc
  ·have hB:n6 ⟨F,fun _=>none⟩ w p false e (.int .i64) x.1:=by
    rcases hB with ⟨h,_⟩|⟨_,h⟩
    ·rw[wT] at h;cases h
    ·exact h
   have Pv:(x.1:List Int).length=p.len:=hB.2.1.1
   obtain⟨_,_,cs,hc,_⟩:=id hB
   have BZ:=h1 p.bp p.cap x.1 w (Hr hB) (dR hc) hlen
   rw[Pv] at BZ
   refine BZ.mono fun e' w' ⟨he,n,os,hw⟩=> ?_
   subst hw
   have PJ:=(hg x.1).length_eq
   have Ig:ox (PT.pair (.row p) .nil).list p.bp:=⟨p,by simp[PT.list],wT,rfl⟩
   have hk:sQ (ox (PT.pair (.row p) .nil).list) w (grow (putRow (Value.int .i64) (Sort.ahead w n) p.bp 0 (g x.1).toArray) os):=by
    have:=Kl (w:=w) (b:=p.bp) (n:=n) (os:=os) (zs:=g x.1)
    exact⟨this.os,this.tape,this.output,this.size,fun k hk hf=>this.block k hk fun e=>hf (e▸Ig)⟩
   refine⟨_,F,[],_,.nil,he,.refl _,fun b o hb=> ?_,fun b o h=> .inl h,hk,rfl,rfl,⟨rfl,rfl⟩,⟨.row p,.nil,.row p,.nil,rfl,rfl,rfl,⟨p,_,rfl,rfl,.inr ⟨wT,rfl,PE,zy⟩,.inr ⟨wT,?_⟩⟩,fun _=>rfl⟩,?_,fun q hq Dc=> ?_⟩
   ·rw[hk.block b (dR (hF b o hb)) fun⟨q,hq,_,JK⟩=> ?_]
    ·exact hF b o hb
    ·have:q=p:=by simpa [PT.list] using hq
     subst this
     rw[<-JK,EI q (by simp[PT.list]) wT] at hb
     cases hb
   ·have:=OG (n:=n) (os:=os) (zs:=g x.1) (ys:=g x.1) hB PJ (Nat.le_refl _) (fun _ _=>rfl) (fun y hy=>OI hB y ((hg x.1).mem_iff.1 hy))
    rw[show(⟨p.nil,p.bp,p.cap,(g x.1).length⟩:Place)=p by rw[PJ,Pv]] at this
    exact this
   ·simp[PT.list,mj]
   ·have:q=p:=by simpa [PT.list] using hq
    subst this
    exact⟨.inl Ig,EI q (by simp[PT.list]) wT⟩
theorem fq.Su {P:Program} {f e:Nat} {fn:Func} {code:Code} (hf:P.funcs[f]? =some fn) (hn:(fn.name=="runtime.NumGoroutine")=false) (hb:fn.body=some code)
  (h1:∀(bp cap i j:Nat) (zs:List Int) (w:World),Holds (Value.int .i64) w bp 0 zs.toArray->zs.length<=cap->cap<=9223372036854775807->i<=j->j<=zs.length->
   Calls P f #[.slice (some ⟨bp,0,none⟩) zs.length cap,.int .i64 i,.int .i64 j] w fun e w'=>e= .returned (.slice (some ⟨bp,0,none⟩) (zs.length - (j - i)) cap)/\∃q,w'=putRow (Value.int .i64) (Sort.ahead w q) bp 0 (zs.take i++zs.drop j++List.replicate (j - i) 0).toArray):
  fq P f {args:=[.gone (.row e (.int .i64)),.aG (.int .i64),.aG (.int .i64)],outs:=[.row e (.int .i64)],pre:=fun(x:List Int×Int×Int×Unit)=>0<=x.2.1/\x.2.2.1=x.2.1+1/\x.2.2.1<=(x.1.length:Int),fn:=fun(x:List Int×Int×Int×Unit)=>(x.1.eraseIdx x.2.1.toNat,()),fS:=fun x=>x} where
 fn:=⟨fn,code,hf,hn,hb⟩
 Z4 o ho:=by
  simp only[List.mem_cons,List.not_mem_nil,or_false] at ho
  rcases ho with rfl|rfl|rfl<;>rfl
 WZ:=rfl
 calls F w x vs pl hF hx hs RZ EI hp EH:=by
  obtain⟨(xs:List Int),(i0:Int),(j0:Int),u⟩:=x
  have hp:0<=i0/\j0=i0+1/\j0<=(xs.length:Int):=hp
  obtain⟨Vk,R4,hjl⟩:=hp
  obtain⟨v,us,rfl,⟨rp,_⟩,v2,ZW,rfl,⟨Ng,_⟩,v3,us3,rfl,⟨hv3,_⟩,rfl⟩:=hs
  have hvc:gB [v,v2,v3]=[v,v2,v3]:=by simp[gB,rp,Ng,hv3]
  rw[hvc] at hx ⊢
  obtain⟨us,ws,p0,q0,h2,rfl,⟨p,v',rfl,rfl,hv,hB⟩,ZW,ws2,p2,q2,rfl,rfl,⟨rfl,hr2⟩,us3,Wq,p3,q3,rfl,rfl,⟨rfl,hr3⟩,rfl,rfl⟩:=hx
  have hr2:ZW=[.int .i64 i0]:=hr2.1
  have hr3:us3=[.int .i64 j0]:=hr3.1
  subst hr2 hr3
  simp only[List.singleton_append,List.append_nil,List.cons.injEq,and_true] at h2
  obtain⟨rfl,rfl,rfl⟩:=h2
  show Calls P f #[v,.int .i64 i0,.int .i64 j0] w _
  rcases hv with ⟨yn,rfl,BW⟩|⟨wT,rfl,PE,zy⟩
  ·have XH:xs=[]:=by
    rcases hB with ⟨_,h,_⟩|⟨h,_⟩
    ·exact h
    ·rw[yn] at h;cases h
   have:xs.length=0:=by rw[XH];rfl
   omega
  ·have hB:n6 ⟨F,fun _=>none⟩ w p false e (.int .i64) xs:=by
    rcases hB with ⟨h,_⟩|⟨_,h⟩
    ·rw[wT] at h;cases h
    ·exact h
   have Pv:xs.length=p.len:=hB.2.1.1
   have BZ:=h1 p.bp p.cap i0.toNat j0.toNat xs w (Hr hB) (by rw[Pv];exact PE) zy (by omega) (by omega)
   rw[Pv,show(i0.toNat:Int)=i0 by omega,show(j0.toNat:Int)=j0 by omega] at BZ
   refine BZ.mono fun e' w' ⟨he,n,hw⟩=> ?_
   have hw:w'=grow (putRow (Value.int .i64) (Sort.ahead w n) p.bp 0 (List.take i0.toNat xs++List.drop j0.toNat xs++List.replicate (j0.toNat - i0.toNat) (0:Int)).toArray) #[]:=by rw[hw,grow_empty]
   generalize hzs:(List.take i0.toNat xs++List.drop j0.toNat xs++List.replicate (j0.toNat - i0.toNat) (0:Int))=zs at *
   subst hw
   have her:xs.eraseIdx i0.toNat=List.take i0.toNat xs++List.drop j0.toNat xs:=by
    rw[List.eraseIdx_eq_take_drop_succ,show j0.toNat=i0.toNat+1 by omega]
   have Ps:zs.length=xs.length:=by
    rw[<-hzs]
    simp only[List.length_append,List.length_take,List.length_drop,List.length_replicate]
    omega
   have No:(xs.eraseIdx i0.toNat).length=p.len - 1:=by rw[List.length_eraseIdx_of_lt (by omega),Pv]
   have Ig:ox (PT.pair (.row p) (.pair .nil (.pair .nil .nil))).list p.bp:=⟨p,by simp[PT.list],wT,rfl⟩
   have hk:sQ (ox (PT.pair (.row p) (.pair .nil (.pair .nil .nil))).list) w (grow (putRow (Value.int .i64) (Sort.ahead w n) p.bp 0 zs.toArray) #[]):=by
    have:=Kl (w:=w) (b:=p.bp) (n:=n) (os:= #[]) (zs:=zs)
    exact⟨this.os,this.tape,this.output,this.size,fun k hk hf=>this.block k hk fun e=>hf (e▸Ig)⟩
   have Db:n6 ⟨F,fun _=>none⟩ (grow (putRow (Value.int .i64) (Sort.ahead w n) p.bp 0 zs.toArray) #[]) ⟨p.nil,p.bp,p.cap,(xs.eraseIdx i0.toNat).length⟩ false e (.int .i64) (xs.eraseIdx i0.toNat):=
    OG hB Ps (by rw[Ps];omega) (fun i hi=>by rw[<-hzs,her];exact(List.getElem?_append_left (by rw[<-her];exact hi)).symm) (fun y hy=>OI hB y (List.mem_of_mem_eraseIdx hy))
   refine⟨_,F,[.slice (some ⟨p.bp,0,none⟩) (p.len - 1) p.cap],.pair .nil (.pair .nil (.pair .nil .nil)),.pair (.row ⟨p.nil,p.bp,p.cap,(xs.eraseIdx i0.toNat).length⟩) .nil,he,.refl _,fun b o hb=> ?_,fun b o h=> .inl h,hk,?_,⟨_,[],rfl,⟨rfl,rfl⟩,rfl⟩,
    ⟨[.slice (some ⟨p.bp,0,none⟩) (p.len - 1) p.cap],[],_,_,rfl,rfl,⟨_,_,rfl,rfl,.inr ⟨wT,by rw[No],by show(xs.eraseIdx i0.toNat).length<=p.cap;rw[No];omega,zy⟩,.inr ⟨wT,Db⟩⟩,rfl,rfl⟩,
    ⟨_,_,.nil,_,rfl,rfl,⟨_,_,.nil,_,rfl,rfl,⟨_,_,.nil,_,rfl,rfl,rfl,rfl⟩,rfl⟩,rfl⟩,?_,fun q hq Dc=> ?_⟩
   ·rw[hk.block b (dR (hF b o hb)) fun⟨q,hq,_,JK⟩=> ?_]
    ·exact hF b o hb
    ·have:q=p:=by simpa [PT.list] using hq
     subst this
     rw[<-JK,EI q (by simp[PT.list]) wT] at hb
     cases hb
   ·show[_]=[_]
    rw[show j0.toNat - i0.toNat=1 by omega]
   ·simp[PT.list,mj]
   ·have:q=⟨p.nil,p.bp,p.cap,(xs.eraseIdx i0.toNat).length⟩:=by simpa [PT.list] using hq
    subst this
    exact⟨.inl Ig,EI p (by simp[PT.list]) wT⟩
end Go.Vc
namespace Go.Proofs
open Go Go.Vc Go.Shelf
namespace YtjnappfomhkeeaaGreat
def MX:Go.Shelf.Ren:=⟨fun|189=>61|125=>113|257=>112|128=>193|129=>194|294=>184|295=>185|296=>186|297=>187|298=>188|299=>189|216=>190|300=>191|301=>192|328=>239|329=>240|330=>241|331=>242|332=>243|215=>244|343=>261|n=>n,fun|28=>42|3=>3|46=>184|0=>0|51=>264|53=>266|4=>4|183=>258|182=>257|131=>230|5=>5|9=>9|218=>304|222=>308|228=>322|229=>83|n=>n,fun|n=>n⟩
theorem Pg:Go.Proofs.Lays.n189 Tryz.prog MX:={
 mixed:=by kernel_rfl,f125:=Tryz.func113.trans (congrArg some (by kernel_rfl)),f128:=Tryz.func193.trans (congrArg some (by kernel_rfl)),f129:=Tryz.func194.trans (congrArg some (by kernel_rfl)),
 f189:=Tryz.func61.trans (congrArg some (by kernel_rfl)),f215:=Tryz.func244.trans (congrArg some (by kernel_rfl)),f216:=Tryz.func190.trans (congrArg some (by kernel_rfl)),
 f257:=Tryz.func112.trans (congrArg some (by kernel_rfl)),f294:=Tryz.func184.trans (congrArg some (by kernel_rfl)),f295:=Tryz.func185.trans (congrArg some (by kernel_rfl)),
 f296:=Tryz.func186.trans (congrArg some (by kernel_rfl)),f297:=Tryz.func187.trans (congrArg some (by kernel_rfl)),f298:=Tryz.func188.trans (congrArg some (by kernel_rfl)),
 f299:=Tryz.func189.trans (congrArg some (by kernel_rfl)),f300:=Tryz.func191.trans (congrArg some (by kernel_rfl)),f301:=Tryz.func192.trans (congrArg some (by kernel_rfl)),
 f328:=Tryz.func239.trans (congrArg some (by kernel_rfl)),f329:=Tryz.func240.trans (congrArg some (by kernel_rfl)),f330:=Tryz.func241.trans (congrArg some (by kernel_rfl)),
 f331:=Tryz.func242.trans (congrArg some (by kernel_rfl)),f332:=Tryz.func243.trans (congrArg some (by kernel_rfl)),f343:=Tryz.func261.trans (congrArg some (by kernel_rfl)),t0:=Tryz.underlying0,a0:=Tryz.isAgg0,
 z0:=Tryz.sizeOf0,v0:=Tryz.zeroValue0,t3:=Tryz.underlying3,a3:=Tryz.isAgg3,z3:=Tryz.sizeOf3,v3:=Tryz.zeroValue3,t4:=Tryz.underlying4,a4:=Tryz.isAgg4,z4:=Tryz.sizeOf4,v4:=Tryz.zeroValue4,
 t5:=Tryz.underlying5,a5:=Tryz.isAgg5,z5:=Tryz.sizeOf5,v5:=Tryz.zeroValue5,t9:=Tryz.underlying9,a9:=Tryz.isAgg9,z9:=Tryz.sizeOf9,v9:=Tryz.zeroValue9,t28:=Tryz.underlying42,a28:=Tryz.isAgg42,
 z28:=Tryz.sizeOf42,v28:=Tryz.zeroValue42,t46:=Tryz.underlying184,a46:=Tryz.isAgg184,z46:=Tryz.sizeOf184,v46:=Tryz.zeroValue184,t51:=Tryz.underlying264,a51:=Tryz.isAgg264,z51:=Tryz.sizeOf264,
 v51:=Tryz.zeroValue264,t53:=Tryz.underlying266,a53:=Tryz.isAgg266,z53:=Tryz.sizeOf266,v53:=Tryz.zeroValue266,t131:=Tryz.underlying230,a131:=Tryz.isAgg230,z131:=Tryz.sizeOf230,v131:=Tryz.zeroValue230,
 t182:=Tryz.underlying257,a182:=Tryz.isAgg257,z182:=Tryz.sizeOf257,v182:=Tryz.zeroValue257,t183:=Tryz.underlying258,a183:=Tryz.isAgg258,z183:=Tryz.sizeOf258,v183:=Tryz.zeroValue258,t218:=Tryz.underlying304,
 a218:=Tryz.isAgg304,z218:=Tryz.sizeOf304,v218:=Tryz.zeroValue304,t222:=Tryz.underlying308,a222:=Tryz.isAgg308,z222:=Tryz.sizeOf308,v222:=Tryz.zeroValue308,t228:=Tryz.underlying322,a228:=Tryz.isAgg322,
 z228:=Tryz.sizeOf322,v228:=Tryz.zeroValue322,t229:=Tryz.underlying83,a229:=Tryz.isAgg83,z229:=Tryz.sizeOf83,v229:=Tryz.zeroValue83}
def Pf:Go.Shelf.Ren:=⟨fun|23=>118|n=>n,fun|22=>42|3=>3|4=>4|0=>0|n=>n,fun|n=>n⟩
theorem aah:Go.Proofs.Lays2.n23 Tryz.prog Pf:={
 mixed:=by kernel_rfl,f23:=Tryz.func118.trans (congrArg some (by kernel_rfl)),t0:=Tryz.underlying0,a0:=Tryz.isAgg0,z0:=Tryz.sizeOf0,v0:=Tryz.zeroValue0,t3:=Tryz.underlying3,a3:=Tryz.isAgg3,z3:=Tryz.sizeOf3,
 v3:=Tryz.zeroValue3,t4:=Tryz.underlying4,a4:=Tryz.isAgg4,z4:=Tryz.sizeOf4,v4:=Tryz.zeroValue4,t22:=Tryz.underlying42,a22:=Tryz.isAgg42,z22:=Tryz.sizeOf42,v22:=Tryz.zeroValue42,i3:=by kernel_rfl}
theorem ahA:fq Tryz.prog 61 c61:=
 fq.WB (g:=fun l=>ob l l.length) Tryz.func61 (by kernel_rfl) (Option.some_get (by kernel_rfl:Tryz.f61.body.isSome=true)).symm (fun l=>vo l _ (Nat.le_refl _)) (by decide:1000000<4611686018427387904)
  (fun w=>Any.slices_Sort_int_none Pg none 0 w)
  (fun bp cap zs w h1 h2 h3=>by
   have:=Any.slices_Sort_int Pg bp 0 cap zs w h1 h2 (by omega)
   rw[xp]
   exact this) fun x h=>h
def TV:fG where
 args:=[.gone (.row 3 I),.aG I,.aG I]
 outs:=[.row 3 I]
 pre:=fun(x:List Int×Int×Int×Unit)=>0<=x.2.1/\x.2.2.1=x.2.1+1/\x.2.2.1<=(x.1.length:Int)
 fn:=fun(x:List Int×Int×Int×Unit)=>(x.1.eraseIdx x.2.1.toNat,())
theorem adE:fq Tryz.prog 118 TV:=
 fq.Su Tryz.func118 (by kernel_rfl) (Option.some_get (by kernel_rfl:Tryz.f118.body.isSome=true)).symm fun bp cap i j zs w h1 h2 h3 h4 h5=>Any.slices_Delete_int aah bp 0 cap i j zs w h1 h2 h3 h4 h5
end YtjnappfomhkeeaaGreat
end Go.Proofs
end

section
set_option maxRecDepth 100000
set_option linter.unusedVariables false
set_option linter.unusedSimpArgs false
set_option maxHeartbeats 4000000
namespace Go.Proofs
open Go Go.Vc
namespace YtjnappfomhkeeaaGreat
theorem v76 (l:List (Int×Int)):ah (aj aA []) Tryz.f76 Cd ar (l,())=(
∀(b1:Bool),
(b1=true->l=[])->
(b1=true->[]=l/\True)/\
(b1=false->roomFor ((List.replicate (0:Nat) ((0:Int),(0:Int))).length+l.length) (16:Nat)/\List.replicate (0:Nat) ((0:Int),(0:Int))++l=l/\True)):=by kernel_rfl
theorem OY:aN Tryz.prog 76 Cd:=
 aN.b3 (l:=[]) (A:=fun _=>ar) aJ trivial Tryz.func76 (by kernel_rfl) (by kernel_rfl) fun x _ hp=>by
  obtain⟨l,u⟩:=x
  show ah (aj aA []) Tryz.f76 Cd ar (l,())
  rw[v76]
  exact fun b hb=>⟨fun h=>⟨(hb h).symm,trivial⟩,fun h=>⟨r7 hp rfl (by decide),by first|exact⟨rfl,trivial⟩|trivial⟩⟩
theorem ack:aN Tryz.prog 76 TK:=OY.asData
theorem acn:aN Tryz.prog 59 TL:=Tf.asData
theorem agf (b:av) (e:Int):ah (aj aA []) Tryz.f246 K6 ar (b,e,())=(
(bif decide (e>=(0:Int)) then decide (e<b.1) else false)=ET b e/\True):=by kernel_rfl
theorem acy:aN Tryz.prog 246 K6:=
 aN.b3 (l:=[]) (A:=fun _=>ar) aJ trivial Tryz.func246 (by kernel_rfl) (by kernel_rfl) fun x _ hp=>by
  obtain⟨b,e,u⟩:=x
  show ah (aj aA []) Tryz.f246 K6 ar (b,e,())
  rw[agf]
  refine⟨?_,trivial⟩
  unfold ET
  show(bif decide (0<=e) then _ else false)=_
  cases decide (0<=e)<;>rfl
theorem qS {α:Type} {m:List (Int×List α)} (h:∀x∈m,x.2.length<=1000) (o:Int):(kg m o).length<=1000:=by
 unfold kg
 cases hm:aW I m o with
 |none=>exact Nat.zero_le _
 |some l=>exact h _ (fM tw hm)
theorem v28 (b:av) (o:Int):ah (aj aA []) Tryz.f28 Gw ar (b,o,())=(
U ((↑((aW I b.2.1 o).getD []).length:Int)+(↑((aW I b.2.2.1 o).getD []).length:Int)) fun(y2:Int)=>
U (y2+(↑((aW I b.2.2.2.2 o).getD []).length:Int)) fun(y3:Int)=>bo IntKind.i64 y2/\bo IntKind.i64 y3/\decide (y3>(0:Int))=iD b o/\True):=by kernel_rfl
theorem b28 (b:av) (o:Int) (h:gz b):ah (aj aA []) Tryz.f28 Gw ar (b,o,()):=by
 rw[v28]
 refine U.mk fun y2 e2=>U.mk fun y3 e3=> ?_
 have h1:=qS h.steps o
 have h2:=qS h.nu o
 have h3:=qS h.guards o
 have e2:y2=((kg b.2.1 o).length:Int)+((kg b.2.2.1 o).length:Int):=e2
 have e3:y3=y2+((kg b.2.2.2.2 o).length:Int):=e3
 refine⟨aY (by omega) (by omega),aY (by omega) (by omega),?_,trivial⟩
 unfold iD
 rw[e3,e2]
theorem W3:aN Tryz.prog 28 Gw:=
 aN.b3 (l:=[]) (A:=fun _=>ar) aJ trivial Tryz.func28 (by kernel_rfl) (by kernel_rfl) fun x _ hp=>b28 x.1 x.2.1 hp
theorem UH (b:av) (r:af):ot b r=(!decide (r.2.2.2.1.length=0)&&(de (qC b r) r.2.2.2.1.length&&(r.2.2.2.2.2.2.1.all (sA b r)&&de (l8 b r) (r.2.2.2.2.1.length+r.2.2.2.2.2.1.length)))):=by unfold ot;rfl
theorem Fi (r:af) {s:Nat} (hs:s<=r.2.2.2.1.length) (e:Int):(aW I (ga r s) e).isSome=cj (fun j=>(gh r.2.2.2.1 j).1==e) s:=by
 rw[gZ]
 unfold ga
 rw[List.any_map]
 have:cj (fun j=>(gh r.2.2.2.1 j).1==e) s=(r.2.2.2.1.take s).any (fun x=>x.1==e):=qt iC (fun x:cu=>x.1==e) r.2.2.2.1 s hs
 rw[this]
 congr 1
 funext x
 show(e==x.1)=(x.1==e)
 exact fI e x.1
theorem Fj (r:af) {s:Nat} (hs:s<=r.2.2.2.1.length) (e:Int):(aW I (ga r s) e).getD false=cj (fun j=>(gh r.2.2.2.1 j).1==e) s:=by
 have h1:=Fi r hs e
 cases hm:aW I (ga r s) e with
 |none=>rw[hm] at h1;exact h1
 |some v=>
  rw[hm] at h1
  have hv:=fM tw hm
  unfold ga at hv
  obtain⟨x,_,hx⟩:=List.mem_map.1 hv
  have:v=true:=(congrArg Prod.snd hx).symm
  rw[this]
  exact h1
theorem QT (r:af) {s:Nat} (hs:s<r.2.2.2.1.length) (h:cj (fun j=>(gh r.2.2.2.1 j).1==(gh r.2.2.2.1 s).1) s=false):ga r (s+1)=df I (ga r s) (gh r.2.2.2.1 s).1 true:=by
 rw[n9 tw (by rw[Fi r (by omega)];exact h)]
 unfold ga
 rw[oa _ iC hs]
 rfl
theorem Sn (r:af) (e:Int):bN (cw r) e=cj (fun j=>(gh r.2.2.2.1 j).1==e) r.2.2.2.1.length:=by
 have:cj (fun j=>(gh r.2.2.2.1 j).1==e) r.2.2.2.1.length=(r.2.2.2.1.take r.2.2.2.1.length).any (fun x=>x.1==e):=qt iC (fun x:cu=>x.1==e) r.2.2.2.1 _ (Nat.le_refl _)
 rw[this,List.take_length]
 unfold bN cw
 rw[List.any_map]
 rfl
theorem Kr (r:af) {j:Nat} (hj:j<2):kf r (j+1)=kf r j+(uP r j).length:=by
 rcases(by omega:j=0\/j=1) with rfl|rfl
 ·show r.2.2.2.2.1.length=0+r.2.2.2.2.1.length
  omega
 ·rfl
theorem O0 (r:af):kf r 2=r.2.2.2.2.1.length+r.2.2.2.2.2.1.length:=rfl
theorem AM (r:af):(aR r).length=r.2.2.2.2.1.length+r.2.2.2.2.2.1.length:=by unfold aR;rw[List.length_append]
theorem Th (r:af) {j i:Nat} (hj:j<2) (hi:i<(uP r j).length):kf r j+i<(aR r).length:=by
 rw[AM]
 rcases(by omega:j=0\/j=1) with rfl|rfl
 ·have hi:i<r.2.2.2.2.1.length:=hi
  show 0+i<_
  omega
 ·have hi:i<r.2.2.2.2.2.1.length:=hi
  show r.2.2.2.2.1.length+i<_
  omega
theorem O6 (r:af) {j i:Nat} (hj:j<2) (hi:i<(uP r j).length):eX r (kf r j+i)=(uP r j).getD i (0,0):=by
 unfold eX aR
 rcases(by omega:j=0\/j=1) with rfl|rfl
 ·have hi:i<r.2.2.2.2.1.length:=hi
  show(r.2.2.2.2.1++r.2.2.2.2.2.1).getD (0+i) (0,0)=r.2.2.2.2.1.getD i (0,0)
  rw[Nat.zero_add,List.getD_eq_getElem?_getD,List.getElem?_append_left hi,<-List.getD_eq_getElem?_getD]
 ·show(r.2.2.2.2.1++r.2.2.2.2.2.1).getD (r.2.2.2.2.1.length+i) (0,0)=r.2.2.2.2.2.1.getD i (0,0)
  rw[List.getD_eq_getElem?_getD,List.getElem?_append_right (by omega),Nat.add_sub_cancel_left,<-List.getD_eq_getElem?_getD]
theorem OR (r:af) {j:Nat} (hj:j<2):([r.2.2.2.2.1,r.2.2.2.2.2.1]:List (List ba)).getD j []=uP r j:=by
 rcases(by omega:j=0\/j=1) with rfl|rfl
 ·rfl
 ·rfl
theorem Qc (x y:ba):tb x y=tb y x:=by
 unfold tb
 rw[fI x.1 y.1,fI x.2 y.2]
theorem Km (r:af):∀(K:Nat) (e:Int),(∀q,aW I (jr r K) e=some q->∃j,j<K/\eX r j=(e,q))/\(aW I (jr r K) e=none->∀j,j<K->(eX r j).1≠e)
 |0,e=>⟨fun q h=>(by cases h),fun _ j hj=>(by omega)⟩
 |K+1,e=>by
  obtain⟨i1,i2⟩:=Km r K e
  have hp:aW I (jr r (K+1)) e=bif Ty.jc I e (eX r K).1 then some (eX r K).2 else aW I (jr r K) e:=wP tw _ _ _ _
  rw[hp,Pk]
  cases hk:(e==(eX r K).1) with
  |true=>
   refine⟨fun q hq=>⟨K,by omega,?_⟩,fun h=>(by cases h)⟩
   have hq:(eX r K).2=q:=by simpa using hq
   rw[<-hq,eq_of_beq hk]
  |false=>
   refine⟨fun q hq=> ?_,fun h j hj=> ?_⟩
   ·obtain⟨j,hj,e'⟩:=i1 q hq
    exact⟨j,by omega,e'⟩
   ·by_cases JM:j=K
    ·subst JM
     intro e'
     rw[e'] at hk
     simp at hk
    ·exact i2 h j (by omega)
theorem O5 {b:av} {r:af} {K:Nat} (h:de (l8 b r) K=true):
  (bif(aW I (jr r K) (eX r K).1).isSome then(aW I (jr r K) (eX r K).1).getD 0 !=(eX r K).2 else false)=cj (fun j=>tb (eX r j) (eX r K)) K:=by
 obtain⟨i1,i2⟩:=Km r K (eX r K).1
 cases hm:aW I (jr r K) (eX r K).1 with
 |none=>
  symm
  refine iX.2 fun j hj=> ?_
  unfold tb
  rw[beq_false_of_ne (i2 hm j hj)]
  rfl
 |some q=>
  obtain⟨j0,R4,e0⟩:=i1 q hm
  show(q !=(eX r K).2)=_
  cases hq:(q==(eX r K).2) with
  |false=>
   rw[iy,hq]
   symm
   refine nR R4 ?_
   unfold tb
   rw[e0]
   show((eX r K).1==(eX r K).1&& !(q==(eX r K).2))=true
   rw[hq]
   simp
  |true=>
   rw[iy,hq]
   symm
   have hq:=eq_of_beq hq
   refine iX.2 fun j hj=> ?_
   cases hc:tb (eX r j) (eX r K) with
   |false=>rfl
   |true=>
    exfalso
    have PH:tb (eX r j) (eX r j0)=true:=by
     rw[e0,hq]
     exact hc
    have no:∀a c,a<c->c<K->tb (eX r a) (eX r c)=true->False:=fun a c hac Nr mr=>by
     have:=gx.1 h c Nr
     unfold l8 at this
     rw[Bool.and_eq_true,Bool.and_eq_true] at this
     have h3:cj (fun j=>tb (eX r j) (eX r c)) c=false:=by simpa using this.2.2
     have:=iX.1 h3 a hac
     rw[mr] at this
     cases this
    rcases Nat.lt_trichotomy j j0 with dQ|heq|dQ
    ·exact no j j0 dQ R4 PH
    ·subst heq
     unfold tb at PH
     simp at PH
    ·exact no j0 j dQ hj (by rw[Qc];exact PH)
theorem v196 (b:av) (r:af):ah (aj aA [(246,K6)]) Tryz.f196 Lq (a196 (b,r,())) (b,r,())=(
U ((↑r.2.2.2.1.length:Int)==(0:Int)) fun(y2:Bool)=>
U (((List.replicate (2:Nat) ([]:List (Int×Int))).set (0:Nat) r.2.2.2.2.1).set (1:Nat) r.2.2.2.2.2.1) fun(y3:List (List (Int×Int)))=>
(y2=true->false=ot b r/\True)/\
(y2=false->
(∃(wz:Nat),
(wz<=r.2.2.2.1.length/\de (qC b r) wz=true)/\
(↑wz:Int)=(0:Int)/\
[b]=[b]/\
(0:Nat)=(0:Nat)/\
r.2.2.2.1=r.2.2.2.1/\
(↑r.2.2.2.1.length:Int)=(↑r.2.2.2.1.length:Int)/\
ga r wz=[]/\
ay r (True))/\
∀(s4:Nat),
U (decide ((↑s4:Int)<(↑r.2.2.2.1.length:Int))) fun(y5:Bool)=>
U (r.2.2.2.1.getD (↑s4:Int).toNat ((0:Int),(0:Int),(0:Int))).1 fun(y6:Int)=>
U (bif !ET b y6 then true else(aW I (ga r s4) y6).getD false) fun(y7:Bool)=>
s4<=r.2.2.2.1.length/\de (qC b r) s4=true->
(y5=true->
aL (↑s4:Int) r.2.2.2.1.length/\
True/\
(y7=true->false=ot b r/\True)/\
(y7=false->
bo IntKind.i64 ((↑s4:Int)+(1:Int))/\
∃(jq:Nat),
(jq<=r.2.2.2.1.length/\de (qC b r) jq=true)/\
r.2.2.2.1.length - jq<r.2.2.2.1.length - s4/\
(↑jq:Int)=(↑s4:Int)+(1:Int)/\
[b]=[b]/\
(0:Nat)=(0:Nat)/\
r.2.2.2.1=r.2.2.2.1/\
(↑r.2.2.2.1.length:Int)=(↑r.2.2.2.1.length:Int)/\
ga r jq=df I (ga r s4) y6 true/\
ay r (True)))/\
(y5=false->
(∃(mQ:Nat),
(mQ<=r.2.2.2.2.2.2.1.length/\(List.take mQ r.2.2.2.2.2.2.1).all (sA b r)=true)/\
(↑mQ:Int)=(0:Int)/\
[b]=[b]/\
(0:Nat)=(0:Nat)/\
r.2.2.2.2.2.2.1=r.2.2.2.2.2.2.1/\
(↑r.2.2.2.2.2.2.1.length:Int)=(↑r.2.2.2.2.2.2.1.length:Int)/\
ay r (ga r s4=ga r s4/\True))/\
∀(s8:Nat),
U (decide ((↑s8:Int)<(↑r.2.2.2.2.2.2.1.length:Int))) fun(y9:Bool)=>
U (r.2.2.2.2.2.2.1.getD (↑s8:Int).toNat (0:Int)) fun(bu:Int)=>
U (bif !ET b bu then true else(aW I (ga r s4) bu).getD false) fun(bH:Bool)=>
s8<=r.2.2.2.2.2.2.1.length/\(List.take s8 r.2.2.2.2.2.2.1).all (sA b r)=true->
(y9=true->
aL (↑s8:Int) r.2.2.2.2.2.2.1.length/\
True/\
(bH=true->false=ot b r/\True)/\
(bH=false->
bo IntKind.i64 ((↑s8:Int)+(1:Int))/\
∃(nw:Nat),
(nw<=r.2.2.2.2.2.2.1.length/\(List.take nw r.2.2.2.2.2.2.1).all (sA b r)=true)/\
r.2.2.2.2.2.2.1.length - nw<r.2.2.2.2.2.2.1.length - s8/\
(↑nw:Int)=(↑s8:Int)+(1:Int)/\
[b]=[b]/\
(0:Nat)=(0:Nat)/\
r.2.2.2.2.2.2.1=r.2.2.2.2.2.2.1/\
(↑r.2.2.2.2.2.2.1.length:Int)=(↑r.2.2.2.2.2.2.1.length:Int)/\
ay r (ga r s4=ga r s4/\True)))/\
(y9=false->
(∃(vq:Nat),
(vq<=(2:Nat)/\de (l8 b r) (kf r vq)=true)/\
(↑vq:Int)=(0:Int)/\[b]=[b]/\(0:Nat)=(0:Nat)/\(↑y3.length:Int)=(↑y3.length:Int)/\jr r (kf r vq)=[]/\y3=y3/\True)/\
∀(mP:Nat),
U (decide ((↑mP:Int)<(↑y3.length:Int))) fun(aB:Bool)=>
U (uP r (↑mP:Int).toNat).length fun(cL:Nat)=>
U (y3.getD (↑mP:Int).toNat []) fun(bC:List (Int×Int))=>
mP<=(2:Nat)/\de (l8 b r) (kf r mP)=true->
(aB=true->
aL (↑mP:Int) y3.length/\
(∃(Fs:Nat),
(Fs<=cL/\de (l8 b r) (kf r (↑mP:Int).toNat+Fs)=true)/\
(↑Fs:Int)=(0:Int)/\
[b]=[b]/\
(0:Nat)=(0:Nat)/\
(↑y3.length:Int)=(↑y3.length:Int)/\
(↑mP:Int)=(↑mP:Int)/\
bC=bC/\
(↑bC.length:Int)=(↑bC.length:Int)/\
jr r (kf r (↑mP:Int).toNat+Fs)=jr r (kf r mP)/\y3=y3/\True)/\
∀(yw:Nat),
U (kf r (↑mP:Int).toNat+yw) fun(cy:Nat)=>
U (decide ((↑yw:Int)<(↑bC.length:Int))) fun(dN:Bool)=>
U (bC.getD (↑yw:Int).toNat ((0:Int),(0:Int))) fun(fw:Int×Int)=>
U (aW I (jr r cy) fw.1) fun(du:Option Int)=>
U
(bif bif !ET b fw.1 then true else bif fw.2 !=(1:Int) then fw.2 !=(2:Int) else false then true
else bif du.isSome then du.getD (0:Int) !=fw.2 else false)
fun(eL:Bool)=>
yw<=cL/\de (l8 b r) cy=true->
(dN=true->
aL (↑yw:Int) bC.length/\
True/\
(eL=true->false=ot b r/\True)/\
(eL=false->
bo IntKind.i64 ((↑yw:Int)+(1:Int))/\
∃(nv:Nat),
(nv<=cL/\de (l8 b r) (kf r (↑mP:Int).toNat+nv)=true)/\
cL - nv<cL - yw/\
(↑nv:Int)=(↑yw:Int)+(1:Int)/\
[b]=[b]/\
(0:Nat)=(0:Nat)/\
(↑y3.length:Int)=(↑y3.length:Int)/\
(↑mP:Int)=(↑mP:Int)/\
bC=bC/\
(↑bC.length:Int)=(↑bC.length:Int)/\
jr r (kf r (↑mP:Int).toNat+nv)=
df I (jr r cy) fw.1 fw.2/\
y3=y3/\True))/\
(dN=false->
bo IntKind.i64 ((↑mP:Int)+(1:Int))/\
∃(nv:Nat),
(nv<=(2:Nat)/\de (l8 b r) (kf r nv)=true)/\
(2:Nat) - nv<(2:Nat) - mP/\
(↑nv:Int)=(↑mP:Int)+(1:Int)/\
[b]=[b]/\
(0:Nat)=(0:Nat)/\
(↑y3.length:Int)=(↑y3.length:Int)/\jr r (kf r nv)=jr r cy/\y3=y3/\True))/\
(aB=false->true=ot b r/\True))))):=by kernel_rfl
theorem aj5 (b:av) (r:af) (h:ko r) (hz:r.2.2.2.2.2.2.1.length<=aM):ah (aj aA [(246,K6)]) Tryz.f196 Lq (a196 (b,r,())) (b,r,()):=by
 rw[v196,UH]
 obtain⟨l1,l2,l3⟩:=h
 refine U.mk fun y2 e2=>U.mk fun y3 e3=> ?_
 have e3:y3=[r.2.2.2.2.1,r.2.2.2.2.2.1]:=e3
 subst e3
 rw[F3 _ 0 0 rfl] at e2
 rw[<-e2]
 simp only[dp,true_and,and_true,eq_self]
 refine⟨fun h=>by rw[h];rfl,fun h=>⟨⟨0,⟨by omega,rfl⟩,by omega,rfl⟩,fun s=>U.mk fun y5 e5=>U.mk fun y6 e6=>U.mk fun y7 e7=> ?_⟩⟩
 rw[h]
 rintro⟨h1,h2⟩
 rw[Int.toNat_natCast] at e6
 have e6:y6=(gh r.2.2.2.1 s).1:=e6
 refine⟨fun h5=> ?_,fun h5=> ?_⟩
 ·have hs:=aZ e5 h5
  have h7:qC b r s= !y7:=by
   rw[e7,Fj r (by omega),e6]
   unfold qC
   cases ET b (gh r.2.2.2.1 s).1<;>rfl
  refine⟨⟨by omega,by omega⟩,fun hy=> ?_,fun hy=>⟨aY (by omega) (by omega),s+1,⟨by omega,ff h2 (by rw[h7,hy];rfl)⟩,by omega,by omega,?_⟩⟩
  ·rw[fX hs (by rw[h7,hy];rfl)]
   rfl
  ·rw[e6]
   refine QT r hs ?_
   rw[hy] at h7
   unfold qC at h7
   have h7:(ET b (gh r.2.2.2.1 s).1&& !cj (fun j=>(gh r.2.2.2.1 j).1==(gh r.2.2.2.1 s).1) s)=true:=h7
   rw[Bool.and_eq_true] at h7
   simpa using h7.2
 ·have hs:=bt e5 h5
  have:s=r.2.2.2.1.length:=by omega
  subst this
  rw[h2]
  refine⟨⟨0,⟨by omega,by simp⟩,by omega⟩,fun t=>U.mk fun y9 e9=>U.mk fun bu dy=>U.mk fun bH eK=> ?_⟩
  rintro⟨h3,h4⟩
  rw[Int.toNat_natCast] at dy
  refine⟨fun h9=> ?_,fun h9=> ?_⟩
  ·have ht:=aZ e9 h9
   have mG:sA b r (r.2.2.2.2.2.2.1.getD t 0)= !bH:=by
    rw[<-dy,eK,Fj r (Nat.le_refl _)]
    unfold sA
    rw[Sn]
    cases ET b bu<;>rfl
   refine⟨⟨by omega,by omega⟩,fun hy=> ?_,fun hy=>⟨dw ht hz,t+1,⟨by omega,all_succ 0 ht h4 (by rw[mG,hy];rfl)⟩,by omega,by omega⟩⟩
   ·rw[mM (s:=t) 0 ht (by rw[mG,hy];rfl)]
    rfl
  ·have ht:=bt e9 h9
   rw[jG ht h4]
   refine⟨⟨0,⟨by omega,rfl⟩,by omega,rfl⟩,fun j=>U.mk fun aB gE=>U.mk fun cL j5=>U.mk fun bC iJ=> ?_⟩
   rintro⟨h5,h6⟩
   rw[Int.toNat_natCast] at j5 iJ
   rw[Int.toNat_natCast]
   refine⟨fun kP=> ?_,fun kP=> ?_⟩
   ·have hj:j<2:=aZ (b:=2) gE kP
    rw[OR r hj] at iJ
    have aof:cL=bC.length:=by rw[j5,iJ]
    have hlen:bC.length<=1000:=by
     rw[iJ]
     rcases(by omega:j=0\/j=1) with rfl|rfl
     ·exact l2
     ·exact l3
    refine⟨⟨by omega,by show(j:Int)<2;omega⟩,⟨0,⟨by omega,h6⟩,by omega,rfl⟩,fun i=>U.mk fun cy jF=>U.mk fun dN oh=>U.mk fun fw mH=>U.mk fun du og=>U.mk fun eL rr=> ?_⟩
    rintro⟨h7,h8⟩
    rw[Int.toNat_natCast] at mH
    refine⟨fun zG=> ?_,fun zG=> ?_⟩
    ·have hi:=aZ oh zG
     have hn:eX r cy=fw:=by rw[jF,mH,iJ];exact O6 r hj (by rw[<-iJ];exact hi)
     have dQ:cy<r.2.2.2.2.1.length+r.2.2.2.2.2.1.length:=by
      have:=Th r hj (i:=i) (by rw[<-iJ];exact hi)
      rw[AM] at this
      omega
     have PR:l8 b r cy= !eL:=by
      have hc:=O5 h8
      rw[hn] at hc
      rw[rr,og,hc]
      unfold l8
      rw[hn]
      cases ET b fw.1<;>cases hx:(fw.2==1)<;>cases hz:(fw.2==2)<;>simp[hx,hz,bne]
     refine⟨⟨by omega,by omega⟩,fun hy=> ?_,fun hy=>⟨aY (by omega) (by omega),i+1,⟨by omega,?_⟩,by omega,by omega,?_⟩⟩
     ·rw[fX dQ (by rw[PR,hy];rfl)]
      rfl
     ·rw[<-Nat.add_assoc,<-jF]
      exact ff h8 (by rw[PR,hy];rfl)
     ·rw[<-Nat.add_assoc,<-jF,<-hn]
      rfl
    ·have hi:=bt oh zG
     have ho:kf r (j+1)=cy:=by rw[Kr r hj,jF,<-iJ];omega
     exact⟨aY (by omega) (by omega),j+1,⟨by omega,by rw[ho];exact h8⟩,by omega,by omega,by rw[ho]⟩
   ·have hj:2<=j:=bt (b:=2) gE kP
    have:j=2:=by omega
    subst this
    rw[O0] at h6
    rw[h6]
    rfl
theorem acV:aN Tryz.prog 196 Lq:=
 aN.b3 (l:=[(246,K6)]) (A:=a196) aJ ⟨acy,trivial⟩ Tryz.func196 (by kernel_rfl) (by kernel_rfl) fun x hw hp=>aj5 x.1 x.2.1 hp hw.2.1.2.2.2.2.2.2.1.1
theorem Kz (e:Int) (l:List (Int×List Int)) (x:Int×List Int):eF e (l++[x])=eF e l++(bif bN x.2 e then[x.1] else[]):=by
 unfold eF
 rw[List.filter_append,List.map_append]
 congr 1
 cases h:bN x.2 e<;>simp[h]
theorem keys_perm (e:Int) {l m:List (Int×List Int)} (h:l.Perm m):(eF e l).Perm (eF e m):=(h.filter _).map _
theorem Ky {b:av} {e:Int} (h:pd b e) {todo done:List (Int×List Int)} (hp:mJ b.2.2.1 (todo,done)):(eF e done).length<=1000:=by
 have h1:b.2.2.1.Perm (done++todo):=hp
 have h1:=h1.length_eq
 have h:b.2.2.1.length<=1000:=h
 rw[List.length_append] at h1
 have:(eF e done).length<=done.length:=by unfold eF;rw[List.length_map];exact List.length_filter_le _ _
 omega
theorem af2 (b:av) (e:Int):ah (aj aA [(74,Ce),(61,c61)]) Tryz.f30 YN (a30 (b,e,())) (b,e,())=(
(∃(dr:List (Int×List Int)×List (Int×List Int)),mJ b.2.2.1 dr/\[b]=[b]/\(0:Nat)=(0:Nat)/\e=e/\dr.1=b.2.2.1/\eF e dr.2=[]/\True)/\
∀(s2:List (Int×List Int)×List (Int×List Int)),
mJ b.2.2.1 s2->
(s2.1=[]->(false=true->False)/\(false=false->(eF e s2.2).length<=(1000000:Nat)/\ob (eF e s2.2) (eF e s2.2).length=lB b e/\True))/\
∀(x3:Int×List Int),
U ((List.replicate (1:Nat) (0:Int)).set (0:Nat) x3.1) fun(y4:List Int)=>
∀(QZ:List (Int×List Int)),
s2.1.Perm (x3::QZ)->
(true=true->
True/\
(bN x3.2 e=true->
roomFor ((eF e s2.2).length+y4.length) (8:Nat)/\
∃(eV:List (Int×List Int)×List (Int×List Int)),
mJ b.2.2.1 eV/\
eV.1.length<s2.1.length/\[b]=[b]/\(0:Nat)=(0:Nat)/\e=e/\eV.1=QZ/\eF e eV.2=eF e s2.2++y4/\True)/\
(bN x3.2 e=false->
∃(eV:List (Int×List Int)×List (Int×List Int)),
mJ b.2.2.1 eV/\eV.1.length<s2.1.length/\[b]=[b]/\(0:Nat)=(0:Nat)/\e=e/\eV.1=QZ/\eF e eV.2=eF e s2.2/\True))/\
(true=false->(eF e s2.2).length<=(1000000:Nat)/\ob (eF e s2.2) (eF e s2.2).length=lB b e/\True)):=by kernel_rfl
theorem ajC (b:av) (e:Int) (h:pd b e):ah (aj aA [(74,Ce),(61,c61)]) Tryz.f30 YN (a30 (b,e,())) (b,e,()):=by
 rw[af2]
 simp only[true_and,and_true,eq_self]
 have stop:∀s:List (Int×List Int)×List (Int×List Int),mJ b.2.2.1 s->s.1=[]->(eF e s.2).length<=1000000/\ob (eF e s.2) (eF e s.2).length=lB b e:=fun s hs h0=>by
  refine⟨by have:=Ky h (todo:=s.1) (done:=s.2) hs;omega,?_⟩
  unfold lB
  have hs:b.2.2.1.Perm (s.2++s.1):=hs
  rw[h0,List.append_nil] at hs
  exact(Ou (keys_perm e hs)).symm
 refine⟨⟨(b.2.2.1,[]),.refl _,rfl,rfl⟩,fun s hs=>⟨fun h0=>⟨fun h=>Bool.noConfusion h,fun _=>stop s hs h0⟩,fun x=>U.mk fun y4 e4=>fun rest hp=>⟨fun _=>⟨fun hm=> ?_,fun hm=> ?_⟩,fun h=>Bool.noConfusion h⟩⟩⟩
 all_goals
  have nI:mJ b.2.2.1 (rest,s.2++[x]):=by
   have hs:b.2.2.1.Perm (s.2++s.1):=hs
   show b.2.2.1.Perm (s.2++[x]++rest)
   rw[List.append_assoc]
   exact hs.trans (hp.append_left s.2)
 ·refine⟨cT ?_ (by omega),(rest,s.2++[x]),nI,?_,rfl,?_⟩
  ·have:=Ky h (todo:=s.1) (done:=s.2) hs
   rw[e4]
   show _+1<=_
   omega
  ·rw[hp.length_eq]
   exact Nat.lt_succ_self _
  ·rw[Kz,hm,e4]
   rfl
 ·refine⟨(rest,s.2++[x]),nI,?_,rfl,?_⟩
  ·rw[hp.length_eq]
   exact Nat.lt_succ_self _
  ·rw[Kz,hm]
   exact List.append_nil _
theorem aco:aN Tryz.prog 30 YN:=
 aN.b3 (l:=[(74,Ce),(61,c61)]) (A:=a30) aJ ⟨Te,ahA,trivial⟩ Tryz.func30 (by kernel_rfl) (by kernel_rfl) fun x hw hp=>ajC x.1 x.2.1 hp
theorem ahQ:aN Tryz.prog 30 c30:=aco.asData
theorem xP {b:av} {e:Int} (h:pH b e) {l:List (Int×List ba)} (hl:∀x∈l,x∈b.2.2.2.1) {x:Int×List ba} (hx:x∈l) {u:ba} (hu:mc b x.1 e=some u):gd b e l=u.2:=by
 unfold gd
 cases hf:l.find? (holds b e) with
 |none=>
  have:=List.find?_eq_none.1 hf x hx
  unfold holds at this
  rw[hu] at this
  simp at this
 |some y=>
  have hy:=List.find?_some hf
  unfold holds at hy
  cases hv:mc b y.1 e with
  |none=>rw[hv] at hy;cases hy
  |some v=>
   show((mc b y.1 e).getD (0,0)).2=_
   rw[hv]
   exact h y (hl y (List.mem_of_find?_eq_some hf)) x (hl x hx) v u hv hu
theorem Ij {b:av} {e:Int} {l:List (Int×List ba)} (h:∀x∈l,holds b e x=false):gd b e l=0:=by
 unfold gd
 rw[List.find?_eq_none.2 fun x hx=>by rw[h x hx];simp]
theorem Sa {b:av} {e:Int} (h:pH b e) {l m:List (Int×List ba)} (hp:l.Perm m) (hm:∀x∈m,x∈b.2.2.2.1):gd b e l=gd b e m:=by
 cases hf:m.find? (holds b e) with
 |none=>
  have h0:∀x∈m,holds b e x=false:=fun x hx=>by simpa using List.find?_eq_none.1 hf x hx
  rw[Ij h0,Ij fun x hx=>h0 x (hp.mem_iff.1 hx)]
 |some y=>
  have hy:=List.find?_some hf
  have my:=List.mem_of_find?_eq_some hf
  unfold holds at hy
  cases hv:mc b y.1 e with
  |none=>rw[hv] at hy;cases hy
  |some v=>rw[xP h hm my hv,xP h (fun x hx=>hm x (hp.mem_iff.1 hx)) (hp.mem_iff.2 my) hv]
theorem Vl {b:av} {e:Int} {l:List (Int×List ba)} {x:Int×List ba} (hx:holds b e x=false):gd b e (l++[x])=gd b e l:=by
 unfold gd
 rw[List.find?_append]
 cases l.find? (holds b e) with
 |some y=>rfl
 |none=>simp[hx]
theorem v33 (b:av) (e:Int):ah (aj aA [(76,Cd)]) Tryz.f33 NQ (a33 (b,e,())) (b,e,())=(
(∃(dr:List (Int×List ba)×List (Int×List ba)),
mJ b.2.2.2.1 dr/\
gd b e dr.2=(0:Int)/\(↑(List.filter (holds b e) dr.2).length:Int)=(0:Int)/\[b]=[b]/\(0:Nat)=(0:Nat)/\e=e/\dr.1=b.2.2.2.1/\True)/\
∀(s2:List (Int×List ba)×List (Int×List ba)),
U ((↑(List.filter (holds b e) s2.2).length:Int)+(1:Int)) fun(y3:Int)=>
mJ b.2.2.2.1 s2->
(s2.1=[]->(false=true->False)/\(false=false->gd b e s2.2=(lK b e).1/\(↑(List.filter (holds b e) s2.2).length:Int)=(lK b e).2/\True))/\
∀(x4:Int×List (Int×Int)),
U ((aW I b.2.2.2.1 x4.1).getD []) fun(y5:List (Int×Int))=>
U ((aW I b.2.2.2.2 x4.1).getD []) fun(y6:List (Int×Int))=>
∀(BF:List (Int×List (Int×Int))),
s2.1.Perm (x4::BF)->
(true=true->
cR y5/\
roomFor (y5.length+y6.length) (16:Nat)/\
(∃(mQ:Nat),
(mQ<=(lZ b x4.1).length/\((List.take mQ (lZ b x4.1)).any fun(n:ba)=>n.1==e)=false)/\
(↑mQ:Int)=(0:Int)/\
[b]=[b]/\
(0:Nat)=(0:Nat)/\
e=e/\
gd b e s2.2=gd b e s2.2/\
(↑(List.filter (holds b e) s2.2).length:Int)=(↑(List.filter (holds b e) s2.2).length:Int)/\
x4.1=x4.1/\(↑(y5++y6).length:Int)=(↑(y5++y6).length:Int)/\BF=BF/\y5++y6=y5++y6/\True)/\
∀(s8:Nat),
U (decide ((↑s8:Int)<(↑(y5++y6).length:Int))) fun(y9:Bool)=>
U ((y5++y6).getD (↑s8:Int).toNat ((0:Int),(0:Int))) fun(bu:Int×Int)=>
s8<=(lZ b x4.1).length/\((List.take s8 (lZ b x4.1)).any fun(n:ba)=>n.1==e)=false->
(y9=true->
aL (↑s8:Int) (y5++y6).length/\
((bu.1==e)=true->
bo IntKind.i64 y3/\
∃(jI:List (Int×List ba)×List (Int×List ba)),
mJ b.2.2.2.1 jI/\
jI.1.length<s2.1.length/\
gd b e jI.2=bu.2/\
(↑(List.filter (holds b e) jI.2).length:Int)=y3/\[b]=[b]/\(0:Nat)=(0:Nat)/\e=e/\jI.1=BF/\True)/\
((bu.1==e)=false->
bo IntKind.i64 ((↑s8:Int)+(1:Int))/\
∃(jI:Nat),
(jI<=(lZ b x4.1).length/\((List.take jI (lZ b x4.1)).any fun(n:ba)=>n.1==e)=false)/\
(lZ b x4.1).length - jI<(lZ b x4.1).length - s8/\
(↑jI:Int)=(↑s8:Int)+(1:Int)/\
[b]=[b]/\
(0:Nat)=(0:Nat)/\
e=e/\
gd b e s2.2=gd b e s2.2/\
(↑(List.filter (holds b e) s2.2).length:Int)=(↑(List.filter (holds b e) s2.2).length:Int)/\
x4.1=x4.1/\(↑(y5++y6).length:Int)=(↑(y5++y6).length:Int)/\BF=BF/\y5++y6=y5++y6/\True))/\
(y9=false->
∃(jI:List (Int×List ba)×List (Int×List ba)),
mJ b.2.2.2.1 jI/\
jI.1.length<s2.1.length/\
gd b e jI.2=gd b e s2.2/\
(↑(List.filter (holds b e) jI.2).length:Int)=(↑(List.filter (holds b e) s2.2).length:Int)/\
[b]=[b]/\(0:Nat)=(0:Nat)/\e=e/\jI.1=BF/\True))/\
(true=false->gd b e s2.2=(lK b e).1/\(↑(List.filter (holds b e) s2.2).length:Int)=(lK b e).2/\True)):=by kernel_rfl
theorem b33 (b:av) (e:Int) (hsm:gz b) (h:pH b e):ah (aj aA [(76,Cd)]) Tryz.f33 NQ (a33 (b,e,())) (b,e,()):=by
 rw[v33]
 simp only[true_and,and_true,eq_self]
 have hF1:(lK b e).1=gd b e b.2.2.2.1:=by unfold lK;rfl
 have hF2:(lK b e).2=((b.2.2.2.1.filter (holds b e)).length:Int):=by unfold lK;rfl
 have sub:∀s:List (Int×List ba)×List (Int×List ba),mJ b.2.2.2.1 s->∀x∈s.2++s.1,x∈b.2.2.2.1:=fun s hs x hx=>(show b.2.2.2.1.Perm (s.2++s.1) from hs).mem_iff.2 hx
 have stop:∀s:List (Int×List ba)×List (Int×List ba),mJ b.2.2.2.1 s->s.1=[]->gd b e s.2=(lK b e).1/\((s.2.filter (holds b e)).length:Int)=(lK b e).2:=fun s hs h0=>by
  have hp:b.2.2.2.1.Perm (s.2++s.1):=hs
  rw[h0,List.append_nil] at hp
  rw[hF1,hF2]
  refine⟨Sa h hp.symm fun x hx=>hx,?_⟩
  rw[(hp.filter (holds b e)).length_eq]
 refine⟨⟨(b.2.2.2.1,[]),.refl _,rfl,rfl,rfl⟩,fun s=>U.mk fun y3 e3=>fun hs=>⟨fun h0=>⟨fun h=>Bool.noConfusion h,fun _=>stop s hs h0⟩,fun x=>U.mk fun y5 e5=>U.mk fun y6 e6=>fun rest hp=>⟨fun _=> ?_,fun h=>Bool.noConfusion h⟩⟩⟩
 have l5:y5.length<=1000:=by rw[e5];exact qS hsm.sV x.1
 have l6:y6.length<=1000:=by rw[e6];exact qS hsm.guards x.1
 have hN:lZ b x.1=y5++y6:=by rw[e5,e6];rfl
 have hlen:(y5++y6).length=y5.length+y6.length:=List.length_append
 have PC:b.2.2.2.1.Perm (s.2++s.1):=hs
 have nI:mJ b.2.2.2.1 (rest,s.2++[x]):=by
  show b.2.2.2.1.Perm (s.2++[x]++rest)
  rw[List.append_assoc]
  exact PC.trans (hp.append_left s.2)
 have dQ:rest.length<s.1.length:=by rw[hp.length_eq];exact Nat.lt_succ_self _
 have hfl:(s.2.filter (holds b e)).length<=1000:=by
  have h1:=List.length_filter_le (holds b e) s.2
  have h2:=PC.length_eq
  rw[List.length_append] at h2
  have:=hsm.vz.2.2
  omega
 rw[hN]
 refine⟨l5,cT (by omega) (by omega),⟨0,⟨by omega,by simp⟩,by omega⟩,fun k=>U.mk fun y9 e9=>U.mk fun bu dy=> ?_⟩
 rintro⟨h1,h2⟩
 rw[Int.toNat_natCast] at dy
 refine⟨fun hk=> ?_,fun hk=> ?_⟩
 ·have hk:=aZ e9 hk
  refine⟨⟨by omega,by omega⟩,fun hy=>⟨by rw[e3];exact aY (by omega) (by omega),(rest,s.2++[x]),nI,dQ,?_,?_,rfl⟩,fun hy=>⟨aY (by omega) (by omega),k+1,⟨by omega,any_succ (0,0) hk h2 (by rw[<-dy];exact hy)⟩,by omega,by omega⟩⟩
  all_goals
   have hh:mc b x.1 e=some bu:=by
    unfold mc
    rw[hN,dy]
    exact Dk (0,0) hk h2 (by rw[<-dy];exact hy)
  ·exact xP h (fun z hz=>sub _ nI z (List.mem_append_left _ hz)) (List.mem_append_right _ (List.mem_singleton.2 rfl)) hh
  ·have:holds b e x=true:=by unfold holds;rw[hh];rfl
   rw[e3,List.filter_append,List.length_append]
   simp[this]
 ·have hk:=bt e9 hk
  have hh:mc b x.1 e=none:=by
   unfold mc
   rw[hN]
   exact xU hk h2
  have hx:holds b e x=false:=by unfold holds;rw[hh];rfl
  refine⟨(rest,s.2++[x]),nI,dQ,Vl hx,?_,rfl⟩
  rw[List.filter_append,List.length_append]
  simp[hx]
theorem abr:aN Tryz.prog 33 NQ:=
 aN.b3 (l:=[(76,Cd)]) (A:=a33) aJ ⟨OY,trivial⟩ Tryz.func33 (by kernel_rfl) (by kernel_rfl) fun x hw hp=>b33 x.1 x.2.1 hp.1 hp.2
theorem Xq (b:av) (o:Int) (r:af):jE b o r=bif decide (o<0)||(iD b o|| !ot b r) then 1 else bif r.2.2.2.1.any (k8 b) then 14 else bif r.2.2.2.2.2.2.1.any (fun e=>decide (0<=fT b e)) then 14 else
  bif(aR r).any (ln b) then 15 else 0:=by unfold jE;rfl
theorem ag3 (b:av) (o:Int) (r:af):ah (aj aA [(28,Gw),(196,Lq),(29,JT),(30,c30),(33,NQ)]) Tryz.f121 DJ (Zl (b,o,r,())) (b,o,r,())=(
U (bif decide (o<(0:Int)) then true else iD b o) fun(y3:Bool)=>
U (bif y3 then true else !ot b r) fun(y4:Bool)=>
U (((List.replicate (2:Nat) ([]:List (Int×Int))).set (0:Nat) r.2.2.2.2.1).set (1:Nat) r.2.2.2.2.2.1) fun(y5:List (List (Int×Int)))=>
(decide (o<(0:Int))=false->gz b)/\
(y3=false->ko r)/\
(y4=true->(1:Int)=jE b o r/\True)/\
(y4=false->
(∃(gG:Nat),
(gG<=r.2.2.2.1.length/\(List.take gG r.2.2.2.1).any (k8 b)=false)/\
(↑gG:Int)=(0:Int)/\
[b]=[b]/\
(0:Nat)=(0:Nat)/\
r.2.2.2.1=r.2.2.2.1/\
(↑r.2.2.2.1.length:Int)=(↑r.2.2.2.1.length:Int)/\
ay r (True))/\
∀(s6:Nat),
U (decide ((↑s6:Int)<(↑r.2.2.2.1.length:Int))) fun(y7:Bool)=>
U (r.2.2.2.1.getD (↑s6:Int).toNat ((0:Int),(0:Int),(0:Int))).1 fun(y8:Int)=>
U (decide (fT b y8>=(0:Int))) fun(y9:Bool)=>
U (bif y9 then true else decide ((↑(lB b y8).length:Int)>(0:Int))) fun(bu:Bool)=>
s6<=r.2.2.2.1.length/\(List.take s6 r.2.2.2.1).any (k8 b)=false->
(y7=true->
aL (↑s6:Int) r.2.2.2.1.length/\
o4 b y8/\
(y9=false->pd b y8)/\
(bu=true->(14:Int)=jE b o r/\True)/\
(bu=false->
bo IntKind.i64 ((↑s6:Int)+(1:Int))/\
∃(jI:Nat),
(jI<=r.2.2.2.1.length/\(List.take jI r.2.2.2.1).any (k8 b)=false)/\
r.2.2.2.1.length - jI<r.2.2.2.1.length - s6/\
(↑jI:Int)=(↑s6:Int)+(1:Int)/\
[b]=[b]/\
(0:Nat)=(0:Nat)/\
r.2.2.2.1=r.2.2.2.1/\
(↑r.2.2.2.1.length:Int)=(↑r.2.2.2.1.length:Int)/\
ay r (True)))/\
(y7=false->
(∃(sE:Nat),
(sE<=r.2.2.2.2.2.2.1.length/\((List.take sE r.2.2.2.2.2.2.1).any fun(e:Int)=>decide ((0:Int)<=fT b e))=false)/\
(↑sE:Int)=(0:Int)/\
[b]=[b]/\
(0:Nat)=(0:Nat)/\
r.2.2.2.2.2.2.1=r.2.2.2.2.2.2.1/\
(↑r.2.2.2.2.2.2.1.length:Int)=(↑r.2.2.2.2.2.2.1.length:Int)/\
ay r (True))/\
∀(ki:Nat),
U (decide ((↑ki:Int)<(↑r.2.2.2.2.2.2.1.length:Int))) fun(aw:Bool)=>
U (r.2.2.2.2.2.2.1.getD (↑ki:Int).toNat (0:Int)) fun(aB:Int)=>
U (decide (fT b aB>=(0:Int))) fun(cL:Bool)=>
ki<=r.2.2.2.2.2.2.1.length/\((List.take ki r.2.2.2.2.2.2.1).any fun(e:Int)=>decide ((0:Int)<=fT b e))=false->
(aw=true->
aL (↑ki:Int) r.2.2.2.2.2.2.1.length/\
o4 b aB/\
(cL=true->(14:Int)=jE b o r/\True)/\
(cL=false->
bo IntKind.i64 ((↑ki:Int)+(1:Int))/\
∃(lg:Nat),
(lg<=r.2.2.2.2.2.2.1.length/\
((List.take lg r.2.2.2.2.2.2.1).any fun(e:Int)=>decide ((0:Int)<=fT b e))=false)/\
r.2.2.2.2.2.2.1.length - lg<r.2.2.2.2.2.2.1.length - ki/\
(↑lg:Int)=(↑ki:Int)+(1:Int)/\
[b]=[b]/\
(0:Nat)=(0:Nat)/\
r.2.2.2.2.2.2.1=r.2.2.2.2.2.2.1/\
(↑r.2.2.2.2.2.2.1.length:Int)=(↑r.2.2.2.2.2.2.1.length:Int)/\
ay r (True)))/\
(aw=false->
(∃(mR:Nat),
(mR<=(2:Nat)/\(List.take (kf r mR) (aR r)).any (ln b)=false)/\
(↑mR:Int)=(0:Int)/\[b]=[b]/\(0:Nat)=(0:Nat)/\(↑y5.length:Int)=(↑y5.length:Int)/\y5=y5/\True)/\
∀(eM:Nat),
U (decide ((↑eM:Int)<(↑y5.length:Int))) fun(cC:Bool)=>
U (uP r (↑eM:Int).toNat).length fun(cy:Nat)=>
U (y5.getD (↑eM:Int).toNat []) fun(dN:List (Int×Int))=>
eM<=(2:Nat)/\(List.take (kf r eM) (aR r)).any (ln b)=false->
(cC=true->
aL (↑eM:Int) y5.length/\
(∃(yg:Nat),
(yg<=cy/\(List.take (kf r (↑eM:Int).toNat+yg) (aR r)).any (ln b)=false)/\
(↑yg:Int)=(0:Int)/\
[b]=[b]/\
(0:Nat)=(0:Nat)/\
(↑y5.length:Int)=(↑y5.length:Int)/\
(↑eM:Int)=(↑eM:Int)/\dN=dN/\(↑dN.length:Int)=(↑dN.length:Int)/\y5=y5/\True)/\
∀(jo:Nat),
U (decide ((↑jo:Int)<(↑dN.length:Int))) fun(du:Bool)=>
U (dN.getD (↑jo:Int).toNat ((0:Int),(0:Int))) fun(eL:Int×Int)=>
U (bif(lK b eL.1).1 !=(0:Int) then(lK b eL.1).1 !=eL.2 else false) fun(dt:Bool)=>
jo<=cy/\(List.take (kf r (↑eM:Int).toNat+jo) (aR r)).any (ln b)=false->
(du=true->
aL (↑jo:Int) dN.length/\
(gz b/\pH b eL.1)/\
(dt=true->(15:Int)=jE b o r/\True)/\
(dt=false->
bo IntKind.i64 ((↑jo:Int)+(1:Int))/\
∃(vt:Nat),
(vt<=cy/\(List.take (kf r (↑eM:Int).toNat+vt) (aR r)).any (ln b)=false)/\
cy - vt<cy - jo/\
(↑vt:Int)=(↑jo:Int)+(1:Int)/\
[b]=[b]/\
(0:Nat)=(0:Nat)/\
(↑y5.length:Int)=(↑y5.length:Int)/\
(↑eM:Int)=(↑eM:Int)/\
dN=dN/\(↑dN.length:Int)=(↑dN.length:Int)/\y5=y5/\True))/\
(du=false->
bo IntKind.i64 ((↑eM:Int)+(1:Int))/\
∃(vt:Nat),
(vt<=(2:Nat)/\(List.take (kf r vt) (aR r)).any (ln b)=false)/\
(2:Nat) - vt<(2:Nat) - eM/\
(↑vt:Int)=(↑eM:Int)+(1:Int)/\
[b]=[b]/\(0:Nat)=(0:Nat)/\(↑y5.length:Int)=(↑y5.length:Int)/\y5=y5/\True))/\
(cC=false->(0:Int)=jE b o r/\True))))):=by kernel_rfl
theorem akt (b:av) (o:Int) (r:af) (hb:pV b) (h:ko r) (hz:r.2.2.2.2.2.2.1.length<=aM):ah (aj aA [(28,Gw),(196,Lq),(29,JT),(30,c30),(33,NQ)]) Tryz.f121 DJ (Zl (b,o,r,())) (b,o,r,()):=by
 rw[ag3,Xq]
 have hr:=h
 obtain⟨l1,l2,l3⟩:=h
 refine U.mk fun y3 e3=>U.mk fun y4 e4=>U.mk fun y5 e5=> ?_
 have e5:y5=[r.2.2.2.2.1,r.2.2.2.2.2.1]:=e5
 subst e5
 have e4:(decide (o<0)||(iD b o|| !ot b r))=y4:=by
  rw[e4,e3]
  cases decide (o<0)<;>cases iD b o<;>rfl
 rw[e4]
 simp only[dp,true_and,and_true,eq_self]
 refine⟨fun _=>hb.small,fun _=>hr,fun h4=>by rw[h4];rfl,fun h4=>⟨⟨0,⟨by omega,by simp⟩,by omega⟩,fun s=>U.mk fun y7 e7=>U.mk fun y8 e8=>U.mk fun y9 e9=>U.mk fun bu dy=> ?_⟩⟩
 rw[h4]
 rintro⟨h1,h2⟩
 rw[Int.toNat_natCast] at e8
 have e8:y8=(r.2.2.2.1.getD s iC).1:=e8
 refine⟨fun hs=> ?_,fun hs=> ?_⟩
 ·have hs:=aZ e7 hs
  have lp:k8 b (r.2.2.2.1.getD s iC)=bu:=by
   rw[dy,e9,e8]
   unfold k8
   show(decide (0<=fT b (r.2.2.2.1.getD s iC).1)||decide (0<(lB b (r.2.2.2.1.getD s iC).1).length))=(bif decide (0<=fT b (r.2.2.2.1.getD s iC).1) then true else decide ((0:Int)<((lB b (r.2.2.2.1.getD s iC).1).length:Int)))
   rw[show decide ((0:Int)<((lB b (r.2.2.2.1.getD s iC).1).length:Int))=decide (0<(lB b (r.2.2.2.1.getD s iC).1).length) from decide_eq_decide.2 (by omega)]
   cases decide (0<=fT b (r.2.2.2.1.getD s iC).1)<;>rfl
  refine⟨⟨by omega,by omega⟩,hb.vz _,fun _=>hb.Sh _,fun hy=> ?_,fun hy=>⟨aY (by omega) (by omega),s+1,⟨by omega,any_succ iC hs h2 (by rw[lp];exact hy)⟩,by omega,by omega⟩⟩
  rw[nZ (s:=s) iC hs (by rw[lp];exact hy)]
  rfl
 ·have hs:=bt e7 hs
  rw[lU hs h2]
  refine⟨⟨0,⟨by omega,by simp⟩,by omega⟩,fun t=>U.mk fun aw dW=>U.mk fun aB gE=>U.mk fun cL j5=> ?_⟩
  rintro⟨h3,h5⟩
  rw[Int.toNat_natCast] at gE
  refine⟨fun ht=> ?_,fun ht=> ?_⟩
  ·have ht:=aZ dW ht
   have qW:decide (0<=fT b (r.2.2.2.2.2.2.1.getD t 0))=cL:=by rw[j5,gE]
   refine⟨⟨by omega,by omega⟩,hb.vz _,fun hy=> ?_,fun hy=>⟨dw ht hz,t+1,⟨by omega,any_succ 0 ht h5 (by rw[qW];exact hy)⟩,by omega,by omega⟩⟩
   rw[nZ (s:=t) 0 ht (by rw[qW];exact hy)]
   rfl
  ·have ht:=bt dW ht
   rw[lU ht h5]
   refine⟨⟨0,⟨by omega,by rfl⟩,by omega⟩,fun j=>U.mk fun cC k7=>U.mk fun cy jF=>U.mk fun dN oh=> ?_⟩
   rintro⟨h6,h7⟩
   rw[Int.toNat_natCast] at jF oh
   rw[Int.toNat_natCast]
   refine⟨fun rR=> ?_,fun rR=> ?_⟩
   ·have hj:j<2:=aZ (b:=2) k7 rR
    rw[OR r hj] at oh
    have aoe:cy=dN.length:=by rw[jF,oh]
    have hlen:dN.length<=1000:=by
     rw[oh]
     rcases(by omega:j=0\/j=1) with rfl|rfl
     ·exact l2
     ·exact l3
    refine⟨⟨by omega,by show(j:Int)<2;omega⟩,⟨0,⟨by omega,h7⟩,by omega⟩,fun i=>U.mk fun du og=>U.mk fun eL rr=>U.mk fun dt q9=> ?_⟩
    rintro⟨h8,h9⟩
    rw[Int.toNat_natCast] at rr
    refine⟨fun Dh=> ?_,fun Dh=> ?_⟩
    ·have hi:=aZ og Dh
     have dQ:=Th r hj (i:=i) (by rw[<-oh];exact hi)
     have hn:(aR r).getD (kf r j+i) (0,0)=eL:=by rw[rr,oh];exact O6 r hj (by rw[<-oh];exact hi)
     have B4:ln b ((aR r).getD (kf r j+i) (0,0))=dt:=by
      rw[hn,q9]
      unfold ln
      cases hx:((lK b eL.1).1==0)<;>cases hz:((lK b eL.1).1==eL.2)<;>simp[hx,hz,bne]
     refine⟨⟨by omega,by omega⟩,⟨hb.small,hb.held _⟩,fun hy=> ?_,fun hy=>⟨aY (by omega) (by omega),i+1,⟨by omega,?_⟩,by omega,by omega⟩⟩
     ·rw[nZ (s:=kf r j+i) (0,0) dQ (by rw[B4];exact hy)]
      rfl
     ·rw[<-Nat.add_assoc]
      exact any_succ (0,0) dQ h9 (by rw[B4];exact hy)
    ·have hi:=bt og Dh
     have ho:kf r (j+1)=kf r j+i:=by rw[Kr r hj,<-oh];omega
     exact⟨aY (by omega) (by omega),j+1,⟨by omega,by rw[ho];exact h9⟩,by omega,by omega⟩
   ·have hj:2<=j:=bt (b:=2) k7 rR
    have:j=2:=by omega
    subst this
    rw[O0] at h7
    rw[lU (by rw[AM];omega) h7]
    rfl
theorem Xh:aN Tryz.prog 121 DJ:=
 aN.b3 (l:=[(28,Gw),(196,Lq),(29,JT),(30,c30),(33,NQ)]) (A:=Zl) aJ ⟨W3,acV,abt,ahQ,abr,trivial⟩ Tryz.func121 (by kernel_rfl) (by kernel_rfl) fun x hw hp=>akt x.1 x.2.1 x.2.2.1 hp.1 hp.2 hw.2.2.1.2.2.2.2.2.2.1.1
theorem VO (r:af):oR r r.2.2.2.1.length=cw r:=by
 unfold oR cw
 rw[List.take_length]
theorem v71 (b:av) (o:Int) (r:af):bS (aj aA [(121,DJ),(59,TL),(76,TK)]) Tryz.f71 VX (a71 (b,o,r,())) (b,o,r,())=(
U (jE b o r !=(0:Int)) fun(y3:Bool)=>
U (oq b o r).2.1 fun(y4:List (Int×List Int))=>
U (oq b o r).2.2 fun(y5:List (Int×List Int)×List (Int×List (Int×Int))×List (Int×List (Int×Int)))=>
(pV b/\ko r)/\
(y3=true->
jE b o r=jE b o r/\b.1=(oq b o r).1/\b.2.1.Perm y4/\b.2.2.1.Perm y5.1/\b.2.2.2.1.Perm y5.2.1/\b.2.2.2.2.Perm y5.2.2/\True)/\
(y3=false->
(∃(gG:Nat),
gG<=r.2.2.2.1.length/\
(↑gG:Int)=(0:Int)/\
o=o/\
r.2.2.2.1=r.2.2.2.1/\
(↑r.2.2.2.1.length:Int)=(↑r.2.2.2.1.length:Int)/\
oR r gG=[]/\
ay r (b.1=b.1/\
b.2.1=b.2.1/\b.2.2.1=b.2.2.1/\b.2.2.2.1=b.2.2.2.1/\b.2.2.2.2=b.2.2.2.2/\True))/\
∀(s6:Nat),
U (decide ((↑s6:Int)<(↑r.2.2.2.1.length:Int))) fun(y7:Bool)=>
U ((List.replicate (1:Nat) (0:Int)).set (0:Nat) (r.2.2.2.1.getD (↑s6:Int).toNat ((0:Int),(0:Int),(0:Int))).1) fun(y8:List Int)=>
s6<=r.2.2.2.1.length->
(y7=true->
aL (↑s6:Int) r.2.2.2.1.length/\
roomFor ((oR r s6).length+y8.length) (8:Nat)/\
bo IntKind.i64 ((↑s6:Int)+(1:Int))/\
∃(xz:Nat),
xz<=r.2.2.2.1.length/\
r.2.2.2.1.length - xz<r.2.2.2.1.length - s6/\
(↑xz:Int)=(↑s6:Int)+(1:Int)/\
o=o/\
r.2.2.2.1=r.2.2.2.1/\
(↑r.2.2.2.1.length:Int)=(↑r.2.2.2.1.length:Int)/\
oR r xz=oR r s6++y8/\
ay r (b.1=b.1/\
b.2.1=b.2.1/\
b.2.2.1=b.2.2.1/\b.2.2.2.1=b.2.2.2.1/\b.2.2.2.2=b.2.2.2.2/\True))/\
(y7=false->
cR r.2.2.2.2.2.2.1/\
cR r.2.2.2.2.1/\
cR r.2.2.2.2.2.1/\
(0:Int)=jE b o r/\
b.1=(oq b o r).1/\
(df I b.2.1 o (oR r s6)).Perm y4/\
(df I b.2.2.1 o r.2.2.2.2.2.2.1).Perm y5.1/\
(df I b.2.2.2.1 o r.2.2.2.2.1).Perm y5.2.1/\
(df I b.2.2.2.2 o r.2.2.2.2.2.1).Perm y5.2.2/\True))):=by kernel_rfl
theorem b71 (b:av) (o:Int) (r:af) (hb:pV b) (h:ko r) (hz:cR r.2.2.2.2.2.2.1):bS (aj aA [(121,DJ),(59,TL),(76,TK)]) Tryz.f71 VX (a71 (b,o,r,())) (b,o,r,()):=by
 rw[v71]
 obtain⟨l1,l2,l3⟩:=h
 simp only[dp,true_and,and_true,eq_self]
 refine U.mk fun y3 e3=>U.mk fun y4 e4=>U.mk fun y5 e5=>⟨⟨hb,l1,l2,l3⟩,fun h3=> ?_,fun h3=>⟨⟨0,by omega,by omega,rfl⟩,fun s=>U.mk fun y7 e7=>U.mk fun y8 e8=>fun hs=>⟨fun h7=> ?_,fun h7=> ?_⟩⟩⟩
 ·have hT:oq b o r=b:=by
   unfold oq
   rw[h3,iy] at e3
   cases hx:(jE b o r==0) with
   |false=>rfl
   |true=>rw[hx] at e3;cases e3
  rw[e4,e5,hT]
  exact⟨rfl,.refl _,.refl _,.refl _,.refl _⟩
 ·have nI:=aZ e7 h7
  rw[Int.toNat_natCast] at e8
  refine⟨⟨by omega,by omega⟩,cT ?_ (by omega),aY (by omega) (by omega),s+1,by omega,by omega,by omega,?_⟩
  ·have:(oR r s).length<=s:=by unfold oR;rw[List.length_map,List.length_take];omega
   rw[e8]
   show _+1<=_
   omega
  ·unfold oR
   rw[oa _ iC nI,e8]
   rfl
 ·have nI:=bt e7 h7
  have:s=r.2.2.2.1.length:=by omega
  subst this
  have hm:jE b o r=0:=by
   rw[h3,iy] at e3
   cases hx:(jE b o r==0) with
   |false=>rw[hx] at e3;cases e3
   |true=>exact eq_of_beq hx
  have hT:oq b o r=taken b o r:=by unfold oq;rw[hm];rfl
  rw[e4,e5,hT,VO]
  exact⟨hz,l2,l3,hm.symm,rfl,.refl _,.refl _,.refl _,.refl _⟩
theorem ahs:fq Tryz.prog 71 VX:=
 fq.b3 (l:=[(121,DJ),(59,TL),(76,TK)]) (A:=a71) aJ ⟨Xh,acn,ack,trivial⟩ Tryz.func71 (by kernel_rfl) (by kernel_rfl) fun x hw hp=>b71 x.1 x.2.1 x.2.2.1 hp.1.1 hp.1.2 hp.2
abbrev akM:Ty:= .pair I (.pair (.list I) (.pair (.list I) (.pair (.list eB) (.list eB))))
abbrev Ua:=Int×List Int×List Int×List ba×List ba
abbrev T2:=Int×List Ua
abbrev T1:eU:= .cells true (.pair (.aG I) (.row 209 akM))
def L0:fG where
 args:=[.aG I]
 outs:=[T1]
 pre:=fun(x:Int×Unit)=>True
 fn:=fun(x:Int×Unit)=>((min (max x.1 0) 40,[]),())
structure akV (b:T2):Prop where
 len:b.2.length<=1000
 sV:∀h∈b.2,h.2.2.2.1.length<=1000/\h.2.2.2.2.length<=1000
def UN (p:ab):Prop:=bX p=0/\cY p
def nN (n:Int):cI:=bif decide (n<1)||decide (n>12) then(0,0,false,[]) else(1,0,false,List.replicate n.toNat false)
def c88:bg where
 args:=[I]
 out:= .data [kT]
 pre:=fun(x:Int×Unit)=>True
 fn:=fun(x:Int×Unit)=>(nN x.1,())
theorem ag8 (n:Int):bS (aj aA []) Tryz.f114 L0 ar (n,())=(
min (max n (0:Int)) (40:Int)=min (max n (0:Int)) (40:Int)/\([]:List Ua)=[]/\True):=by kernel_rfl
theorem adH:fq Tryz.prog 114 L0:=
 fq.b3 (l:=[]) (A:=fun _=>ar) aJ trivial Tryz.func114 (by kernel_rfl) (by kernel_rfl) fun x hw hp=>by
  obtain⟨n,⟨⟩⟩:=x
  show bS (aj aA []) Tryz.f114 L0 ar (n,())
  rw[ag8]
  exact⟨rfl,rfl,trivial⟩
theorem r6 (r:af):(cw r).length=r.2.2.2.1.length:=by unfold cw;rw[List.length_map]

abbrev Qy:Ty:= .pair (.list .bool) (.pair (.list I) (.pair (.list .bool) (.list .bool)))
abbrev gQ:=List Bool×List Int×List Bool×List Bool
@[irreducible] def xW (pos:List Int) (e:Int):Int:=bif decide (0<=e)&&(decide (e<(pos.length:Int))&&(pos.getD e.toNat 0==1||pos.getD e.toNat 0==2)) then pos.getD e.toNat 0 else 0
def V8:bg where
 args:=[.list I,I]
 out:= .data [I]
 pre:=fun(x:List Int×Int×Unit)=>True
 fn:=fun(x:List Int×Int×Unit)=>(xW x.1 x.2.1,())
def ajA:bg where
 args:=[.list .bool,I]
 out:= .data [.bool]
 pre:=fun(x:List Bool×Int×Unit)=>True
 fn:=fun(x:List Bool×Int×Unit)=>(vZ x.1 x.2.1,())
def gk:cI:=(0,0,false,[])
def Yu (p:ab) (iL:List Bool) (e:Int):Bool:= !(aK p e==4)&&vZ iL e
def ajz:bg where
 args:=[PlanT,.list .bool,I]
 out:= .data [.bool]
 pre:=fun(x:ab×List Bool×Int×Unit)=>True
 fn:=fun(x:ab×List Bool×Int×Unit)=>(Yu x.1 x.2.1 x.2.2.1,())
def ig (r:af):List Int:=cw r++r.2.2.2.2.2.2.1
def rL (r:af):Prop:=ko r/\cR r.2.2.2.2.2.2.1
def aD (c:bO) (i:Int):af:=c.2.getD i.toNat zR
def sa (c:bO) (i:Int):Bool:=decide (0<=i)&&decide (i<(c.2.length:Int))
def Dy (c:bO):Prop:=UN c.1/\∀r∈c.2,rL r
def zU (l:List cI) (i:Int):Bool:=decide ((l.length:Int)<=i)||(l.getD i.toNat gk).1==0
def LY:bg where
 args:=[.list kT,I]
 out:= .data [.bool]
 pre:=fun(x:List cI×Int×Unit)=>0<=x.2.1
 fn:=fun(x:List cI×Int×Unit)=>(zU x.1 x.2.1,())
def lq (p:ab) (iL:List Bool) (e:Int):Bool:=vZ iL e&&(decide ((p.1.length:Int)<=e)|| !((p.1.getD e.toNat zE).2.1==4))
def LX:bg where
 args:=[mN,Qy,I]
 out:= .data [.bool]
 pre:=fun(x:bO×gQ×Int×Unit)=>True
 fn:=fun(x:bO×gQ×Int×Unit)=>(lq x.1.1 x.2.1.1 x.2.2.1,())
def xV (pos:List Int) (n:ba):Bool:=decide (0<=n.1)&&(decide (n.1<(pos.length:Int))&&(pos.getD n.1.toNat 0==n.2&& !(n.2==0)))
def LW:bg where
 args:=[Qy,eB]
 out:= .data [.bool]
 pre:=fun(x:gQ×ba×Unit)=>True
 fn:=fun(x:gQ×ba×Unit)=>(xV x.1.2.1 x.2.1,())
def uz (c:bO) (HU:List cI) (k:Int) (r:af) (i:Nat):Bool:=((i:Int)==k||(c.2.getD i zR).1==r.1)&& !zU HU (i:Int)
def sC (p:ab) (iL:List Bool) (s:cu):Bool:=lq p iL s.1
def nF (p:ab) (inn:gQ) (x:ba):Bool:= !xV inn.2.1 x&&lq p inn.1 x.1
def Ag (c:bO) (HU:List cI) (b:av) (t:eJ) (inn:gQ) (k:Int) (r:af):Int:=
 bif r.2.2.2.2.2.2.2.2 then 11 else bif cj (uz c HU k r) c.2.length then 12 else bif r.2.2.2.1.any (sC c.1 inn.1) then 13 else bif r.2.2.2.2.2.2.1.any (lq c.1 inn.1) then 13 else
  bif !(jE b k r==0) then jE b k r else bif(aR r).any (nF c.1 inn) then 15 else mv t r inn.1 b
@[irreducible] def zM (c:bO) (HU:List cI) (b:av) (t:eJ) (inn:gQ) (k:Int):Int:=
 bif sa c k then Ag c HU b t inn k (aD c k) else 10
def VZ:bg where
 args:=[mN,.list kT,.ref rk,.ref DV,Qy,I]
 out:= .data [I]
 pre:=fun(x:bO×List cI×av×eJ×gQ×Int×Unit)=>Dy x.1/\pV x.2.2.1/\gS x.2.2.2.1.1
 fn:=fun(x:bO×List cI×av×eJ×gQ×Int×Unit)=>(zM x.1 x.2.1 x.2.2.1 x.2.2.2.1 x.2.2.2.2.1 x.2.2.2.2.2.1,())
def a69 (x:bO×List cI×av×eJ×gQ×Int×Unit):eA:=bh [
 (7,fun _=>dH x.1.2.length (eb (uz x.1 x.2.1 x.2.2.2.2.2.1 (aD x.1 x.2.2.2.2.2.1))) 42 [1,2,3,5,6,10,13,40,41] [6,10,13]),
 (13,fun _=>vg (sC x.1.1 x.2.2.2.2.1.1) (aD x.1 x.2.2.2.2.2.1).2.2.2.1 67 [2,3,5,6,10,13,65,66] [6,10,13]),
 (19,fun _=>vg (lq x.1.1 x.2.2.2.2.1.1) (aD x.1 x.2.2.2.2.2.1).2.2.2.2.2.2.1 80 [2,3,5,6,10,13,78,79] [6,10,13]),
 (28,fun _=>vg (nF x.1.1 x.2.2.2.2.1) (aR (aD x.1 x.2.2.2.2.2.1)) 103 [2,3,6,10,13,101,102] [6,10,13,101])]
theorem Jg {a b:Bool} (h:(bif a then b else false)=true):a=true/\b=true:=by
 cases a
 ·cases h
 ·exact⟨rfl,h⟩
theorem ahY {y b:Bool} (e:y= !b) (h:y=false):b=true:=by
 rw[h] at e
 cases b
 ·cases e
 ·rfl
theorem v34 (pos:List Int) (e:Int):ah (aj aA []) Tryz.f34 V8 ar (pos,e,())=(
U (bif decide (e<(0:Int)) then true else decide (e>=(↑pos.length:Int))) fun(y2:Bool)=>
U (pos.getD e.toNat (0:Int) !=(1:Int)) fun(y3:Bool)=>
U (bif y2 then true else bif y3 then pos.getD e.toNat (0:Int) !=(2:Int) else false) fun(y4:Bool)=>
(y2=false->aL e pos.length)/\
(y2=false->y3=true->aL e pos.length)/\(y4=true->(0:Int)=xW pos e/\True)/\(y4=false->aL e pos.length/\pos.getD e.toNat (0:Int)=xW pos e/\True)):=by kernel_rfl
theorem b34 (pos:List Int) (e:Int):ah (aj aA []) Tryz.f34 V8 ar (pos,e,()):=by
 rw[v34]
 refine U.mk fun y2 e2=>U.mk fun y3 e3=>U.mk fun y4 e4=> ?_
 have nJ:y2=false->aL e pos.length:=fun h=>by
  rw[e2] at h
  obtain⟨k1,k2⟩:=su h
  have:=of_decide_eq_false k1
  have:=of_decide_eq_false k2
  exact⟨by omega,by omega⟩
 have hF:xW pos e=bif y4 then 0 else pos.getD e.toNat 0:=by
  unfold xW
  have:(decide (0<=e)&&(decide (e<(pos.length:Int))&&(pos.getD e.toNat 0==1||pos.getD e.toNat 0==2)))= !y4:=by
   rw[e4,e3,e2,CX e 0,wY,iy,iy]
   rw[CX e (pos.length:Int)]
   cases decide (0<=e)<;>cases decide ((pos.length:Int)<=e)<;>cases (pos.getD e.toNat 0==1)<;>cases (pos.getD e.toNat 0==2)<;>rfl
  rw[this]
  cases y4<;>rfl
 rw[hF]
 refine⟨nJ,fun h _=>nJ h,fun h=>by rw[h];exact⟨rfl,trivial⟩,fun h=> ?_⟩
 rw[h]
 refine⟨nJ ?_,rfl,trivial⟩
 rw[h] at e4
 exact(su e4.symm).1
theorem ahO:aN Tryz.prog 34 V8:=
 aN.b3 (l:=[]) (A:=fun _=>ar) aJ trivial Tryz.func34 (by kernel_rfl) (by kernel_rfl) fun x hw hp=>b34 x.1 x.2.1
theorem v131 (p:ab) (o:List Bool) (e:Int):ah (aj aA [(207,yu),(130,ajA)]) Tryz.f131 ajz ar (p,o,e,())=(
True/\((aK p e !=(4:Int))=true->True)/\(bif aK p e !=(4:Int) then vZ o e else false)=Yu p o e/\True):=by kernel_rfl
theorem QY (c:bO) (k:Int):(bif decide (k<0) then true else decide (k>=(c.2.length:Int)))= !sa c k:=by
 unfold sa
 rw[CX,wY,CX k (c.2.length:Int)]
 cases decide (0<=k)<;>cases decide ((c.2.length:Int)<=k)<;>rfl
theorem OL {c:bO} {k:Int} (h:sa c k=true):aL k c.2.length/\aD c k∈c.2:=by
 unfold sa at h
 rw[Bool.and_eq_true] at h
 have h1:=of_decide_eq_true h.1
 have h2:=of_decide_eq_true h.2
 exact⟨⟨h1,h2⟩,fJ zR (by omega)⟩
theorem ag5 (l:List (Int×Int×Bool×List Bool)) (i:Int):ah (aj aA []) Tryz.f119 LY ar (l,i,())=(
U (decide (i>=(↑l.length:Int))) fun(y2:Bool)=>(y2=false->aL i l.length)/\(bif y2 then true else(l.getD i.toNat ((0:Int),(0:Int),false,[])).1==(0:Int))=zU l i/\True):=by kernel_rfl
theorem akv (l:List cI) (i:Int) (h:0<=i):ah (aj aA []) Tryz.f119 LY ar (l,i,()):=by
 rw[ag5]
 refine U.mk fun y2 e2=>⟨fun h2=> ?_,?_,trivial⟩
 ·rw[h2] at e2
  have:=of_decide_eq_false e2.symm
  exact⟨by omega,by omega⟩
 ·rw[e2,wY]
  unfold zU
  cases decide ((l.length:Int)<=i)<;>rfl
theorem adD:aN Tryz.prog 119 LY:=
 aN.b3 (l:=[]) (A:=fun _=>ar) aJ trivial Tryz.func119 (by kernel_rfl) (by kernel_rfl) fun x hw hp=>akv x.1 x.2.1 hp
theorem ag4 (c:(ab)×List (af)) (i:List Bool×List Int×List Bool×List Bool) (e:Int):ah (aj aA []) Tryz.f120 LX ar (c,i,e,())=(
U (bif decide (e>=(0:Int)) then decide (e<(↑i.1.length:Int)) else false) fun(y3:Bool)=>
U (bif y3 then i.1.getD e.toNat false else false) fun(y4:Bool)=>
U (decide (e>=(↑c.1.1.length:Int))) fun(y5:Bool)=>
(y3=true->aL e i.1.length)/\
(y4=true->y5=false->aL e c.1.1.length)/\
(bif y4 then bif y5 then true else(c.1.1.getD e.toNat ([],(0:Int),(0:Int))).2.1 !=(4:Int) else false)=lq c.1 i.1 e/\True):=by kernel_rfl
theorem aku (c:bO) (i:gQ) (e:Int):ah (aj aA []) Tryz.f120 LX ar (c,i,e,()):=by
 rw[ag4]
 refine U.mk fun y3 e3=>U.mk fun y4 e4=>U.mk fun y5 e5=> ?_
 have nJ:y3=true->aL e i.1.length:=fun h=>by
  rw[e3] at h
  obtain⟨k1,k2⟩:=Jg h
  exact⟨of_decide_eq_true k1,of_decide_eq_true k2⟩
 have h4:y4=vZ i.1 e:=by
  rw[e4,e3]
  unfold vZ
  show(bif(bif decide (0<=e) then decide (e<(i.1.length:Int)) else false) then _ else false)=_
  cases decide (0<=e)<;>cases decide (e<(i.1.length:Int))<;>rfl
 refine⟨nJ,fun k4 k5=> ?_,?_,trivial⟩
 ·rw[e4] at k4
  have:=(nJ (Jg k4).1).1
  rw[k5] at e5
  have:=of_decide_eq_false e5.symm
  exact⟨by omega,by omega⟩
 ·unfold lq
  rw[h4,e5,wY,iy]
  show(bif vZ i.1 e then bif decide ((c.1.1.length:Int)<=e) then true else !((c.1.1.getD e.toNat zE).2.1==4) else false)=_
  cases vZ i.1 e<;>cases decide ((c.1.1.length:Int)<=e)<;>rfl
theorem adC:aN Tryz.prog 120 LX:=
 aN.b3 (l:=[]) (A:=fun _=>ar) aJ trivial Tryz.func120 (by kernel_rfl) (by kernel_rfl) fun x hw hp=>aku x.1 x.2.1 x.2.2.1
theorem ag2 (i:List Bool×List Int×List Bool×List Bool) (n:Int×Int):ah (aj aA []) Tryz.f122 LW ar (i,n,())=(
U (bif decide (n.1>=(0:Int)) then decide (n.1<(↑i.2.1.length:Int)) else false) fun(y2:Bool)=>
(y2=true->aL n.1 i.2.1.length)/\(bif bif y2 then i.2.1.getD n.1.toNat (0:Int)==n.2 else false then n.2 !=(0:Int) else false)=xV i.2.1 n/\True):=by kernel_rfl
theorem aks (i:gQ) (n:ba):ah (aj aA []) Tryz.f122 LW ar (i,n,()):=by
 rw[ag2]
 refine U.mk fun y2 e2=>⟨fun h=> ?_,?_,trivial⟩
 ·rw[e2] at h
  obtain⟨k1,k2⟩:=Jg h
  exact⟨of_decide_eq_true k1,of_decide_eq_true k2⟩
 ·rw[e2,iy]
  unfold xV
  show(bif(bif(bif decide (0<=n.1) then decide (n.1<(i.2.1.length:Int)) else false) then i.2.1.getD n.1.toNat 0==n.2 else false) then !(n.2==0) else false)=_
  cases decide (0<=n.1)<;>cases decide (n.1<(i.2.1.length:Int))<;>cases (i.2.1.getD n.1.toNat 0==n.2)<;>rfl
theorem adB:aN Tryz.prog 122 LW:=
 aN.b3 (l:=[]) (A:=fun _=>ar) aJ trivial Tryz.func122 (by kernel_rfl) (by kernel_rfl) fun x hw hp=>aks x.1 x.2.1
theorem v69 (c:(ab)×List (af)) (l:List (Int×Int×Bool×List Bool)) (b:av) (t:Option (bk)×List ((Int×Int)×Bool)) (i:List Bool×List Int×List Bool×List Bool) (k:Int):ah (aj aA [(119,LY),(120,LX),(121,DJ),(76,Cd),(122,LW),(123,DI)]) Tryz.f69 VZ (a69 (c,l,b,t,i,k,())) (c,l,b,t,i,k,())=(
U (bif decide (k<(0:Int)) then true else decide (k>=(↑c.2.length:Int))) fun(y6:Bool)=>
U (zM c l b t i k) fun(y7:Int)=>
U ((0:Int),(0:Int),(0:Int),[],[],[],[],[],false) fun(y8:af)=>
U (c.2.getD k.toNat y8) fun(y9:af)=>
U (aD c k).2.2.2 fun(bu:List cu×List ba×List ba×List Int×List Int×Bool)=>
U (jE b k y9 !=(0:Int)) fun(bH:Bool)=>
U (y9.2.2.2.2.1++y9.2.2.2.2.2.1) fun(aw:List (Int×Int))=>
(y6=true->(10:Int)=y7/\True)/\
(y6=false->
aL k c.2.length/\
(y9.2.2.2.2.2.2.2.2=true->(11:Int)=y7/\True)/\
(y9.2.2.2.2.2.2.2.2=false->
(∃(iG:Nat),
(iG<=c.2.length/\eb (uz c l k (aD c k)) iG)/\
(↑iG:Int)=(0:Int)/\
l=l/\
[b]=[b]/\
(0:Nat)=(0:Nat)/\
[t]=[t]/\
(0:Nat)=(0:Nat)/\
k=k/\
c.2=c.2/\
(↑c.2.length:Int)=(↑c.2.length:Int)/\
c.1.1=c.1.1/\
c.1.2.1=c.1.2.1/\
c.1.2.2.1=c.1.2.2.1/\
c.1.2.2.2.1=c.1.2.2.2.1/\
c.1.2.2.2.2.1=c.1.2.2.2.2.1/\
c.1.2.2.2.2.2.1=c.1.2.2.2.2.2.1/\
c.1.2.2.2.2.2.2.1=c.1.2.2.2.2.2.2.1/\
c.1.2.2.2.2.2.2.2.1=c.1.2.2.2.2.2.2.2.1/\
c.1.2.2.2.2.2.2.2.2=c.1.2.2.2.2.2.2.2.2/\
c.2=c.2/\
i.1=i.1/\
i.2.1=i.2.1/\
i.2.2.1=i.2.2.1/\
i.2.2.2=i.2.2.2/\
ay y9 (True))/\
∀(bM:Nat),
U (decide ((↑bM:Int)<(↑c.2.length:Int))) fun(cL:Bool)=>
U (bif(↑bM:Int)==k then true else(c.2.getD (↑bM:Int).toNat y8).1==y9.1) fun(bC:Bool)=>
U (bif bC then !zU l (↑bM:Int) else false) fun(cC:Bool)=>
bM<=c.2.length/\eb (uz c l k (aD c k)) bM->
(cL=true->
aL (↑bM:Int) c.2.length/\
(bC=true->(0:Int)<=(↑bM:Int))/\
(cC=true->(12:Int)=y7/\True)/\
(cC=false->
bo IntKind.i64 ((↑bM:Int)+(1:Int))/\
∃(vu:Nat),
(vu<=c.2.length/\eb (uz c l k (aD c k)) vu)/\
c.2.length - vu<c.2.length - bM/\
(↑vu:Int)=(↑bM:Int)+(1:Int)/\
l=l/\
[b]=[b]/\
(0:Nat)=(0:Nat)/\
[t]=[t]/\
(0:Nat)=(0:Nat)/\
k=k/\
c.2=c.2/\
(↑c.2.length:Int)=(↑c.2.length:Int)/\
c.1.1=c.1.1/\
c.1.2.1=c.1.2.1/\
c.1.2.2.1=c.1.2.2.1/\
c.1.2.2.2.1=c.1.2.2.2.1/\
c.1.2.2.2.2.1=c.1.2.2.2.2.1/\
c.1.2.2.2.2.2.1=c.1.2.2.2.2.2.1/\
c.1.2.2.2.2.2.2.1=c.1.2.2.2.2.2.2.1/\
c.1.2.2.2.2.2.2.2.1=c.1.2.2.2.2.2.2.2.1/\
c.1.2.2.2.2.2.2.2.2=c.1.2.2.2.2.2.2.2.2/\
c.2=c.2/\
i.1=i.1/\
i.2.1=i.2.1/\
i.2.2.1=i.2.2.1/\
i.2.2.2=i.2.2.2/\
ay y9 (True)))/\
(cL=false->
(∃(WJ:Nat),
(WJ<=bu.1.length/\(List.take WJ bu.1).any (sC c.1 i.1)=false)/\
(↑WJ:Int)=(0:Int)/\
[b]=[b]/\
(0:Nat)=(0:Nat)/\
[t]=[t]/\
(0:Nat)=(0:Nat)/\
k=k/\
y9.2.2.2.1=y9.2.2.2.1/\
(↑y9.2.2.2.1.length:Int)=(↑y9.2.2.2.1.length:Int)/\
c.1.1=c.1.1/\
c.1.2.1=c.1.2.1/\
c.1.2.2.1=c.1.2.2.1/\
c.1.2.2.2.1=c.1.2.2.2.1/\
c.1.2.2.2.2.1=c.1.2.2.2.2.1/\
c.1.2.2.2.2.2.1=c.1.2.2.2.2.2.1/\
c.1.2.2.2.2.2.2.1=c.1.2.2.2.2.2.2.1/\
c.1.2.2.2.2.2.2.2.1=c.1.2.2.2.2.2.2.2.1/\
c.1.2.2.2.2.2.2.2.2=c.1.2.2.2.2.2.2.2.2/\
c.2=c.2/\
i.1=i.1/\
i.2.1=i.2.1/\
i.2.2.1=i.2.2.1/\
i.2.2.2=i.2.2.2/\
ay y9 (True))/\
∀(OB:Nat),
U (decide ((↑OB:Int)<(↑y9.2.2.2.1.length:Int))) fun(dN:Bool)=>
U (lq c.1 i.1 (y9.2.2.2.1.getD (↑OB:Int).toNat ((0:Int),(0:Int),(0:Int))).1) fun(fw:Bool)=>
OB<=bu.1.length/\(List.take OB bu.1).any (sC c.1 i.1)=false->
(dN=true->
aL (↑OB:Int) y9.2.2.2.1.length/\
True/\
(fw=true->(13:Int)=y7/\True)/\
(fw=false->
bo IntKind.i64 ((↑OB:Int)+(1:Int))/\
∃(dv:Nat),
(dv<=bu.1.length/\(List.take dv bu.1).any (sC c.1 i.1)=false)/\
bu.1.length - dv<bu.1.length - OB/\
(↑dv:Int)=(↑OB:Int)+(1:Int)/\
[b]=[b]/\
(0:Nat)=(0:Nat)/\
[t]=[t]/\
(0:Nat)=(0:Nat)/\
k=k/\
y9.2.2.2.1=y9.2.2.2.1/\
(↑y9.2.2.2.1.length:Int)=(↑y9.2.2.2.1.length:Int)/\
c.1.1=c.1.1/\
c.1.2.1=c.1.2.1/\
c.1.2.2.1=c.1.2.2.1/\
c.1.2.2.2.1=c.1.2.2.2.1/\
c.1.2.2.2.2.1=c.1.2.2.2.2.1/\
c.1.2.2.2.2.2.1=c.1.2.2.2.2.2.1/\
c.1.2.2.2.2.2.2.1=c.1.2.2.2.2.2.2.1/\
c.1.2.2.2.2.2.2.2.1=c.1.2.2.2.2.2.2.2.1/\
c.1.2.2.2.2.2.2.2.2=c.1.2.2.2.2.2.2.2.2/\
c.2=c.2/\
i.1=i.1/\
i.2.1=i.2.1/\
i.2.2.1=i.2.2.1/\
i.2.2.2=i.2.2.2/\
ay y9 (True)))/\
(dN=false->
(∃(WI:Nat),
(WI<=bu.2.2.2.1.length/\(List.take WI bu.2.2.2.1).any (lq c.1 i.1)=false)/\
(↑WI:Int)=(0:Int)/\
[b]=[b]/\
(0:Nat)=(0:Nat)/\
[t]=[t]/\
(0:Nat)=(0:Nat)/\
k=k/\
y9.2.2.2.2.2.2.1=y9.2.2.2.2.2.2.1/\
(↑y9.2.2.2.2.2.2.1.length:Int)=(↑y9.2.2.2.2.2.2.1.length:Int)/\
c.1.1=c.1.1/\
c.1.2.1=c.1.2.1/\
c.1.2.2.1=c.1.2.2.1/\
c.1.2.2.2.1=c.1.2.2.2.1/\
c.1.2.2.2.2.1=c.1.2.2.2.2.1/\
c.1.2.2.2.2.2.1=c.1.2.2.2.2.2.1/\
c.1.2.2.2.2.2.2.1=c.1.2.2.2.2.2.2.1/\
c.1.2.2.2.2.2.2.2.1=c.1.2.2.2.2.2.2.2.1/\
c.1.2.2.2.2.2.2.2.2=c.1.2.2.2.2.2.2.2.2/\
c.2=c.2/\
i.1=i.1/\
i.2.1=i.2.1/\
i.2.2.1=i.2.2.1/\
i.2.2.2=i.2.2.2/\
ay y9 (True))/\
∀(OA:Nat),
U (decide ((↑OA:Int)<(↑y9.2.2.2.2.2.2.1.length:Int))) fun(eL:Bool)=>
U (lq c.1 i.1 (y9.2.2.2.2.2.2.1.getD (↑OA:Int).toNat (0:Int))) fun(dt:Bool)=>
OA<=bu.2.2.2.1.length/\(List.take OA bu.2.2.2.1).any (lq c.1 i.1)=false->
(eL=true->
aL (↑OA:Int) y9.2.2.2.2.2.2.1.length/\
True/\
(dt=true->(13:Int)=y7/\True)/\
(dt=false->
bo IntKind.i64 ((↑OA:Int)+(1:Int))/\
∃(vt:Nat),
(vt<=bu.2.2.2.1.length/\(List.take vt bu.2.2.2.1).any (lq c.1 i.1)=false)/\
bu.2.2.2.1.length - vt<bu.2.2.2.1.length - OA/\
(↑vt:Int)=(↑OA:Int)+(1:Int)/\
[b]=[b]/\
(0:Nat)=(0:Nat)/\
[t]=[t]/\
(0:Nat)=(0:Nat)/\
k=k/\
y9.2.2.2.2.2.2.1=y9.2.2.2.2.2.2.1/\
(↑y9.2.2.2.2.2.2.1.length:Int)=(↑y9.2.2.2.2.2.2.1.length:Int)/\
c.1.1=c.1.1/\
c.1.2.1=c.1.2.1/\
c.1.2.2.1=c.1.2.2.1/\
c.1.2.2.2.1=c.1.2.2.2.1/\
c.1.2.2.2.2.1=c.1.2.2.2.2.1/\
c.1.2.2.2.2.2.1=c.1.2.2.2.2.2.1/\
c.1.2.2.2.2.2.2.1=c.1.2.2.2.2.2.2.1/\
c.1.2.2.2.2.2.2.2.1=c.1.2.2.2.2.2.2.2.1/\
c.1.2.2.2.2.2.2.2.2=c.1.2.2.2.2.2.2.2.2/\
c.2=c.2/\
i.1=i.1/\
i.2.1=i.2.1/\
i.2.2.1=i.2.2.1/\
i.2.2.2=i.2.2.2/\
ay y9 (True)))/\
(eL=false->
(pV b/\ko y9)/\
(bH=true->jE b k y9=y7/\True)/\
(bH=false->
cR y9.2.2.2.2.1/\
roomFor (y9.2.2.2.2.1.length+y9.2.2.2.2.2.1.length) (16:Nat)/\
(∃(WG:Nat),
(WG<=(aR (aD c k)).length/\(List.take WG (aR (aD c k))).any (nF c.1 i)=false)/\
(↑WG:Int)=(0:Int)/\
[b]=[b]/\
(0:Nat)=(0:Nat)/\
[t]=[t]/\
(0:Nat)=(0:Nat)/\
(↑aw.length:Int)=(↑aw.length:Int)/\
c.1.1=c.1.1/\
c.1.2.1=c.1.2.1/\
c.1.2.2.1=c.1.2.2.1/\
c.1.2.2.2.1=c.1.2.2.2.1/\
c.1.2.2.2.2.1=c.1.2.2.2.2.1/\
c.1.2.2.2.2.2.1=c.1.2.2.2.2.2.1/\
c.1.2.2.2.2.2.2.1=c.1.2.2.2.2.2.2.1/\
c.1.2.2.2.2.2.2.2.1=c.1.2.2.2.2.2.2.2.1/\
c.1.2.2.2.2.2.2.2.2=c.1.2.2.2.2.2.2.2.2/\
c.2=c.2/\
i.1=i.1/\
i.2.1=i.2.1/\
i.2.2.1=i.2.2.1/\
i.2.2.2=i.2.2.2/\
ay y9 (aw=aw/\True))/\
∀(Hm:Nat),
U (decide ((↑Hm:Int)<(↑aw.length:Int))) fun(im:Bool)=>
U (aw.getD (↑Hm:Int).toNat ((0:Int),(0:Int))) fun(iY:Int×Int)=>
U (lq c.1 i.1 iY.1) fun(jQ:Bool)=>
Hm<=(aR (aD c k)).length/\
(List.take Hm (aR (aD c k))).any (nF c.1 i)=false->
(im=true->
aL (↑Hm:Int) aw.length/\
True/\
(xV i.2.1 iY=true->
bo IntKind.i64 ((↑Hm:Int)+(1:Int))/\
∃(jH:Nat),
(jH<=(aR (aD c k)).length/\
(List.take jH (aR (aD c k))).any (nF c.1 i)=false)/\
(aR (aD c k)).length - jH<(aR (aD c k)).length - Hm/\
(↑jH:Int)=(↑Hm:Int)+(1:Int)/\
[b]=[b]/\
(0:Nat)=(0:Nat)/\
[t]=[t]/\
(0:Nat)=(0:Nat)/\
(↑aw.length:Int)=(↑aw.length:Int)/\
c.1.1=c.1.1/\
c.1.2.1=c.1.2.1/\
c.1.2.2.1=c.1.2.2.1/\
c.1.2.2.2.1=c.1.2.2.2.1/\
c.1.2.2.2.2.1=c.1.2.2.2.2.1/\
c.1.2.2.2.2.2.1=c.1.2.2.2.2.2.1/\
c.1.2.2.2.2.2.2.1=
c.1.2.2.2.2.2.2.1/\
c.1.2.2.2.2.2.2.2.1=
c.1.2.2.2.2.2.2.2.1/\
c.1.2.2.2.2.2.2.2.2=
c.1.2.2.2.2.2.2.2.2/\
c.2=c.2/\
i.1=i.1/\
i.2.1=i.2.1/\
i.2.2.1=i.2.2.1/\
i.2.2.2=i.2.2.2/\
ay y9 (aw=aw/\True))/\
(xV i.2.1 iY=false->
True/\
(jQ=true->(15:Int)=y7/\True)/\
(jQ=false->
bo IntKind.i64 ((↑Hm:Int)+(1:Int))/\
∃(jH:Nat),
(jH<=(aR (aD c k)).length/\
(List.take jH (aR (aD c k))).any (nF c.1 i)=false)/\
(aR (aD c k)).length - jH<(aR (aD c k)).length - Hm/\
(↑jH:Int)=(↑Hm:Int)+(1:Int)/\
[b]=[b]/\
(0:Nat)=(0:Nat)/\
[t]=[t]/\
(0:Nat)=(0:Nat)/\
(↑aw.length:Int)=(↑aw.length:Int)/\
c.1.1=c.1.1/\
c.1.2.1=c.1.2.1/\
c.1.2.2.1=c.1.2.2.1/\
c.1.2.2.2.1=c.1.2.2.2.1/\
c.1.2.2.2.2.1=c.1.2.2.2.2.1/\
c.1.2.2.2.2.2.1=
c.1.2.2.2.2.2.1/\
c.1.2.2.2.2.2.2.1=
c.1.2.2.2.2.2.2.1/\
c.1.2.2.2.2.2.2.2.1=
c.1.2.2.2.2.2.2.2.1/\
c.1.2.2.2.2.2.2.2.2=
c.1.2.2.2.2.2.2.2.2/\
c.2=c.2/\
i.1=i.1/\
i.2.1=i.2.1/\
i.2.2.1=i.2.2.1/\
i.2.2.2=i.2.2.2/\
ay y9 (aw=aw/\True))))/\
(im=false->
((gS t.1/\y9.2.2.2.1.length<=(1000:Nat))/\kp b)/\
mv t y9 i.1 b=y7/\True)))))))):=by kernel_rfl
theorem b69 (c:bO) (l:List cI) (b:av) (t:eJ) (i:gQ) (k:Int) (hc:Dy c) (hb:pV b) (ht:gS t.1) (hlen:c.2.length<=aM):
  ah (aj aA [(119,LY),(120,LX),(121,DJ),(76,Cd),(122,LW),(123,DI)]) Tryz.f69 VZ (a69 (c,l,b,t,i,k,())) (c,l,b,t,i,k,()):=by
 rw[v69]
 refine U.mk fun y6 e6=>U.mk fun y7 e7=>U.mk fun y8 e8=>U.mk fun y9 e9=>U.mk fun bu dy=>U.mk fun bH eK=>U.mk fun aw dW=> ?_
 rw[QY] at e6
 have e7:y7=bif !y6 then Ag c l b t i k (aD c k) else 10:=by rw[e7,e6];unfold zM;cases sa c k<;>rfl
 have e9:aD c k=y9:=by rw[e9,e8];rfl
 rw[e9] at e7 dy ⊢
 have dW:aw=aR y9:=by rw[dW];unfold aR;rfl
 rw[dW,dy]
 simp only[dp,true_and,and_true,eq_self]
 refine⟨fun h=>by rw[e7,h];rfl,fun h=> ?_⟩
 have hri:sa c k=true:=ahY e6 h
 obtain⟨nJ,FU⟩:=OL hri
 rw[e9] at FU
 have hf:=hc.2 _ FU
 obtain⟨l1,l2,l3⟩:=hf.1
 have hz:y9.2.2.2.2.2.2.1.length<=1000:=hf.2
 have H9:=AM y9
 have e7:y7=Ag c l b t i k y9:=by rw[e7,h];rfl
 rw[e7]
 unfold Ag
 refine⟨nJ,fun h9=>by rw[h9];rfl,fun h9=>⟨⟨0,⟨by omega,rfl⟩,by omega⟩,fun s=>U.mk fun cL j5=>U.mk fun bC iJ=>U.mk fun cC k7=> ?_⟩⟩
 rw[h9]
 rintro⟨h1,h2⟩
 have h2:cj (uz c l k y9) s=false:=h2
 rw[Int.toNat_natCast,e8] at iJ
 refine⟨fun hs=> ?_,fun hs=> ?_⟩
 ·have hs:=aZ j5 hs
  have rR:uz c l k y9 s=cC:=by
   rw[k7,iJ]
   unfold uz
   show(((s:Int)==k||(c.2.getD s zR).1==y9.1)&& !zU l (s:Int))=bif(bif(s:Int)==k then true else(c.2.getD s zR).1==y9.1) then !zU l (s:Int) else false
   cases ((s:Int)==k)<;>cases ((c.2.getD s zR).1==y9.1)<;>rfl
  refine⟨⟨by omega,by omega⟩,fun _=>by omega,fun hy=> ?_,fun hy=>⟨dw hs hlen,s+1,⟨by omega,j6 h2 (by rw[rR];exact hy)⟩,by omega,by omega⟩⟩
  rw[nR hs (by rw[rR];exact hy)]
  rfl
 ·have hs:=bt j5 hs
  have:s=c.2.length:=by omega
  subst this
  rw[h2]
  refine⟨⟨0,⟨by omega,by simp⟩,by omega⟩,fun s=>U.mk fun dN oh=>U.mk fun fw mH=> ?_⟩
  rintro⟨h3,h4⟩
  rw[Int.toNat_natCast] at mH
  have mH:fw=sC c.1 i.1 (y9.2.2.2.1.getD s iC):=mH
  refine⟨fun hs=> ?_,fun hs=> ?_⟩
  ·have hs:=aZ oh hs
   refine⟨⟨by omega,by omega⟩,fun hy=> ?_,fun hy=>⟨aY (by omega) (by omega),s+1,⟨by show s+1<=y9.2.2.2.1.length;omega,any_succ iC hs h4 (by rw[<-mH];exact hy)⟩,by show y9.2.2.2.1.length - (s+1)<y9.2.2.2.1.length - s;omega,by omega⟩⟩
   rw[nZ (s:=s) iC hs (by rw[<-mH];exact hy)]
   rfl
  ·have hs:=bt oh hs
   rw[lU hs h4]
   refine⟨⟨0,⟨by omega,by simp⟩,by omega⟩,fun s=>U.mk fun eL rr=>U.mk fun dt q9=> ?_⟩
   rintro⟨h5,h6⟩
   rw[Int.toNat_natCast] at q9
   refine⟨fun hs=> ?_,fun hs=> ?_⟩
   ·have hs:=aZ rr hs
    refine⟨⟨by omega,by omega⟩,fun hy=> ?_,fun hy=>⟨aY (by omega) (by omega),s+1,⟨by show s+1<=y9.2.2.2.2.2.2.1.length;omega,any_succ 0 hs h6 (by rw[<-q9];exact hy)⟩,by show y9.2.2.2.2.2.2.1.length - (s+1)<y9.2.2.2.2.2.2.1.length - s;omega,by omega⟩⟩
    rw[nZ (s:=s) 0 hs (by rw[<-q9];exact hy)]
    rfl
   ·have hs:=bt rr hs
    rw[lU hs h6]
    rw[iy] at eK
    rw[<-eK]
    refine⟨⟨hb,hf.1⟩,fun mG=>by rw[mG];rfl,fun mG=> ?_⟩
    rw[mG]
    refine⟨l2,cT (by omega) (by omega),⟨0,⟨by omega,by simp⟩,by omega⟩,fun s=>U.mk fun im yA=>U.mk fun iY w5=>U.mk fun jQ x5=> ?_⟩
    rintro⟨h7,h8⟩
    rw[Int.toNat_natCast] at w5
    refine⟨fun hs=> ?_,fun hs=> ?_⟩
    ·have hs:=aZ yA hs
     have hp:nF c.1 i ((aR y9).getD s (0,0))=(!xV i.2.1 iY&&jQ):=by rw[<-w5,x5];rfl
     refine⟨⟨by omega,by omega⟩,fun hy=>⟨aY (by omega) (by omega),s+1,⟨by omega,any_succ (0,0) hs h8 (by rw[hp,hy];rfl)⟩,by omega,by omega⟩,fun hy=>⟨fun hx=> ?_,fun hx=>⟨aY (by omega) (by omega),s+1,⟨by omega,any_succ (0,0) hs h8 (by rw[hp,hx];simp)⟩,by omega,by omega⟩⟩⟩
     rw[nZ (s:=s) (0,0) hs (by rw[hp,hy,hx];rfl)]
     rfl
    ·rw[lU (bt yA hs) h8]
     exact⟨⟨⟨ht,l1⟩,hb.vz⟩,rfl⟩
theorem ahu:aN Tryz.prog 69 VZ:=
 aN.b3 (l:=[(119,LY),(120,LX),(121,DJ),(76,Cd),(122,LW),(123,DI)]) (A:=a69) aJ ⟨adD,adC,Xh,OY,adB,Xg,trivial⟩ Tryz.func69 (by kernel_rfl) (by kernel_rfl)
  fun x hw hp=>b69 x.1 x.2.1 x.2.2.1 x.2.2.2.1 x.2.2.2.2.1 x.2.2.2.2.2.1 hp.1 hp.2.1 hp.2.2 hw.1.2.1
structure uj (p:ab) (r:af) (s:au):Prop where
 still:still p r s
 each:∀g∈aS s,(g.2=1\/g.2=2)/\aK p g.1=2/\kI r g.1=false
 one:∀g∈aS s,∀h∈aS s,g.1=h.1->g.2=h.2
theorem HB {p:ab} {r:af} {s:au} (h:still p r s) (e:Int):kI (iZ s) e=kI r e:=by
 have h5:eP s=r.2.2.2.1:=h.2.2.2.2.1
 unfold kI cw
 have:(iZ s).2.2.2.1=eP s:=by unfold iZ;rfl
 rw[this,h5]
theorem Fy {p:ab} {y:ak} (hh:dC p y=true) (hk:aK p y.1=2) (h0:(y.2==0)=false):y.2=1\/y.2=2:=by
 unfold dC at hh
 rw[hk,show cQ 2=3 by unfold cQ;rfl] at hh
 simp only[Bool.and_eq_true,decide_eq_true_eq] at hh
 have:y.2≠0:=fun e=>by rw[e] at h0;cases h0
 omega
theorem CN {l:List ba} {x:ba} (h:bq l x=false):x∉l:=fun hx=>by
 unfold bq at h
 have:=List.any_eq_false.1 h x hx
 simp at this
theorem nL {p:ab} (hJ:bT p=true) (r:af):Kept p (uj p r) where
 qJ s h:=h.still.1
 bare s h:=⟨h.still,h.each,h.one⟩
 nu s y h _ _ _ _:=⟨h.still,h.each,h.one⟩
 hold s z h:=⟨h.still,h.each,h.one⟩
 met s m h:=⟨h.still,h.each,h.one⟩
 guard s y h hn ho hk h0 n1 n2:=by
  have hh:dC p y=true:=by
   obtain⟨x,hx,rfl⟩:=hn
   exact xE hJ (x:=x) (by rw[mU,hx];rfl)
  have hy:=Fy hh hk h0
  rw[HB h.still] at ho
  have fresh:∀g∈aS s,g.1≠y.1:=fun g hg e=>by
   have hg2:=(h.each g hg).1
   have:g=(y.1,y.2)\/g=(y.1,3 - y.2):=by
    have e2:g.2=y.2\/g.2=3 - y.2:=by omega
    rcases e2 with e2|e2
    ·exact .inl (by rw[<-e,<-e2])
    ·exact .inr (by rw[<-e,<-e2])
   rcases this with e'|e'
   ·exact CN n1 (by rw[<-e'];exact hg)
   ·exact CN n2 (by rw[<-e'];exact hg)
  refine⟨h.still,fun g hg=> ?_,fun g hg k vk e=> ?_⟩
  ·rcases List.mem_append.1 (show g∈aS s++[(y.1,3 - y.2)] from hg) with hg|hg
   ·exact h.each g hg
   ·rw[List.mem_singleton.1 hg]
    exact⟨by show 3 - y.2=1\/3 - y.2=2;omega,hk,ho⟩
  ·rcases List.mem_append.1 (show g∈aS s++[(y.1,3 - y.2)] from hg) with hg|hg
   ·rcases List.mem_append.1 (show k∈aS s++[(y.1,3 - y.2)] from vk) with vk|vk
    ·exact h.one g hg k vk e
    ·rw[List.mem_singleton.1 vk] at e
     exact(fresh g hg e).elim
   ·rcases List.mem_append.1 (show k∈aS s++[(y.1,3 - y.2)] from vk) with vk|vk
    ·rw[List.mem_singleton.1 hg] at e
     exact(fresh k vk e.symm).elim
    ·rw[List.mem_singleton.1 hg,List.mem_singleton.1 vk]
structure Qx (p:ab) (l:List ba):Prop where
 each:∀n∈l,(n.2=1\/n.2=2)/\0<=n.1/\n.1<(p.1.length:Int)
 one:∀m∈l,∀n∈l,m.1=n.1->m.2=n.2
theorem qk {p:ab} {e:Int} (h:aK p e≠0):0<=e/\e<(p.1.length:Int):=by
 unfold aK at h
 cases hb:(decide (e<0)||decide ((p.1.length:Int)<=e)) with
 |true=>rw[hb] at h;exact absurd rfl h
 |false=>
  rw[Bool.or_eq_false_iff] at hb
  have h1:=of_decide_eq_false hb.1
  have h2:=of_decide_eq_false hb.2
  omega
theorem PY:∀{l:List ba},(l.map Prod.fst).Nodup->∀m∈l,∀n∈l,m.1=n.1->m=n
 |[],_,m,hm,_,_,_=>absurd hm List.not_mem_nil
 |x::l,h,m,hm,n,hn,e=>by
  rw[List.map_cons,List.nodup_cons] at h
  rcases List.mem_cons.1 hm with em|mm
  ·rcases List.mem_cons.1 hn with en|mn
   ·rw[em,en]
   ·rw[em] at e
    exact(h.1 (by rw[e];exact List.mem_map_of_mem mn)).elim
  ·rcases List.mem_cons.1 hn with en|mn
   ·rw[en] at e
    exact(h.1 (by rw[<-e];exact List.mem_map_of_mem mm)).elim
   ·exact PY h.2 m mm n mn e
theorem OK {p:ab} (h:pN p) {r:af} (hr:r∈(bz p).1):Qx p (aR r):=by
 obtain⟨_,_,hJ,_,_⟩:=gw h.check
 have dE:=Kg h hr
 obtain⟨q,hq,rfl⟩:=h.rz r hr
 have hs:=tA p q
 have hg:uj p q (bF p q (bE p q).length):=
  qo (nL hJ q) ⟨⟨rfl,rfl,rfl,rfl,rfl,rfl⟩,fun g hg=>absurd hg List.not_mem_nil,fun g hg=>absurd hg List.not_mem_nil⟩ _
 have eg:(dV p q).2.2.2.2.2.1=aS (bF p q (bE p q).length):=by unfold dV iZ;rfl
 have rC:∀n∈(dV p q).2.2.2.2.1,kI q n.1=true:=fun n hn=>by
  obtain⟨⟨s,nI,e⟩,_⟩:=dE.Kt n hn
  rw[hs.2.2.2.1] at nI
  unfold kI bN cw
  exact List.any_eq_true.2 ⟨n.1,List.mem_map.2 ⟨s,nI,e⟩,by simp⟩
 have aeq:∀n∈(dV p q).2.2.2.2.1,(n.2=1\/n.2=2)/\0<=n.1/\n.1<(p.1.length:Int):=fun n hn=>by
  obtain⟨⟨s,nI,e⟩,h2⟩:=dE.Kt n hn
  refine⟨h2,?_⟩
  rw[<-e]
  rcases dE.pass s nI with hk|⟨w,hw,_⟩
  ·exact qk (by rw[hk];decide)
  ·have hh:dC p (s.1,s.2.1)=true:=by
    cases hh:dC p (s.1,s.2.1) with
    |true=>rfl
    |false=>unfold bG at hw;rw[hh] at hw;cases hw
   have:=me hh
   exact⟨this.1,this.2.1⟩
 unfold aR
 refine⟨fun n hn=> ?_,fun m hm n hn e=> ?_⟩
 ·rcases List.mem_append.1 hn with hn|hn
  ·exact aeq n hn
  ·rw[eg] at hn
   have:=hg.each n hn
   exact⟨this.1,qk (by rw[this.2.1];decide)⟩
 ·rcases List.mem_append.1 hm with hm|hm
  ·rcases List.mem_append.1 hn with hn|hn
   ·rw[PY dE.once m hm n hn e]
   ·rw[eg] at hn
    have h1:=rC m hm
    have h2:=(hg.each n hn).2.2
    rw[e,h2] at h1
    cases h1
  ·rw[eg] at hm
   rcases List.mem_append.1 hn with hn|hn
   ·have h1:=rC n hn
    have h2:=(hg.each m hm).2.2
    rw[<-e,h2] at h1
    cases h1
   ·rw[eg] at hn
    exact hg.one m hm n hn e
theorem U1 (l:List Int) (x e:Int):bN (l++[x]) e=(bN l e||x==e):=by
 unfold bN
 rw[List.any_append]
 simp
end YtjnappfomhkeeaaGreat
end Go.Proofs
end
