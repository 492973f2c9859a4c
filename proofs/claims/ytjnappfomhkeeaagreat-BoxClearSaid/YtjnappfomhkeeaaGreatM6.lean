/-
  Contracts of the program's box, with annotations; The program's box: what it tells, what it is told, what a road sees: proofs; The program's Tick: proof; Contra.
-/
import Derived.Test.YtjnappfomhkeeaaGreatM5
import Derived.Test.YtjnappfomhkeeaaGreatM3
import Derived.Test.YtjnappfomhkeeaaGreatRows
import Derived.Test.YtjnappfomhkeeaaGreatM4
import Derived.WalkKit
import Derived.ProofKit
import Derived.OpenShut
import Derived.ShutString
import Derived.ChangeOld
import Derived.Below

section
set_option maxRecDepth 100000
set_option linter.unusedVariables false
set_option linter.unusedSimpArgs false
set_option maxHeartbeats 8000000
namespace Go.Proofs
open Go Go.Vc
namespace YtjnappfomhkeeaaGreat
structure kW (W:fh):Prop where
 KN:lA W.1
 inv:Inv W.1 W.2.1 W.2.2.1
 net:gS W.2.2.2.1.1
 asp:W.2.2.2.2.length<=1000
def GW (S:St) (b:Nat) (l:List (Nat×C)):c7:=
 match find S.bl b with
 |some (.cells cs)=> .cells (l.foldl (fun cs p=>cs.set p.1 p.2) cs)
 |_=> .cells []
def YI:fG where
 args:=[.row 73 kT]
 outs:=[.row 73 kT]
 pre:=fun(x:List cI×Unit)=>cR x.1
 fn:=fun(x:List cI×Unit)=>x
def A2:fG where
 args:=[Gh]
 outs:=[.row 73 kT]
 pre:=fun(x:fh×Unit)=>kW x.1
 fn:=fun(x:fh×Unit)=>(x.1.2.1,())
def YY:List Nat:=[1000000,1000001,1000002,1000003,1000004,1000005,1000006,1000007,1000008,1000009]
def a17 (x:fh×Unit):eA:=bh [(3,fun _=>mS x.1.2.1.length 12 3 1000 73 kT (fun _=>x.1.2.1) [0,11] YY)]
def YO:fG where
 args:=[Gh]
 outs:=[.row 3 I]
 pre:=fun(x:fh×Unit)=>kW x.1
 fn:=fun(x:fh×Unit)=>(x.1.2.2.2.2,())
def DE:fG where
 args:=[Gh]
 outs:=[Af]
 pre:=fun(x:fh×Unit)=>True
 fn:=fun(x:fh×Unit)=>(x.1.2.2.1,())
def DF:fG where
 args:=[Gh]
 outs:=[.aG mN]
 pre:=fun(x:fh×Unit)=>cY x.1.1.1
 fn:=fun(x:fh×Unit)=>((cK x.1.1.1).1,())
def V2:fG where
 args:=[Gh,.aG Qy]
 outs:=[.aG Qy]
 pre:=fun(x:fh×gQ×Unit)=>x.2.1.1.length=x.1.1.1.1.length/\cR x.2.1.1
 fn:=fun(x:fh×gQ×Unit)=>(ie x.1.1.1 x.2.1,())
def a65 (x:fh×gQ×Unit):eA:=bh [(3,fun S=>{
 σ:=Nat
 ok:=fun k=>k<=x.2.1.1.length
 mu:=fun k=>x.2.1.1.length - k
 sl:=fun k=>[(13,.one (.aG I (k:Int)))]
 bl:=fun k=>[(8,.row false 4 .bool (gC x.1.1.1 x.2.1.1 k))]
 keep:=[0,3,4,12]
 cv:=[3,4]++YY})]
def Cv (c:bO) (inn:gQ) (i:Int):Prop:=lA c/\(0<=i/\i<(c.2.length:Int))/\inn.1.length=c.1.1.length/\inn.2.1.length=c.1.1.length/\inn.2.2.1.length=c.1.2.2.1.length/\inn.2.2.2.length=c.1.2.2.1.length
abbrev afu:eU:= .pair (.row 4 .bool) (.aG (.pair .bool (.pair .bool (.pair .bool (.pair .bool (.pair .bool .bool))))))
def YG:fG where
 args:=[.aG (.ref ZE),.aG Qy,.aG I,.aG (.map I .bool)]
 outs:=[afu]
 pre:=fun(x:Gi×gQ×Int×List (Int×Bool)×Unit)=>Cv x.1.1 x.2.1 x.2.2.1
 fn:=fun(x:Gi×gQ×Int×List (Int×Bool)×Unit)=>(q6 (aD x.1.1 x.2.2.1) x.2.1 x.2.2.1 x.2.2.2.1,())
 fS:=fun x=>x
def c67:bg where
 args:=[.ref ZE,Qy,I,.map I .bool]
 out:= .fresh [SL]
 pre:=fun(x:Gi×gQ×Int×List (Int×Bool)×Unit)=>Cv x.1.1 x.2.1 x.2.2.1
 fn:=fun(x:Gi×gQ×Int×List (Int×Bool)×Unit)=>(q6 (aD x.1.1 x.2.2.1) x.2.1 x.2.2.1 x.2.2.2.1,())
def a67 (x:Gi×gQ×Int×List (Int×Bool)×Unit):eA:=
 bh [(4,fun S=>{
  σ:=Nat
  ok:=fun k=>k<=(aD x.1.1 x.2.2.1).2.2.2.1.length
  mu:=fun k=>(aD x.1.1 x.2.2.1).2.2.2.1.length - k
  sl:=fun k=>[(47,.one (.aG I (k:Int)))]
  bl:=fun k=>[(10,GW S 10 [(0,.row .bool 1000),(3,.aG .bool (((aD x.1.1 x.2.2.1).2.2.2.1.take k).all (yJ x.2.1.1)))]),(1000,.row false 4 .bool (((aD x.1.1 x.2.2.1).2.2.2.1.take k).map (HF x.2.1.1)))]
  keep:=[5,8,9,10,45,46]
  cv:=[5,8,9]}),
 (10,fun S=>{
  σ:=Nat
  ok:=fun k=>k<=(aD x.1.1 x.2.2.1).2.2.2.2.2.2.1.length
  mu:=fun k=>(aD x.1.1 x.2.2.1).2.2.2.2.2.2.1.length - k
  sl:=fun k=>[(78,.one (.aG I (k:Int)))]
  bl:=fun k=>[(10,GW S 10 [(3,.aG .bool ((aD x.1.1 x.2.2.1).2.2.2.1.all (yJ x.2.1.1)&&((aD x.1.1 x.2.2.1).2.2.2.2.2.2.1.take k).all (Cw x.2.1.1)))])]
  keep:=[5,8,9,10,76,77]
  cv:=[5,8,9,1000]}),
 (15,fun S=>{
  σ:=Nat
  ok:=fun k=>k<=(aR (aD x.1.1 x.2.2.1)).length
  mu:=fun k=>(aR (aD x.1.1 x.2.2.1)).length - k
  sl:=fun k=>[(101,.one (.aG I (k:Int)))]
  bl:=fun k=>[(10,GW S 10 [(2,.aG .bool (((aR (aD x.1.1 x.2.2.1)).take k).all (liesAt x.2.1.2.1)))])]
  keep:=[5,8,9,10,99,100]
  cv:=[5,8,9,99,1000]})]
def qy (W:fh) (inn:gQ) (calls cancels:List Int):Prop:=kW W/\calls.length<=1000/\cancels.length<=1000
def JU:fG where
 args:=[Gh,.aG Qy,.aG (.list I),.aG (.list I)]
 outs:=[.aG (.pair (.list I) (.pair (.list I) (.list I))),.aG I]
 pre:=fun(x:fh×gQ×List Int×List Int×Unit)=>qy x.1 x.2.1 x.2.2.1 x.2.2.2.1
 fn:=fun(x:fh×gQ×List Int×List Int×Unit)=>((gq x.1 x.2.1 x.2.2.1 x.2.2.2.1).2.1,(gq x.1 x.2.1 x.2.2.1 x.2.2.2.1).2.2,())
 fS:=fun(x:fh×gQ×List Int×List Int×Unit)=>((gq x.1 x.2.1 x.2.2.1 x.2.2.2.1).1,x.2)
def roadsOf (x:fh×gQ×List Int×List Int×Unit) (k:Nat):yc:=lh x.1.1 (ie x.1.1.1 x.2.1) (gL x.2.2.2.1 x.2.2.2.1.length) (x.1.2.1,x.1.2.2.1) k
def bA (x:fh×gQ×List Int×List Int×Unit) (k:Nat):wo:=rb x.1.1 (ie x.1.1.1 x.2.1) x.2.2.1 ((roadsOf x x.1.2.1.length).1,(roadsOf x x.1.2.1.length).2,x.1.2.2.2.1,[]) k
def Nw (x:fh×gQ×List Int×List Int×Unit) (k:Nat):cI×List Int:=dc ((roadsOf x k).1.getD k gk) (q6 (aD x.1.1 (k:Int)) (ie x.1.1.1 x.2.1) (k:Int) (gL x.2.2.2.1 x.2.2.2.1.length))
def gT (x:fh×gQ×List Int×List Int×Unit) (i:Int) (k:Nat):av:=pS (aD x.1.1 i) i (Nw x i.toNat).2 (roadsOf x i.toNat).2 k
def Jc (W:fh) (n:Nat):List (Nat×c7):=[
 (1000000,.cells (flat mN W.1++[.row kT n,.ptr 1000002 0,.ptr 1000007 0,.row I (n+1)])),
 (1000002,.cells [.aG I W.2.2.1.1,.map I (.list I) (n+2),.map I (.list I) (n+3),.map I (.list eB) (n+4),.map I (.list eB) (n+5)]),
 (1000007,.cells [.aG (.ptr jx) W.2.2.2.1.1,.map lx .bool (n+6)]),
 (n,.row false 73 kT W.2.1),(n+1,.row false 3 I W.2.2.2.2),
 (n+2,.map false I (.list I) W.2.2.1.2.1 none),(n+3,.map false I (.list I) W.2.2.1.2.2.1 none),(n+4,.map false I (.list eB) W.2.2.1.2.2.2.1 none),(n+5,.map false I (.list eB) W.2.2.1.2.2.2.2 none),
 (n+6,.map false lx .bool W.2.2.2.1.2 none)]
def a26 (x:fh×gQ×List Int×List Int×Unit):eA:=bh [
 (7,fun S=>{
  σ:=Nat
  ok:=fun k=>k<=x.2.2.2.1.length
  mu:=fun k=>x.2.2.2.1.length - k
  sl:=fun k=>[(73,.one (.aG I (k:Int)))]
  bl:=fun k=>(70,.map false I .bool (gL x.2.2.2.1 k) none)::Jc x.1 2000
  keep:=[0,2,5,8,10,11,12,71,72]
  cv:=[5,8]}),
 (12,fun S=>{
  σ:=Nat
  ok:=fun k=>k<=x.1.2.1.length
  mu:=fun k=>x.1.2.1.length - k
  sl:=fun k=>[(85,.one (.aG I (k:Int)))]
  bl:=fun k=>(70,.map false I .bool (gL x.2.2.2.1 x.2.2.2.1.length) none)::Jc (x.1.1,(roadsOf x k).1,(roadsOf x k).2,x.1.2.2.2.1,x.1.2.2.2.2) 2000
  keep:=[0,2,5,8,10,11,12,84]
  cv:=[5,8]}),
 (18,fun S=>{
  σ:=Nat
  ok:=fun k=>k<=(Nw x (da S 15).toNat).2.length
  mu:=fun k=>(Nw x (da S 15).toNat).2.length - k
  sl:=fun k=>[(122,.one (.aG I (k:Int)))]
  bl:=fun k=>Jc (x.1.1,(roadsOf x (da S 15).toNat).1.set (da S 15).toNat (Nw x (da S 15).toNat).1,gT x (da S 15) k,x.1.2.2.2.1,x.1.2.2.2.2) 2000
  keep:=[0,2,5,8,10,11,12,15,16,84,85,120,121]
  cv:=[5,8,16,70]}),
 (27,fun S=>{
  σ:=Nat
  ok:=fun k=>k<=x.2.2.1.length
  mu:=fun k=>x.2.2.1.length - k
  sl:=fun k=>[(158,.one (.aG I (k:Int)))]
  bl:=fun k=>(20,GW S 20 [(2,.row I 1000)])::(1000,.row false 35 I (bA x k).2.2.2)::Jc (x.1.1,(bA x k).1,(bA x k).2.1,(bA x k).2.2.1,x.1.2.2.2.2) 2000
  keep:=[0,5,8,10,11,20,156,157]
  cv:=[5,8]}),
 (41,fun S=>{
  σ:=Nat
  ok:=fun k=>k<=x.1.1.1.1.length
  mu:=fun k=>x.1.1.1.1.length - k
  sl:=fun k=>[(248,.one (.aG I (k:Int)))]
  bl:=fun k=>(20,.cells [.row I 1001,.row I 1002,.row I 1000])::(1000,.row false 35 I (bA x x.2.2.1.length).2.2.2)::(1001,.row false 3 I (fW x.1.1 (bA x x.2.2.1.length).1))::(1002,.row false 3 I (jy x.1.1.1 (bA x x.2.2.1.length).2.1 k))::
   Jc (x.1.1,(bA x x.2.2.1.length).1,(bA x x.2.2.1.length).2.1,(bA x x.2.2.1.length).2.2.1,fW x.1.1 (bA x x.2.2.1.length).1) 2000
  keep:=[0,8,10,20,247]
  cv:=[8]})]
theorem v57 (l:List (Int×Int×Bool×List Bool)):bS (aj aA []) Tryz.f57 YI ar (l,())=(
U (List.replicate (0:Nat) ((0:Int),(0:Int),false,[])) fun(y1:List (Int×Int×Bool×List Bool))=>
∀(b2:Bool),(b2=true->l=[])->(b2=true->[]=l/\l=l/\True)/\(b2=false->roomFor (y1.length+l.length) (48:Nat)/\y1++l=l/\l=l/\True)):=by kernel_rfl
theorem ahB:fq Tryz.prog 57 YI:=
 fq.b3 (l:=[]) (A:=fun _=>ar) aJ trivial Tryz.func57 (by kernel_rfl) (by kernel_rfl) fun x hw hp=>by
  obtain⟨l,⟨⟩⟩:=x
  have hp:l.length<=1000:=hp
  rw[v57]
  refine U.mk fun y1 e1 b h=>⟨fun e=>⟨(h e).symm,rfl,trivial⟩,fun _=> ?_⟩
  have e1:y1=[]:=e1
  rw[e1]
  exact⟨cT (by show 0+_<=_;omega) (by decide),rfl,rfl,trivial⟩
theorem Inv.seen {c:bO} (hc:lA c) {ls:List cI} {b:av} (h:Inv c ls b) (i:Nat):(ls.getD i gk).2.2.2.length<=12:=by
 by_cases hi:i<c.2.length
 ·have hr:=(hc.rz _ (kX (c:=c) (o:=(i:Int)) (by omega))).len.2
  rcases h.FI i hi with e|e
  ·rw[e];exact Nat.zero_le _
  ·rw[e.2.2.1];exact hr
 ·rw[List.getD_eq_getElem?_getD,List.getElem?_eq_none (by rw[h.len];omega)]
  exact Nat.zero_le _
def ZA (W:((ab)×List (af))×List (Int×Int×Bool×List Bool)×(av)×(Option (bk)×List ((Int×Int)×Bool))×List Int) (R:Prop):Prop:=(↑W.snd.fst.length:Int)=(↑W.snd.fst.length:Int)/\W.snd.fst=W.snd.fst/\W.fst.fst.fst=W.fst.fst.fst/\W.fst.fst.snd.fst=W.fst.fst.snd.fst/\W.fst.fst.snd.snd.fst=W.fst.fst.snd.snd.fst/\W.fst.fst.snd.snd.snd.fst=W.fst.fst.snd.snd.snd.fst/\W.fst.fst.snd.snd.snd.snd.fst=W.fst.fst.snd.snd.snd.snd.fst/\W.fst.fst.snd.snd.snd.snd.snd.fst=W.fst.fst.snd.snd.snd.snd.snd.fst/\W.fst.fst.snd.snd.snd.snd.snd.snd.fst=W.fst.fst.snd.snd.snd.snd.snd.snd.fst/\W.fst.fst.snd.snd.snd.snd.snd.snd.snd.fst=W.fst.fst.snd.snd.snd.snd.snd.snd.snd.fst/\W.fst.fst.snd.snd.snd.snd.snd.snd.snd.snd=W.fst.fst.snd.snd.snd.snd.snd.snd.snd.snd/\W.fst.snd=W.fst.snd/\W.snd.fst=W.snd.fst/\W.snd.snd.fst.fst=W.snd.snd.fst.fst/\W.snd.snd.fst.snd.fst=W.snd.snd.fst.snd.fst/\W.snd.snd.fst.snd.snd.fst=W.snd.snd.fst.snd.snd.fst/\W.snd.snd.fst.snd.snd.snd.fst=W.snd.snd.fst.snd.snd.snd.fst/\W.snd.snd.fst.snd.snd.snd.snd=W.snd.snd.fst.snd.snd.snd.snd/\W.snd.snd.snd.fst.fst=W.snd.snd.snd.fst.fst/\W.snd.snd.snd.fst.snd=W.snd.snd.snd.fst.snd/\W.snd.snd.snd.snd=W.snd.snd.snd.snd/\R
def Zz (W:((ab)×List (af))×List (Int×Int×Bool×List Bool)×(av)×(Option (bk)×List ((Int×Int)×Bool))×List Int) (R:Prop):Prop:=W.fst.fst.fst=W.fst.fst.fst/\W.fst.fst.snd.fst=W.fst.fst.snd.fst/\W.fst.fst.snd.snd.fst=W.fst.fst.snd.snd.fst/\W.fst.fst.snd.snd.snd.fst=W.fst.fst.snd.snd.snd.fst/\W.fst.fst.snd.snd.snd.snd.fst=W.fst.fst.snd.snd.snd.snd.fst/\W.fst.fst.snd.snd.snd.snd.snd.fst=W.fst.fst.snd.snd.snd.snd.snd.fst/\W.fst.fst.snd.snd.snd.snd.snd.snd.fst=W.fst.fst.snd.snd.snd.snd.snd.snd.fst/\W.fst.fst.snd.snd.snd.snd.snd.snd.snd.fst=W.fst.fst.snd.snd.snd.snd.snd.snd.snd.fst/\W.fst.fst.snd.snd.snd.snd.snd.snd.snd.snd=W.fst.fst.snd.snd.snd.snd.snd.snd.snd.snd/\W.fst.snd=W.fst.snd/\W.snd.fst=W.snd.fst/\W.snd.snd.fst.fst=W.snd.snd.fst.fst/\W.snd.snd.fst.snd.fst=W.snd.snd.fst.snd.fst/\W.snd.snd.fst.snd.snd.fst=W.snd.snd.fst.snd.snd.fst/\W.snd.snd.fst.snd.snd.snd.fst=W.snd.snd.fst.snd.snd.snd.fst/\W.snd.snd.fst.snd.snd.snd.snd=W.snd.snd.fst.snd.snd.snd.snd/\W.snd.snd.snd.fst.fst=W.snd.snd.snd.fst.fst/\W.snd.snd.snd.fst.snd=W.snd.snd.snd.fst.snd/\W.snd.snd.snd.snd=W.snd.snd.snd.snd/\R
def Zy (W:((ab)×List (af))×List (Int×Int×Bool×List Bool)×(av)×(Option (bk)×List ((Int×Int)×Bool))×List Int) (R:Prop):Prop:=W.fst=W.fst/\W.snd.fst=W.snd.fst/\W.snd.snd.fst.fst=W.snd.snd.fst.fst/\R
theorem v17 (W:((ab)×List (af))×List (Int×Int×Bool×List Bool)×(av)×(Option (bk)×List ((Int×Int)×Bool))×List Int):bS (aj aA [(57,YI),(58,I4)]) Tryz.f17 A2 (a17 (W,())) (W,())=(
U ((0:Int),(0:Int),false,[]) fun(y1:Int×Int×Bool×List Bool)=>
cR W.2.1/\
(∃(dr:Nat),dr<=W.2.1.length/\
(↑dr:Int)=(0:Int)/\ZA W (True))/\∀(s2:Nat),U (decide ((↑s2:Int)<(↑W.2.1.length:Int))) fun(y3:Bool)=>
U (W.2.1.getD (↑s2:Int).toNat y1) fun(y4:Int×Int×Bool×List Bool)=>
s2<=W.2.1.length->
(y3=true->aL (↑s2:Int) W.2.1.length/\cR y4.2.2.2/\aL (↑s2:Int) W.2.1.length/\bo IntKind.i64 ((↑s2:Int)+(1:Int))/\∃(gO:Nat),gO<=W.2.1.length/\W.2.1.length - gO<W.2.1.length - s2/\
(↑gO:Int)=(↑s2:Int)+(1:Int)/\
(↑W.2.1.length:Int)=(↑W.2.1.length:Int)/\W.2.1=W.2.1.set (↑s2:Int).toNat y4/\Zz W (True))/\
(y3=false->W.2.1=W.2.1/\Zy W (W.2.2.1.2.1.Perm W.2.2.1.2.1/\W.2.2.1.2.2.1.Perm W.2.2.1.2.2.1/\W.2.2.1.2.2.2.1.Perm W.2.2.1.2.2.2.1/\W.2.2.1.2.2.2.2.Perm W.2.2.1.2.2.2.2/\W.2.2.2.1.1=W.2.2.2.1.1/\W.2.2.2.1.2.Perm W.2.2.2.1.2/\W.2.2.2.2=W.2.2.2.2/\True))):=by kernel_rfl
theorem b17 (W:fh) (hp:kW W):bS (aj aA [(57,YI),(58,I4)]) Tryz.f17 A2 (a17 (W,())) (W,()):=by
 have hl:W.2.1.length<=64:=by rw[hp.inv.len];exact hp.KN.Sh
 rw[v17]
 simp only[ZA,Zz,Zy,true_and,and_true,eq_self,List.Perm.refl]
 refine U.mk fun y1 e1=>⟨by show _<=_;omega,⟨0,Nat.zero_le _,rfl⟩,fun s=>U.mk fun y3 e3=>U.mk fun y4 e4 hs=>⟨fun h=> ?_,fun _=>trivial⟩⟩
 rw[e3] at h
 have h:=of_decide_eq_true h
 rw[Int.toNat_natCast] at *
 have e4:y4=W.2.1.getD s gk:=by rw[e4,e1];rfl
 refine⟨⟨by omega,by omega⟩,?_,⟨by omega,by omega⟩,aY (by omega) (by omega),s+1,by omega,by omega,by omega,?_⟩
 ·rw[e4]
  have:=hp.inv.seen hp.KN s
  show _<=1000
  omega
 ·rw[e4,Ef (d:=gk) (by omega) rfl]
theorem abw:fq Tryz.prog 17 A2:=
 fq.b3 (l:=[(57,YI),(58,I4)]) (A:=a17) aJ ⟨ahB,W0,trivial⟩ Tryz.func17 (by kernel_rfl) (by kernel_rfl) fun x hw hp=>b17 x.1 hp
def Zx (W:((ab)×List (af))×List (Int×Int×Bool×List Bool)×(av)×(Option (bk)×List ((Int×Int)×Bool))×List Int) (R:Prop):Prop:=W.snd.snd.snd.snd=W.snd.snd.snd.snd/\W.fst=W.fst/\W.snd.fst=W.snd.fst/\W.snd.snd.fst.fst=W.snd.snd.fst.fst/\R
theorem v18 (W:((ab)×List (af))×List (Int×Int×Bool×List Bool)×(av)×(Option (bk)×List ((Int×Int)×Bool))×List Int):bS (aj aA [(59,IZ)]) Tryz.f18 YO ar (W,())=(
cR W.2.2.2.2/\Zx W (W.2.2.1.2.1.Perm W.2.2.1.2.1/\W.2.2.1.2.2.1.Perm W.2.2.1.2.2.1/\W.2.2.1.2.2.2.1.Perm W.2.2.1.2.2.2.1/\W.2.2.1.2.2.2.2.Perm W.2.2.1.2.2.2.2/\W.2.2.2.1.1=W.2.2.2.1.1/\W.2.2.2.1.2.Perm W.2.2.2.1.2/\W.2.2.2.2=W.2.2.2.2/\True)):=by kernel_rfl
theorem ahU:fq Tryz.prog 18 YO:=
 fq.b3 (l:=[(59,IZ)]) (A:=fun _=>ar) aJ ⟨Tf,trivial⟩ Tryz.func18 (by kernel_rfl) (by kernel_rfl) fun x hw hp=>by
  obtain⟨W,⟨⟩⟩:=x
  have hp:kW W:=hp
  rw[v18]
  simp only[Zx,true_and,and_true,eq_self,List.Perm.refl]
  exact hp.asp
theorem Ff (p:ab) (iL:List Bool) {k:Nat} (h:k<=iL.length):(gC p iL k).length=iL.length:=by
 unfold gC
 rw[List.length_append,List.length_map,List.length_range,List.length_drop]
 omega
theorem Ha (p:ab) (iL:List Bool) {k:Nat} (h:k<iL.length):(gC p iL k).getD k false=iL.getD k false:=by
 unfold gC
 rw[List.getD_eq_getElem?_getD,List.getElem?_append_right (by simp),List.length_map,List.length_range,Nat.sub_self,List.getElem?_drop,List.getD_eq_getElem?_getD]
 rfl
theorem Cy (p:ab) (iL:List Bool) {k:Nat} (h:k<iL.length):gC p iL (k+1)=(gC p iL k).set k (CL p iL k):=by
 unfold gC
 rw[List.set_append_right _ _ (by simp),List.length_map,List.length_range,Nat.sub_self,List.range_succ,List.map_append,List.append_assoc,List.drop_eq_getElem_cons h,List.set_cons_zero]
 rfl
def SO (inn:List Bool×List Int×List Bool×List Bool) (W:((ab)×List (af))×List (Int×Int×Bool×List Bool)×(av)×(Option (bk)×List ((Int×Int)×Bool))×List Int) (R:Prop):Prop:=inn.snd.fst=inn.snd.fst/\inn.snd.snd.fst=inn.snd.snd.fst/\inn.snd.snd.snd=inn.snd.snd.snd/\W.fst.fst.fst=W.fst.fst.fst/\W.fst.fst.snd.fst=W.fst.fst.snd.fst/\W.fst.fst.snd.snd.fst=W.fst.fst.snd.snd.fst/\W.fst.fst.snd.snd.snd.fst=W.fst.fst.snd.snd.snd.fst/\W.fst.fst.snd.snd.snd.snd.fst=W.fst.fst.snd.snd.snd.snd.fst/\W.fst.fst.snd.snd.snd.snd.snd.fst=W.fst.fst.snd.snd.snd.snd.snd.fst/\W.fst.fst.snd.snd.snd.snd.snd.snd.fst=W.fst.fst.snd.snd.snd.snd.snd.snd.fst/\W.fst.fst.snd.snd.snd.snd.snd.snd.snd.fst=W.fst.fst.snd.snd.snd.snd.snd.snd.snd.fst/\W.fst.fst.snd.snd.snd.snd.snd.snd.snd.snd=W.fst.fst.snd.snd.snd.snd.snd.snd.snd.snd/\W.fst.snd=W.fst.snd/\W.snd.fst=W.snd.fst/\W.snd.snd.fst.fst=W.snd.snd.fst.fst/\W.snd.snd.fst.snd.fst=W.snd.snd.fst.snd.fst/\W.snd.snd.fst.snd.snd.fst=W.snd.snd.fst.snd.snd.fst/\W.snd.snd.fst.snd.snd.snd.fst=W.snd.snd.fst.snd.snd.snd.fst/\W.snd.snd.fst.snd.snd.snd.snd=W.snd.snd.fst.snd.snd.snd.snd/\W.snd.snd.snd.fst.fst=W.snd.snd.snd.fst.fst/\W.snd.snd.snd.fst.snd=W.snd.snd.snd.fst.snd/\W.snd.snd.snd.snd=W.snd.snd.snd.snd/\R
def Zr (W:((ab)×List (af))×List (Int×Int×Bool×List Bool)×(av)×(Option (bk)×List ((Int×Int)×Bool))×List Int) (R:Prop):Prop:=W.fst=W.fst/\W.snd.fst=W.snd.fst/\W.snd.snd.fst.fst=W.snd.snd.fst.fst/\R
theorem v65 (W:((ab)×List (af))×List (Int×Int×Bool×List Bool)×(av)×(Option (bk)×List ((Int×Int)×Bool))×List Int) (inn:List Bool×List Int×List Bool×List Bool):bS (aj aA [(58,I4)]) Tryz.f65 V2 (a65 (W,inn,())) (W,inn,())=(
cR inn.1/\
(∃(dr:Nat),dr<=inn.1.length/\
(↑dr:Int)=(0:Int)/\
(↑inn.1.length:Int)=(↑inn.1.length:Int)/\gC W.1.1 inn.1 dr=inn.1/\SO inn W (True))/\∀(s2:Nat),U (decide ((↑s2:Int)<(↑inn.1.length:Int))) fun(y3:Bool)=>
U (gC W.1.1 inn.1 s2) fun(y4:List Bool)=>
U (y4.getD (↑s2:Int).toNat false) fun(y5:Bool)=>
s2<=inn.1.length->
(y3=true->aL (↑s2:Int) y4.length/\
(y5=true->aL (↑s2:Int) W.1.1.1.length)/\aL (↑s2:Int) y4.length/\bo IntKind.i64 ((↑s2:Int)+(1:Int))/\∃(eV:Nat),eV<=inn.1.length/\inn.1.length - eV<inn.1.length - s2/\
(↑eV:Int)=(↑s2:Int)+(1:Int)/\
(↑inn.1.length:Int)=(↑inn.1.length:Int)/\gC W.1.1 inn.1 eV=y4.set (↑s2:Int).toNat (bif y5 then(W.1.1.1.getD (↑s2:Int).toNat ([],(0:Int),(0:Int))).2.1 !=(4:Int) else false)/\SO inn W (True))/\
(y3=false->
(y4,inn.2)=ie W.1.1 inn/\Zr W (W.2.2.1.2.1.Perm W.2.2.1.2.1/\W.2.2.1.2.2.1.Perm W.2.2.1.2.2.1/\W.2.2.1.2.2.2.1.Perm W.2.2.1.2.2.2.1/\W.2.2.1.2.2.2.2.Perm W.2.2.1.2.2.2.2/\W.2.2.2.1.1=W.2.2.2.1.1/\W.2.2.2.1.2.Perm W.2.2.2.1.2/\W.2.2.2.2=W.2.2.2.2/\True))):=by kernel_rfl
theorem b65 (W:fh) (inn:gQ) (hp:inn.1.length=W.1.1.1.length/\inn.1.length<=1000):bS (aj aA [(58,I4)]) Tryz.f65 V2 (a65 (W,inn,())) (W,inn,()):=by
 rw[v65]
 simp only[SO,Zr,true_and,and_true,eq_self,List.Perm.refl]
 refine⟨hp.2,⟨0,Nat.zero_le _,rfl,by unfold gC;rfl⟩,fun s=>U.mk fun y3 e3=>U.mk fun y4 e4=>U.mk fun y5 e5 hs=>⟨fun h=> ?_,fun h=> ?_⟩⟩
 ·rw[e3] at h
  have h:=of_decide_eq_true h
  have dQ:s<inn.1.length:=by omega
  have hl4:y4.length=inn.1.length:=by rw[e4];exact Ff _ _ hs
  rw[Int.toNat_natCast] at *
  have e5:y5=inn.1.getD s false:=by rw[e5,e4];exact Ha _ _ dQ
  refine⟨⟨by omega,by omega⟩,fun _=>⟨by omega,by omega⟩,⟨by omega,by omega⟩,aY (by omega) (by omega),s+1,by omega,by omega,by omega,?_⟩
  rw[Cy _ _ dQ,<-e4,e5]
  unfold CL
  have key:∀a b:Bool,(a&& !b)=bif a then !b else false:=by decide
  rw[key]
  rfl
 ·rw[e3] at h
  have h:=of_decide_eq_false h
  have:s=inn.1.length:=by omega
  rw[e4,this]
  unfold ie
  rfl
theorem ahy:fq Tryz.prog 65 V2:=
 fq.b3 (l:=[(58,I4)]) (A:=a65) aJ ⟨W0,trivial⟩ Tryz.func65 (by kernel_rfl) (by kernel_rfl) fun x hw hp=>b65 x.1 x.2.1 hp
theorem EV {α:Type} (f:α->Bool) (l:List α) (d:α) {k:Nat} (h:k<l.length):(l.take (k+1)).all f=((l.take k).all f&&f (l.getD k d)):=by
 rw[eQ d h,List.all_append,List.all_cons,List.all_nil,Bool.and_true]
theorem r9 (a b:Bool):(bif a then b else false)=(a&&b):=by cases a<;>rfl
def N9 (y4:af) (y6:Bool) (R:Prop):Prop:=y4.snd.snd.snd.fst=y4.snd.snd.snd.fst/\(↑y4.snd.snd.snd.fst.length:Int)=(↑y4.snd.snd.snd.fst.length:Int)/\y6=y6/\true=true/\R
def N8 (y7:Bool) (y8:Bool) (y9:Bool) (R:Prop):Prop:=y7=y7/\y8=y8/\y9=y9/\R
def N7 (inn:List Bool×List Int×List Bool×List Bool) (R:Prop):Prop:=inn.fst=inn.fst/\inn.snd.fst=inn.snd.fst/\inn.snd.snd.fst=inn.snd.snd.fst/\inn.snd.snd.snd=inn.snd.snd.snd/\false=false/\false=false/\false=false/\false=false/\false=false/\false=false/\R
def N6 (y4:af) (y6:Bool) (R:Prop):Prop:=y4.snd.snd.snd.snd.snd.snd.fst=y4.snd.snd.snd.snd.snd.snd.fst/\(↑y4.snd.snd.snd.snd.snd.snd.fst.length:Int)=(↑y4.snd.snd.snd.snd.snd.snd.fst.length:Int)/\y6=y6/\true=true/\R
def N5 (y7:Bool) (y8:Bool) (y9:Bool) (inn:List Bool×List Int×List Bool×List Bool) (R:Prop):Prop:=y7=y7/\y8=y8/\y9=y9/\inn.fst=inn.fst/\inn.snd.fst=inn.snd.fst/\inn.snd.snd.fst=inn.snd.snd.fst/\inn.snd.snd.snd=inn.snd.snd.snd/\false=false/\false=false/\false=false/\false=false/\false=false/\false=false/\R
def N4 (eC:Bool) (y7:Bool) (y8:Bool) (y9:Bool) (inn:List Bool×List Int×List Bool×List Bool) (R:Prop):Prop:=eC=eC/\y7=y7/\y8=y8/\y9=y9/\inn.fst=inn.fst/\inn.snd.fst=inn.snd.fst/\inn.snd.snd.fst=inn.snd.snd.fst/\inn.snd.snd.snd=inn.snd.snd.snd/\false=false/\false=false/\false=false/\false=false/\false=false/\false=false/\R
theorem af1 (b:((ab)×List (af))×List (Int×Int×Bool×List Bool)×Option (av)×Option (Option (bk)×List ((Int×Int)×Bool))×List Int) (inn:List Bool×List Int×List Bool×List Bool) (i:Int) (gone:List (Int×Bool)):bS (aj aA [(76,Cd)]) Tryz.f67 YG (a67 (b,inn,i,gone,())) (b,inn,i,gone,())=(
U (b.1.2.getD i.toNat ((0:Int),(0:Int),(0:Int),[],[],[],[],[],false)) fun(y4:af)=>
U (aD b.1 i).2.2.2 fun(y5:List cu×List ba×List ba×List Int×List Int×Bool)=>
U (y4.2.2.1==(2:Int)) fun(y6:Bool)=>
U (inn.2.2.1.getD y4.1.toNat false) fun(y7:Bool)=>
U (inn.2.2.2.getD y4.1.toNat false) fun(y8:Bool)=>
U ((aW I gone i).getD false) fun(y9:Bool)=>
U (y5.1.all (yJ inn.1)) fun(bu:Bool)=>
U (aR (aD b.1 i)).length fun(bH:Nat)=>
U (y4.2.2.2.2.1++y4.2.2.2.2.2.1) fun(aw:List (Int×Int))=>
U (q6 (aD b.1 i) inn i gone) fun(aB:kS)=>
aL i b.1.2.length/\aL y4.1 inn.2.2.1.length/\aL y4.1 inn.2.2.2.length/\
(∃(Ft:Nat),Ft<=y5.1.length/\
(↑Ft:Int)=(0:Int)/\N9 y4 y6 ((List.take Ft y5.1).all (yJ inn.1)=true/\N8 y7 y8 y9 (List.map (HF inn.1) (List.take Ft y5.1)=[]/\N7 inn (ay y4 (True)))))/\∀(vj:Nat),U (decide ((↑vj:Int)<(↑y4.2.2.2.1.length:Int))) fun(bC:Bool)=>
U (y4.2.2.2.1.getD (↑vj:Int).toNat ((0:Int),(0:Int),(0:Int))).1 fun(cC:Int)=>
U (List.map (HF inn.1) (List.take vj y5.1)) fun(cy:List Bool)=>
U (inn.1.getD cC.toNat false) fun(dN:Bool)=>
U ((List.replicate (1:Nat) false).set (0:Nat) dN) fun(fw:List Bool)=>
U ((List.take vj y5.1).all (yJ inn.1)) fun(du:Bool)=>
vj<=y5.1.length->
(bC=true->aL (↑vj:Int) y4.2.2.2.1.length/\aL cC inn.1.length/\roomFor (cy.length+fw.length) (1:Nat)/\
(du=true->aL cC inn.1.length)/\bo IntKind.i64 ((↑vj:Int)+(1:Int))/\∃(OD:Nat),OD<=y5.1.length/\y5.1.length - OD<y5.1.length - vj/\
(↑OD:Int)=(↑vj:Int)+(1:Int)/\N9 y4 y6 (((List.take OD y5.1).all (yJ inn.1)=bif du then !dN else false)/\N8 y7 y8 y9 (List.map (HF inn.1) (List.take OD y5.1)=cy++fw/\N7 inn (ay y4 (True)))))/\
(bC=false->
(∃(WH:Nat),WH<=y5.2.2.2.1.length/\
(↑WH:Int)=(0:Int)/\N6 y4 y6 ((bu&&(List.take WH y5.2.2.2.1).all (Cw inn.1))=du/\N5 y7 y8 y9 inn (ay y4 (cy=cy/\True))))/\∀(Oz:Nat),U (decide ((↑Oz:Int)<(↑y4.2.2.2.2.2.2.1.length:Int))) fun(dt:Bool)=>
U (bu&&(List.take Oz y5.2.2.2.1).all (Cw inn.1)) fun(eC:Bool)=>
U (y4.2.2.2.2.2.2.1.getD (↑Oz:Int).toNat (0:Int)) fun(im:Int)=>
Oz<=y5.2.2.2.1.length->
(dt=true->aL (↑Oz:Int) y4.2.2.2.2.2.2.1.length/\
(eC=true->aL im inn.1.length)/\bo IntKind.i64 ((↑Oz:Int)+(1:Int))/\∃(rv:Nat),rv<=y5.2.2.2.1.length/\y5.2.2.2.1.length - rv<y5.2.2.2.1.length - Oz/\
(↑rv:Int)=(↑Oz:Int)+(1:Int)/\N6 y4 y6 (((bu&&(List.take rv y5.2.2.2.1).all (Cw inn.1))=bif eC then !inn.1.getD im.toNat false else false)/\N5 y7 y8 y9 inn (ay y4 (cy=cy/\True))))/\
(dt=false->cR y4.2.2.2.2.1/\roomFor (y4.2.2.2.2.1.length+y4.2.2.2.2.2.1.length) (16:Nat)/\
(∃(Kd:Nat),Kd<=bH/\
(↑Kd:Int)=(0:Int)/\
(↑aw.length:Int)=(↑aw.length:Int)/\y6=y6/\
(List.take Kd (aR (aD b.1 i))).all (YtjnappfomhkeeaaGreat.liesAt inn.2.1)=true/\N4 eC y7 y8 y9 inn (ay y4 (aw=aw/\cy=cy/\True)))/\∀(yR:Nat),U (decide ((↑yR:Int)<(↑aw.length:Int))) fun(jQ:Bool)=>
U ((List.take yR (aR (aD b.1 i))).all (YtjnappfomhkeeaaGreat.liesAt inn.2.1)) fun(lF:Bool)=>
U (aw.getD (↑yR:Int).toNat ((0:Int),(0:Int))) fun(wv:Int×Int)=>
yR<=bH->
(jQ=true->aL (↑yR:Int) aw.length/\
(lF=true->aL wv.1 inn.2.1.length)/\bo IntKind.i64 ((↑yR:Int)+(1:Int))/\∃(vr:Nat),vr<=bH/\bH - vr<bH - yR/\
(↑vr:Int)=(↑yR:Int)+(1:Int)/\
(↑aw.length:Int)=(↑aw.length:Int)/\y6=y6/\
((List.take vr (aR (aD b.1 i))).all (YtjnappfomhkeeaaGreat.liesAt inn.2.1)=bif lF then inn.2.1.getD wv.1.toNat (0:Int)==wv.2 else false)/\N4 eC y7 y8 y9 inn (ay y4 (aw=aw/\cy=cy/\True)))/\
(jQ=false->cy=aB.1/\
(y6,lF,eC,y7,y8,y9)=aB.2/\True)))):=by kernel_rfl
theorem b67 (b:Gi) (inn:gQ) (i:Int) (gone:List (Int×Bool)) (hp:Cv b.1 inn i):bS (aj aA [(76,Cd)]) Tryz.f67 YG (a67 (b,inn,i,gone,())) (b,inn,i,gone,()):=by
 obtain⟨hc,hi,h1,h2,h3,h4⟩:=hp
 have hr:=hc.rz _ (kX hi)
 have BZ:=hc.elems
 have Vo:=hc.sigs
 rw[af1]
 simp only[N9,N8,N7,N6,N5,N4,true_and,and_true,eq_self,List.Perm.refl]
 refine U.mk fun y4 e4=>U.mk fun y5 e5=>U.mk fun y6 e6=>U.mk fun y7 e7=>U.mk fun y8 e8=>U.mk fun y9 e9=>U.mk fun bu dy=>U.mk fun bH eK=>U.mk fun aw dW=>U.mk fun aB gE=> ?_
 have e4:y4=aD b.1 i:=e4
 have Yz:y4.2.2.2=y5:=by rw[e4,e5]
 rw[Yz]
 rw[<-e4] at hr e5 eK gE ⊢
 have Nj:=hr
 obtain⟨g1,g2,g3,g4,g5,g6,g7,g8,g9,_,_⟩:=hr
 rw[<-e5] at g2 g3 g5 g6 g7 g9
 have ym:aw=aR y4:=by rw[dW];unfold aR;rfl
 have an7:bH<=2000:=by rw[eK];unfold aR;rw[List.length_append];rw[Yz];omega
 rw[<-ym] at eK g8
 simp only[dp,and_true]
 refine⟨⟨hi.1,hi.2⟩,⟨g1.1,by omega⟩,⟨g1.1,by omega⟩,⟨0,Nat.zero_le _,rfl,rfl,rfl⟩,fun s=>U.mk fun bC iJ=>U.mk fun cC k7=>U.mk fun cy jF=>U.mk fun dN oh=>U.mk fun fw mH=>U.mk fun du og hs=>⟨fun h=> ?_,fun h=> ?_⟩⟩
 ·rw[iJ] at h
  have h:=of_decide_eq_true h
  have dQ:s<y5.1.length:=by omega
  rw[Int.toNat_natCast] at *
  have hm:=g3 _ (fJ ((0:Int),(0:Int),(0:Int)) dQ)
  rw[<-k7] at hm
  have mH:fw=[dN]:=mH
  have an4:cy.length=s:=by rw[jF,List.length_map,List.length_take];omega
  refine⟨⟨by omega,by omega⟩,⟨by omega,by omega⟩,cT (by rw[mH];show _+1<=_;omega) (by decide),fun _=>⟨by omega,by omega⟩,aY (by omega) (by omega),s+1,by omega,by omega,by omega,?_,?_⟩
  ·rw[EV _ _ ((0:Int),(0:Int),(0:Int)) dQ,<-og,r9,oh,k7]
   rfl
  ·rw[eQ ((0:Int),(0:Int),(0:Int)) dQ,List.map_append,<-jF,mH,oh,k7]
   rfl
 ·rw[iJ] at h
  have h:=of_decide_eq_false h
  have BU:s=y5.1.length:=by omega
  subst BU
  rw[List.take_length] at jF og
  refine⟨⟨0,Nat.zero_le _,rfl,by rw[og,dy];exact Bool.and_true _⟩,fun t=>U.mk fun dt q9=>U.mk fun eC wh=>U.mk fun im yA ht=>⟨fun h=> ?_,fun h=> ?_⟩⟩
  ·rw[q9] at h
   have h:=of_decide_eq_true h
   have dQ:t<y5.2.2.2.1.length:=by omega
   rw[Int.toNat_natCast] at *
   have hm:=(g5 _ (fJ (0:Int) dQ)).1
   rw[<-yA] at hm
   refine⟨⟨by omega,by omega⟩,fun _=>⟨by omega,by omega⟩,aY (by omega) (by omega),t+1,by omega,by omega,by omega,?_⟩
   rw[EV _ _ (0:Int) dQ,<-Bool.and_assoc,<-wh,r9,yA]
   rfl
  ·rw[q9] at h
   have h:=of_decide_eq_false h
   have ht1:t=y5.2.2.2.1.length:=by omega
   subst ht1
   rw[List.take_length] at wh
   refine⟨g9.1,cT (by omega) (by decide),⟨0,Nat.zero_le _,rfl,rfl⟩,fun u=>U.mk fun jQ x5=>U.mk fun lF EO=>U.mk fun wv Sq hu=>⟨fun h=> ?_,fun h=> ?_⟩⟩
   ·rw[x5] at h
    have h:=of_decide_eq_true h
    have dQ:u<aw.length:=by omega
    rw[Int.toNat_natCast] at *
    have hm:=(g8.each _ (fJ ((0:Int),(0:Int)) dQ))
    rw[<-Sq] at hm
    refine⟨⟨by omega,by omega⟩,fun _=>⟨by omega,by omega⟩,aY (by omega) (by omega),u+1,by omega,by omega,by omega,?_⟩
    rw[<-ym] at EO ⊢
    rw[EV _ _ ((0:Int),(0:Int)) dQ,<-EO,r9,Sq]
    rfl
   ·rw[x5] at h
    have h:=of_decide_eq_false h
    have XK:u=aw.length:=by omega
    subst XK
    rw[<-ym,List.take_length] at EO
    rw[gE,jF,EO,wh,dy,e6,e7,e8,e9,e5,ym]
    unfold q6
    exact⟨rfl,rfl⟩
theorem acm:fq Tryz.prog 67 YG:=
 fq.b3 (l:=[(76,Cd)]) (A:=a67) aJ ⟨OY,trivial⟩ Tryz.func67 (by kernel_rfl) (by kernel_rfl) fun x hw hp=>b67 x.1 x.2.1 x.2.2.1 x.2.2.2.1 hp
theorem ahw:aN Tryz.prog 67 c67:=fq.YX rfl rfl acm
theorem Qa {p:ab} {r:af} (hg:xb p r) (k:Nat):(nh r k).1.length<=1000/\(nh r k).2.1.length<=1000/\(nh r k).2.2.1.length<=1000/\(nh r k).2.2.2.length<=1000:=by
 have h1:=hg.len
 have h2:=hg.small
 have h3:=hg.yE
 have h4:=List.length_filter_le (zf ((cw r).take k)) r.2.2.2.2.1
 refine⟨?_,by show r.2.2.2.2.2.2.1.length<=1000;omega,by show List.length (r.2.2.2.2.1.filter _)<=1000;omega,h2.2⟩
 show((cw r).drop _).length<=1000
 rw[List.length_drop,r6]
 omega
theorem Inv.aeT {c:bO} (hc:lA c) {ls:List cI} {b:av} (h:Inv c ls b) {i:Nat} (hi:i<c.2.length) (h0:(ls.getD i gk).1≠0) {v:kS} (hv:v.1.length=(aD c i).2.2.2.1.length):
  ∃fr f:Nat,fr<=f/\f<=(aD c i).2.2.2.1.length/\(dc (ls.getD i gk) v).2=gr (fr:Int) (f:Int)/\(∀k,fr+k<=f->YtjnappfomhkeeaaGreat.ug (pS (aD c i) i (dc (ls.getD i gk) v).2 b k)):=by
 have X1:=h.FI i hi
 obtain⟨f,f1,f2,f3,f4,f5,f6⟩:=yM X1 h0 hv
 have BW:0<=(ls.getD i gk).2.1/\(ls.getD i gk).2.1<((aD c i).2.2.2.1.length:Int):=by
  rcases X1 with hz|⟨_,hf,_⟩
  ·rw[hz] at h0;exact absurd rfl h0
  ·exact hf
 obtain⟨fr,wV⟩:∃fr:Nat,(ls.getD i gk).2.1=(fr:Int):=⟨(ls.getD i gk).2.1.toNat,by omega⟩
 have hei:mh c ls (i:Int)=some (nh (aD c i) fr):=by
  rw[TG ⟨by omega,by omega⟩ (by rw[Int.toNat_natCast];exact h0),Int.toNat_natCast,wV,Int.toNat_natCast]
 have No:=r6 (aD c i)
 refine⟨fr,f,by omega,f2,by rw[f3,wV],fun k hk=> ?_⟩
 have X9:=Iy h.book hei (m:=f) (by omega) (by omega) k hk
 rw[f3,wV]
 refine X9.small (n:=64) ⟨fun o x hx=> ?_,fun o x hx=> ?_⟩ (by omega)
 ·unfold jS at hx
  split at hx
  ·rename_i ho
   have:=hc.Sh
   omega
  ·exact(Ca hc ls).who o x hx
 ·unfold jS at hx
  split at hx
  ·unfold zX at hx
   split at hx
   ·cases hx
    exact Qa (hc.rz _ (kX (c:=c) (o:=(i:Int)) (by omega))) _
   ·cases hx
  ·exact(Ca hc ls).Ku o x hx
theorem neI (a b:Nat):((a:Int) !=(b:Int))= !(a==b):=by
 by_cases h:a=b
 ·subst h;simp
 ·have h2:(a:Int)≠(b:Int):=by omega
  rw[beq_false_of_ne h]
  unfold bne
  rw[beq_false_of_ne h2]
theorem Cz (p:ab) (b:av) {k:Nat} (h:k<=p.1.length):(jy p b k).length=p.1.length:=by
 unfold jy
 simp
 omega
theorem Jy (p:ab) (b:av) {k:Nat} (h:k<p.1.length):jy p b (k+1)=(jy p b k).set k (D9 p b k):=by
 unfold jy
 have e:p.1.length - k=(p.1.length - (k+1))+1:=by omega
 rw[List.set_append_right _ _ (by simp),List.length_map,List.length_range,Nat.sub_self,e,List.replicate_succ,List.set_cons_zero,List.range_succ,List.map_append,List.append_assoc]
 rfl
theorem On (p:ab) (b:av) {k:Nat} (h:k<p.1.length):(jy p b k).getD k 0=0:=by
 unfold jy
 rw[List.getD_eq_getElem?_getD,List.getElem?_append_right (by simp)]
 simp
 have:0<p.1.length - k:=by omega
 simp[this]
theorem IY {c:bO} {inn:gQ} {l:List Int} {s:wo}:∀k,(rb c inn l s k).2.2.2.length=s.2.2.2.length+k
 |0=>rfl
 |k+1=>by
  have ih:=IY (c:=c) (inn:=inn) (l:=l) (s:=s) k
  show(lT c inn _ _).2.2.2.length=_
  unfold lT
  split
  ·show List.length (_++_)=_
   rw[List.length_append,ih];rfl
  ·show List.length (_++_)=_
   rw[List.length_append,ih];rfl
def SU (calls:List Int) (W:((ab)×List (af))×List (Int×Int×Bool×List Bool)×(av)×(Option (bk)×List ((Int×Int)×Bool))×List Int) (cancels:List Int) (R:Prop):Prop:=calls=calls/\(↑W.fst.fst.fst.length:Int)=(↑W.fst.fst.fst.length:Int)/\(↑W.fst.fst.snd.snd.fst.length:Int)=(↑W.fst.fst.snd.snd.fst.length:Int)/\cancels=cancels/\(↑cancels.length:Int)=(↑cancels.length:Int)/\R
def SS (W:((ab)×List (af))×List (Int×Int×Bool×List Bool)×(av)×(Option (bk)×List ((Int×Int)×Bool))×List Int) (y7:List Bool) (y8:List Int×List Bool×List Bool) (R:Prop):Prop:=W.fst.fst.fst=W.fst.fst.fst/\W.fst.fst.snd.fst=W.fst.fst.snd.fst/\W.fst.fst.snd.snd.fst=W.fst.fst.snd.snd.fst/\W.fst.fst.snd.snd.snd.fst=W.fst.fst.snd.snd.snd.fst/\W.fst.fst.snd.snd.snd.snd.fst=W.fst.fst.snd.snd.snd.snd.fst/\W.fst.fst.snd.snd.snd.snd.snd.fst=W.fst.fst.snd.snd.snd.snd.snd.fst/\W.fst.fst.snd.snd.snd.snd.snd.snd.fst=W.fst.fst.snd.snd.snd.snd.snd.snd.fst/\W.fst.fst.snd.snd.snd.snd.snd.snd.snd.fst=W.fst.fst.snd.snd.snd.snd.snd.snd.snd.fst/\W.fst.fst.snd.snd.snd.snd.snd.snd.snd.snd=W.fst.fst.snd.snd.snd.snd.snd.snd.snd.snd/\W.fst.snd=W.fst.snd/\W.snd.snd.fst.fst=W.snd.snd.fst.fst/\W.snd.snd.snd.fst.fst=W.snd.snd.snd.fst.fst/\W.snd.fst=W.snd.fst/\W.snd.snd.snd.snd=W.snd.snd.snd.snd/\W.snd.snd.fst.snd.fst=W.snd.snd.fst.snd.fst/\W.snd.snd.fst.snd.snd.fst=W.snd.snd.fst.snd.snd.fst/\W.snd.snd.fst.snd.snd.snd.fst=W.snd.snd.fst.snd.snd.snd.fst/\W.snd.snd.fst.snd.snd.snd.snd=W.snd.snd.fst.snd.snd.snd.snd/\W.snd.snd.snd.fst.snd=W.snd.snd.snd.fst.snd/\y7=y7/\y8.fst=y8.fst/\y8.snd.fst=y8.snd.fst/\y8.snd.snd=y8.snd.snd/\R
def Zw (calls:List Int) (W:((ab)×List (af))×List (Int×Int×Bool×List Bool)×(av)×(Option (bk)×List ((Int×Int)×Bool))×List Int) (R:Prop):Prop:=calls=calls/\(↑W.fst.fst.fst.length:Int)=(↑W.fst.fst.fst.length:Int)/\(↑W.fst.fst.snd.snd.fst.length:Int)=(↑W.fst.fst.snd.snd.fst.length:Int)/\(↑W.snd.fst.length:Int)=(↑W.snd.fst.length:Int)/\R
def Fa (W:((ab)×List (af))×List (Int×Int×Bool×List Bool)×(av)×(Option (bk)×List ((Int×Int)×Bool))×List Int) (R:Prop):Prop:=W.fst.fst.fst=W.fst.fst.fst/\W.fst.fst.snd.fst=W.fst.fst.snd.fst/\W.fst.fst.snd.snd.fst=W.fst.fst.snd.snd.fst/\W.fst.fst.snd.snd.snd.fst=W.fst.fst.snd.snd.snd.fst/\W.fst.fst.snd.snd.snd.snd.fst=W.fst.fst.snd.snd.snd.snd.fst/\W.fst.fst.snd.snd.snd.snd.snd.fst=W.fst.fst.snd.snd.snd.snd.snd.fst/\W.fst.fst.snd.snd.snd.snd.snd.snd.fst=W.fst.fst.snd.snd.snd.snd.snd.snd.fst/\W.fst.fst.snd.snd.snd.snd.snd.snd.snd.fst=W.fst.fst.snd.snd.snd.snd.snd.snd.snd.fst/\W.fst.fst.snd.snd.snd.snd.snd.snd.snd.snd=W.fst.fst.snd.snd.snd.snd.snd.snd.snd.snd/\W.fst.snd=W.fst.snd/\R
def Jt (W:((ab)×List (af))×List (Int×Int×Bool×List Bool)×(av)×(Option (bk)×List ((Int×Int)×Bool))×List Int) (y7:List Bool) (y8:List Int×List Bool×List Bool) (R:Prop):Prop:=W.snd.snd.snd.fst.snd=W.snd.snd.snd.fst.snd/\y7=y7/\y8.fst=y8.fst/\y8.snd.fst=y8.snd.fst/\y8.snd.snd=y8.snd.snd/\R
def Oa (calls:List Int) (W:((ab)×List (af))×List (Int×Int×Bool×List Bool)×(av)×(Option (bk)×List ((Int×Int)×Bool))×List Int) (cancels:List Int) (R:Prop):Prop:=calls=calls/\(↑W.fst.fst.fst.length:Int)=(↑W.fst.fst.fst.length:Int)/\(↑W.fst.fst.snd.snd.fst.length:Int)=(↑W.fst.fst.snd.snd.fst.length:Int)/\(↑W.snd.fst.length:Int)=(↑W.snd.fst.length:Int)/\gL cancels cancels.length=gL cancels cancels.length/\W.fst.fst.fst=W.fst.fst.fst/\W.fst.fst.snd.fst=W.fst.fst.snd.fst/\W.fst.fst.snd.snd.fst=W.fst.fst.snd.snd.fst/\W.fst.fst.snd.snd.snd.fst=W.fst.fst.snd.snd.snd.fst/\W.fst.fst.snd.snd.snd.snd.fst=W.fst.fst.snd.snd.snd.snd.fst/\W.fst.fst.snd.snd.snd.snd.snd.fst=W.fst.fst.snd.snd.snd.snd.snd.fst/\W.fst.fst.snd.snd.snd.snd.snd.snd.fst=W.fst.fst.snd.snd.snd.snd.snd.snd.fst/\W.fst.fst.snd.snd.snd.snd.snd.snd.snd.fst=W.fst.fst.snd.snd.snd.snd.snd.snd.snd.fst/\W.fst.fst.snd.snd.snd.snd.snd.snd.snd.snd=W.fst.fst.snd.snd.snd.snd.snd.snd.snd.snd/\W.fst.snd=W.fst.snd/\R
def SR (calls:List Int) (W:((ab)×List (af))×List (Int×Int×Bool×List Bool)×(av)×(Option (bk)×List ((Int×Int)×Bool))×List Int) (fA:Nat) (du:Int×Int×Bool×List Bool) (eC:kS) (R:Prop):Prop:=calls=calls/\(↑W.fst.fst.fst.length:Int)=(↑W.fst.fst.fst.length:Int)/\(↑W.fst.fst.snd.snd.fst.length:Int)=(↑W.fst.fst.snd.snd.fst.length:Int)/\(↑fA:Int)=(↑fA:Int)/\(↑W.snd.fst.length:Int)=(↑W.snd.fst.length:Int)/\(↑fA:Int)=(↑fA:Int)/\(dc du eC).snd=(dc du eC).snd/\(↑(dc du eC).snd.length:Int)=(↑(dc du eC).snd.length:Int)/\W.fst.fst.fst=W.fst.fst.fst/\W.fst.fst.snd.fst=W.fst.fst.snd.fst/\W.fst.fst.snd.snd.fst=W.fst.fst.snd.snd.fst/\W.fst.fst.snd.snd.snd.fst=W.fst.fst.snd.snd.snd.fst/\W.fst.fst.snd.snd.snd.snd.fst=W.fst.fst.snd.snd.snd.snd.fst/\W.fst.fst.snd.snd.snd.snd.snd.fst=W.fst.fst.snd.snd.snd.snd.snd.fst/\W.fst.fst.snd.snd.snd.snd.snd.snd.fst=W.fst.fst.snd.snd.snd.snd.snd.snd.fst/\W.fst.fst.snd.snd.snd.snd.snd.snd.snd.fst=W.fst.fst.snd.snd.snd.snd.snd.snd.snd.fst/\W.fst.fst.snd.snd.snd.snd.snd.snd.snd.snd=W.fst.fst.snd.snd.snd.snd.snd.snd.snd.snd/\W.fst.snd=W.fst.snd/\R
def SQ (W:((ab)×List (af))×List (Int×Int×Bool×List Bool)×(av)×(Option (bk)×List ((Int×Int)×Bool))×List Int) (y7:List Bool) (y8:List Int×List Bool×List Bool) (du:Int×Int×Bool×List Bool) (eC:kS) (jQ:Int) (lF:Bool×List Bool) (cancels:List Int) (R:Prop):Prop:=W.snd.snd.snd.fst.snd=W.snd.snd.snd.fst.snd/\y7=y7/\y8.fst=y8.fst/\y8.snd.fst=y8.snd.fst/\y8.snd.snd=y8.snd.snd/\(dc du eC).fst.fst=(dc du eC).fst.fst/\jQ=jQ/\lF.fst=lF.fst/\lF.snd=lF.snd/\gL cancels cancels.length=gL cancels cancels.length/\R
def Zv (W:((ab)×List (af))×List (Int×Int×Bool×List Bool)×(av)×(Option (bk)×List ((Int×Int)×Bool))×List Int) (iY:List cI) (R:Prop):Prop:=W.snd.snd.snd.fst.fst=W.snd.snd.snd.fst.fst/\iY=iY/\W.snd.snd.snd.snd=W.snd.snd.snd.snd/\R
def G0 (W:((ab)×List (af))×List (Int×Int×Bool×List Bool)×(av)×(Option (bk)×List ((Int×Int)×Bool))×List Int) (calls:List Int) (R:Prop):Prop:=(↑W.fst.fst.fst.length:Int)=(↑W.fst.fst.fst.length:Int)/\(↑W.fst.fst.snd.snd.fst.length:Int)=(↑W.fst.fst.snd.snd.fst.length:Int)/\calls=calls/\(↑calls.length:Int)=(↑calls.length:Int)/\R
def GZ (y7:List Bool) (y8:List Int×List Bool×List Bool) (R:Prop):Prop:=y7=y7/\y8.fst=y8.fst/\y8.snd.fst=y8.snd.fst/\y8.snd.snd=y8.snd.snd/\R
def T8 (W:((ab)×List (af))×List (Int×Int×Bool×List Bool)×(av)×(Option (bk)×List ((Int×Int)×Bool))×List Int) (aw:List Int) (aB:eJ×List Int) (cL:List Int) (R:Prop):Prop:=(↑W.fst.fst.fst.length:Int)=(↑W.fst.fst.fst.length:Int)/\(↑aw.length:Int)=(↑aw.length:Int)/\aB.snd=aB.snd/\cL=cL/\R
def T7 (W:((ab)×List (af))×List (Int×Int×Bool×List Bool)×(av)×(Option (bk)×List ((Int×Int)×Bool))×List Int) (bC:av) (aB:eJ×List Int) (y9:(((ab)×List (af))×List (Int×Int×Bool×List Bool)×(av)×(Option (bk)×List ((Int×Int)×Bool))×List Int)×(List Bool×List Int×List Bool×List Bool)×List Int×List Int×Unit) (calls:List Int) (cL:List Int) (R:Prop):Prop:=W.fst.fst.fst=W.fst.fst.fst/\W.fst.fst.snd.fst=W.fst.fst.snd.fst/\W.fst.fst.snd.snd.fst=W.fst.fst.snd.snd.fst/\W.fst.fst.snd.snd.snd.fst=W.fst.fst.snd.snd.snd.fst/\W.fst.fst.snd.snd.snd.snd.fst=W.fst.fst.snd.snd.snd.snd.fst/\W.fst.fst.snd.snd.snd.snd.snd.fst=W.fst.fst.snd.snd.snd.snd.snd.fst/\W.fst.fst.snd.snd.snd.snd.snd.snd.fst=W.fst.fst.snd.snd.snd.snd.snd.snd.fst/\W.fst.fst.snd.snd.snd.snd.snd.snd.snd.fst=W.fst.fst.snd.snd.snd.snd.snd.snd.snd.fst/\W.fst.fst.snd.snd.snd.snd.snd.snd.snd.snd=W.fst.fst.snd.snd.snd.snd.snd.snd.snd.snd/\W.fst.snd=W.fst.snd/\bC.fst=bC.fst/\aB.fst.fst=aB.fst.fst/\(bA y9 calls.length).fst=(bA y9 calls.length).fst/\cL=cL/\bC.snd.fst=bC.snd.fst/\bC.snd.snd.fst=bC.snd.snd.fst/\bC.snd.snd.snd.fst=bC.snd.snd.snd.fst/\bC.snd.snd.snd.snd=bC.snd.snd.snd.snd/\aB.fst.snd=aB.fst.snd/\R
theorem v26 (W:((ab)×List (af))×List (Int×Int×Bool×List Bool)×(av)×(Option (bk)×List ((Int×Int)×Bool))×List Int) (inn:List Bool×List Int×List Bool×List Bool) (calls:List Int) (cancels:List Int):bS (aj aA [(65,V2),(67,c67),(66,V1),(68,V0),(43,YM),(69,VZ),(70,VY),(71,VX),(72,VW),(73,VV),(18,YO),(33,NQ)]) Tryz.f26 JU (a26 (W,inn,calls,cancels,())) (W,inn,calls,cancels,())=(
U (bif bif bif(↑inn.1.length:Int) !=(↑W.1.1.1.length:Int) then true else(↑inn.2.1.length:Int) !=(↑W.1.1.1.length:Int) then true else(↑inn.2.2.1.length:Int) !=(↑W.1.1.2.2.1.length:Int) then true else(↑inn.2.2.2.length:Int) !=(↑W.1.1.2.2.1.length:Int)) fun(y4:Bool)=>
U (gq W inn calls cancels).2 fun(y5:Jp×Int)=>
U (gq W inn calls cancels).1 fun(y6:fh)=>
U (ie W.1.1 inn).1 fun(y7:List Bool)=>
U (ie W.1.1 inn).2 fun(y8:List Int×List Bool×List Bool)=>
U (W,inn,calls,cancels,()) fun(y9:(((ab)×List (af))×List (Int×Int×Bool×List Bool)×(av)×(Option (bk)×List ((Int×Int)×Bool))×List Int)×(List Bool×List Int×List Bool×List Bool)×List Int×List Int×Unit)=>
U ((0:Int),(0:Int),false,[]) fun(bu:Int×Int×Bool×List Bool)=>
U ((0:Int),(0:Int),(0:Int),[],[],[],[],[],false) fun(bH:af)=>
U (List.replicate (↑W.1.1.1.length:Int).toNat (0:Int)) fun(aw:List Int)=>
U (bA y9 calls.length).2.2 fun(aB:eJ×List Int)=>
U (fW W.1 (bA y9 calls.length).1) fun(cL:List Int)=>
U (bA y9 calls.length).2.1 fun(bC:av)=>
(y4=true->
([],[],[])=y5.1/\
(1:Int)=y5.2/\W.1=y6.1/\W.2.1=y6.2.1/\W.2.2.1.1=y6.2.2.1.1/\W.2.2.1.2.1.Perm y6.2.2.1.2.1/\W.2.2.1.2.2.1.Perm y6.2.2.1.2.2.1/\W.2.2.1.2.2.2.1.Perm y6.2.2.1.2.2.2.1/\W.2.2.1.2.2.2.2.Perm y6.2.2.1.2.2.2.2/\W.2.2.2.1.1=y6.2.2.2.1.1/\W.2.2.2.1.2.Perm y6.2.2.2.1.2/\W.2.2.2.2=y6.2.2.2.2/\True)/\
(y4=false->
(inn.1.length=W.1.1.1.length/\cR inn.1)/\
(∃(Fs:Nat),Fs<=cancels.length/\
(↑Fs:Int)=(0:Int)/\SU calls W cancels (gL cancels Fs=[]/\SS W y7 y8 (True)))/\∀(yw:Nat),U (decide ((↑yw:Int)<(↑cancels.length:Int))) fun(cy:Bool)=>
yw<=cancels.length->
(cy=true->aL (↑yw:Int) cancels.length/\bo IntKind.i64 ((↑yw:Int)+(1:Int))/\∃(db:Nat),db<=cancels.length/\cancels.length - db<cancels.length - yw/\
(↑db:Int)=(↑yw:Int)+(1:Int)/\SU calls W cancels (gL cancels db=df I (gL cancels yw) (cancels.getD (↑yw:Int).toNat (0:Int)) true/\SS W y7 y8 (True)))/\
(cy=false->
(∃(yh:Nat),yh<=W.2.1.length/\
(↑yh:Int)=(0:Int)/\Zw calls W (gL cancels cancels.length=gL cancels yw/\Fa W ((roadsOf y9 yh).2.1=W.2.2.1.1/\W.2.2.2.1.1=W.2.2.2.1.1/\
(roadsOf y9 yh).1=W.2.1/\W.2.2.2.2=W.2.2.2.2/\
(roadsOf y9 yh).2.2.1=W.2.2.1.2.1/\
(roadsOf y9 yh).2.2.2.1=W.2.2.1.2.2.1/\
(roadsOf y9 yh).2.2.2.2.1=W.2.2.1.2.2.2.1/\
(roadsOf y9 yh).2.2.2.2.2=W.2.2.1.2.2.2.2/\Jt W y7 y8 (True))))/\∀(fA:Nat),U (decide ((↑fA:Int)<(↑W.2.1.length:Int))) fun(fw:Bool)=>
U ((roadsOf y9 fA).1.getD (↑fA:Int).toNat bu) fun(du:Int×Int×Bool×List Bool)=>
U (roadsOf y9 fA).2.2.1 fun(eL:List (Int×List Int))=>
U (roadsOf y9 fA).2.2.2 fun(dt:List (Int×List Int)×List (Int×List ba)×List (Int×List ba))=>
U (q6 (aD W.1 (↑fA:Int)) (ie W.1.1 inn) (↑fA:Int) (gL cancels cancels.length)) fun(eC:kS)=>
U (Nw y9 (↑fA:Int).toNat).2.length fun(im:Nat)=>
U ((roadsOf y9 (↑fA:Int).toNat).1.set (↑fA:Int).toNat (Nw y9 (↑fA:Int).toNat).1) fun(iY:List cI)=>
U (dc du eC).1.2.1 fun(jQ:Int)=>
U (dc du eC).1.2.2 fun(lF:Bool×List Bool)=>
U (W.1.2.getD (↑fA:Int).toNat bH).2.2.2.1 fun(wv:List (Int×Int×Int))=>
U ((dc du eC).1.1==(0:Int)) fun(Ug:Bool)=>
fA<=W.2.1.length->
(fw=true->aL (↑fA:Int) (roadsOf y9 fA).1.length/\
((du.1==(0:Int))=true->bo IntKind.i64 ((↑fA:Int)+(1:Int))/\∃(sF:Nat),sF<=W.2.1.length/\W.2.1.length - sF<W.2.1.length - fA/\
(↑sF:Int)=(↑fA:Int)+(1:Int)/\Oa calls W cancels ((roadsOf y9 sF).2.1=(roadsOf y9 fA).2.1/\W.2.2.2.1.1=W.2.2.2.1.1/\
(roadsOf y9 sF).1=(roadsOf y9 fA).1/\W.2.2.2.2=W.2.2.2.2/\
(roadsOf y9 sF).2.2.1=eL/\
(roadsOf y9 sF).2.2.2.1=dt.1/\
(roadsOf y9 sF).2.2.2.2.1=dt.2.1/\
(roadsOf y9 sF).2.2.2.2.2=dt.2.2/\Jt W y7 y8 (True)))/\
((du.1==(0:Int))=false->aL (↑fA:Int) (roadsOf y9 fA).1.length/\Cv W.1 (ie W.1.1 inn) (↑fA:Int)/\
(cR du.2.2.2/\cR eC.1)/\aL (↑fA:Int) (roadsOf y9 fA).1.length/\
(∃(qG:Nat),qG<=im/\
(↑qG:Int)=(0:Int)/\SR calls W fA du eC ((gT y9 (↑fA:Int) qG).1=(roadsOf y9 fA).2.1/\W.2.2.2.1.1=W.2.2.2.1.1/\iY=(roadsOf y9 fA).1.set (↑fA:Int).toNat (dc du eC).1/\W.2.2.2.2=W.2.2.2.2/\
(gT y9 (↑fA:Int) qG).2.1=eL/\
(gT y9 (↑fA:Int) qG).2.2.1=dt.1/\
(gT y9 (↑fA:Int) qG).2.2.2.1=dt.2.1/\
(gT y9 (↑fA:Int) qG).2.2.2.2=dt.2.2/\SQ W y7 y8 du eC jQ lF cancels (True)))/\∀(mE:Nat),U (decide ((↑mE:Int)<(↑(dc du eC).2.length:Int))) fun(QG:Bool)=>
U ((dc du eC).2.getD (↑mE:Int).toNat (0:Int)) fun(wu:Int)=>
U (nM (gT y9 (↑fA:Int) mE) (↑fA:Int) (wv.getD wu.toNat ((0:Int),(0:Int),(0:Int))).1) fun(AQ:av)=>
U (lD (gT y9 (↑fA:Int) mE) (↑fA:Int)) fun(D6:av)=>
U (gT y9 (↑fA:Int) mE).2 fun(Bt:List (Int×List Int)×List (Int×List Int)×List (Int×List ba)×List (Int×List ba))=>
mE<=im->
(QG=true->aL (↑mE:Int) (dc du eC).2.length/\aL (↑fA:Int) W.1.2.length/\aL wu wv.length/\ug (gT y9 (↑fA:Int) mE)/\bo IntKind.i64 ((↑mE:Int)+(1:Int))/\∃(mC:Nat),mC<=im/\im - mC<im - mE/\
(↑mC:Int)=(↑mE:Int)+(1:Int)/\SR calls W fA du eC ((gT y9 (↑fA:Int) mC).1=AQ.1/\Zv W iY ((gT y9 (↑fA:Int) mC).2.1=AQ.2.1/\
(gT y9 (↑fA:Int) mC).2.2.1=AQ.2.2.1/\
(gT y9 (↑fA:Int) mC).2.2.2.1=AQ.2.2.2.1/\
(gT y9 (↑fA:Int) mC).2.2.2.2=AQ.2.2.2.2/\SQ W y7 y8 du eC jQ lF cancels (True))))/\
(QG=false->
(Ug=true->gz (gT y9 (↑fA:Int) mE)/\bo IntKind.i64 ((↑fA:Int)+(1:Int))/\∃(mC:Nat),mC<=W.2.1.length/\W.2.1.length - mC<W.2.1.length - fA/\
(↑mC:Int)=(↑fA:Int)+(1:Int)/\Oa calls W cancels ((roadsOf y9 mC).2.1=D6.1/\W.2.2.2.1.1=W.2.2.2.1.1/\
(roadsOf y9 mC).1=iY/\W.2.2.2.2=W.2.2.2.2/\
(roadsOf y9 mC).2.2.1=D6.2.1/\
(roadsOf y9 mC).2.2.2.1=D6.2.2.1/\
(roadsOf y9 mC).2.2.2.2.1=D6.2.2.2.1/\
(roadsOf y9 mC).2.2.2.2.2=D6.2.2.2.2/\Jt W y7 y8 (True)))/\
(Ug=false->bo IntKind.i64 ((↑fA:Int)+(1:Int))/\∃(mC:Nat),mC<=W.2.1.length/\W.2.1.length - mC<W.2.1.length - fA/\
(↑mC:Int)=(↑fA:Int)+(1:Int)/\Oa calls W cancels ((roadsOf y9 mC).2.1=(gT y9 (↑fA:Int) mE).1/\W.2.2.2.1.1=W.2.2.2.1.1/\
(roadsOf y9 mC).1=iY/\W.2.2.2.2=W.2.2.2.2/\
(roadsOf y9 mC).2.2.1=Bt.1/\
(roadsOf y9 mC).2.2.2.1=Bt.2.1/\
(roadsOf y9 mC).2.2.2.2.1=Bt.2.2.1/\
(roadsOf y9 mC).2.2.2.2.2=Bt.2.2.2/\Jt W y7 y8 (True))))))/\
(fw=false->
(∃(qG:Nat),qG<=calls.length/\
(↑qG:Int)=(0:Int)/\G0 W calls ((bA y9 qG).2.2.2=[]/\Fa W ((bA y9 qG).2.1.1=(roadsOf y9 fA).2.1/\
(bA y9 qG).2.2.1.1=W.2.2.2.1.1/\
(bA y9 qG).1=(roadsOf y9 fA).1/\W.2.2.2.2=W.2.2.2.2/\
(bA y9 qG).2.1.2.1=eL/\
(bA y9 qG).2.1.2.2.1=dt.1/\
(bA y9 qG).2.1.2.2.2.1=dt.2.1/\
(bA y9 qG).2.1.2.2.2.2=dt.2.2/\
(bA y9 qG).2.2.1.2=W.2.2.2.1.2/\GZ y7 y8 (True))))/\∀(mE:Nat),U (decide ((↑mE:Int)<(↑calls.length:Int))) fun(QG:Bool)=>
U (bA y9 mE).2.2.1 fun(wu:eJ)=>
U (calls.getD (↑mE:Int).toNat (0:Int)) fun(AQ:Int)=>
U (zM W.1 (bA y9 mE).1 (bA y9 mE).2.1 wu (ie W.1.1 inn) AQ) fun(D6:Int)=>
U (W.1.2.getD AQ.toNat bH) fun(Bt:af)=>
U (bA y9 mE).2.2.2 fun(QF:List Int)=>
U (mv wu Bt y7 (bA y9 mE).2.1) fun(ZS:Int)=>
U ((List.replicate (1:Nat) (0:Int)).set (0:Nat) ZS) fun(ZR:List Int)=>
U (oq (bA y9 mE).2.1 AQ Bt) fun(Uf:av)=>
U ((List.replicate (1:Nat) (0:Int)).set (0:Nat) D6) fun(ZQ:List Int)=>
U (bA y9 mE).2.1.1 fun(y41:Int)=>
U (bA y9 mE).2.1.2 fun(Mg:List (Int×List Int)×List (Int×List Int)×List (Int×List ba)×List (Int×List ba))=>
U (fW W.1 (bA y9 mE).1) fun(ZP:List Int)=>
mE<=calls.length->
(QG=true->aL (↑mE:Int) calls.length/\
(Dy W.1/\pV (bA y9 mE).2.1/\gS wu.1)/\
((D6==(0:Int))=true->aL AQ W.1.2.length/\
((gS wu.1/\Bt.2.2.2.1.length<=(1000:Nat))/\kp (bA y9 mE).2.1)/\
((pV (bA y9 mE).2.1/\ko Bt)/\cR Bt.2.2.2.2.2.2.1)/\True/\aL AQ (bA y9 mE).1.length/\roomFor (QF.length+ZR.length) (8:Nat)/\bo IntKind.i64 ((↑mE:Int)+(1:Int))/\∃(nT:Nat),nT<=calls.length/\calls.length - nT<calls.length - mE/\
(↑nT:Int)=(↑mE:Int)+(1:Int)/\G0 W calls ((bA y9 nT).2.2.2=QF++ZR/\Fa W ((bA y9 nT).2.1.1=Uf.1/\
(bA y9 nT).2.2.1.1=wu.1/\
(bA y9 nT).1=(bA y9 mE).1.set AQ.toNat (nN (↑Bt.2.2.2.1.length:Int))/\W.2.2.2.2=W.2.2.2.2/\
(bA y9 nT).2.1.2.1=Uf.2.1/\
(bA y9 nT).2.1.2.2.1=Uf.2.2.1/\
(bA y9 nT).2.1.2.2.2.1=Uf.2.2.2.1/\
(bA y9 nT).2.1.2.2.2.2=Uf.2.2.2.2/\
((bA y9 nT).2.2.1.2=bif ZS==(0:Int) then Dl wu Bt else wu.2)/\GZ y7 y8 (True))))/\
((D6==(0:Int))=false->roomFor (QF.length+ZQ.length) (8:Nat)/\bo IntKind.i64 ((↑mE:Int)+(1:Int))/\∃(nT:Nat),nT<=calls.length/\calls.length - nT<calls.length - mE/\
(↑nT:Int)=(↑mE:Int)+(1:Int)/\G0 W calls ((bA y9 nT).2.2.2=QF++ZQ/\Fa W ((bA y9 nT).2.1.1=y41/\
(bA y9 nT).2.2.1.1=wu.1/\
(bA y9 nT).1=(bA y9 mE).1/\W.2.2.2.2=W.2.2.2.2/\
(bA y9 nT).2.1.2.1=Mg.1/\
(bA y9 nT).2.1.2.2.1=Mg.2.1/\
(bA y9 nT).2.1.2.2.2.1=Mg.2.2.1/\
(bA y9 nT).2.1.2.2.2.2=Mg.2.2.2/\
(bA y9 nT).2.2.1.2=wu.2/\GZ y7 y8 (True)))))/\
(QG=false->W.1.1.2.2.1.length<=(1000:Nat)/\kW (W.1,(bA y9 mE).1,(bA y9 mE).2.1,wu,ZP)/\
((0:Int)<=(↑W.1.1.1.length:Int)/\
(↑W.1.1.1.length:Int)<=(↑W.1.1.1.length:Int))/\
(roomFor (↑W.1.1.1.length:Int).toNat (8:Nat)/\
(↑W.1.1.1.length:Int)<=(↑aM:Int))/\
(∃(WE:Nat),WE<=W.1.1.1.length/\
(↑WE:Int)=(0:Int)/\
(↑W.1.1.1.length:Int)=(↑W.1.1.1.length:Int)/\
(↑aw.length:Int)=(↑aw.length:Int)/\aB.2=QF/\cL=ZP/\jy W.1.1 bC WE=aw/\Fa W (bC.1=y41/\aB.1.1=wu.1/\
(bA y9 calls.length).1=(bA y9 mE).1/\cL=ZP/\bC.2.1=Mg.1/\bC.2.2.1=Mg.2.1/\bC.2.2.2.1=Mg.2.2.1/\bC.2.2.2.2=Mg.2.2.2/\aB.1.2=wu.2/\True))/\∀(Gp:Nat),U (decide ((↑Gp:Int)<(↑aw.length:Int))) fun(y45:Bool)=>
U ((W.1.1.1.getD (↑Gp:Int).toNat ([],(0:Int),(0:Int))).2.1==(2:Int)) fun(Wp:Bool)=>
U (jy W.1.1 bC Gp) fun(Ue:List Int)=>
Gp<=W.1.1.1.length->
(y45=true->aL (↑Gp:Int) W.1.1.1.length/\
(Wp=true->gz bC/\pH bC (↑Gp:Int))/\
(Wp=true->aL (↑Gp:Int) Ue.length)/\bo IntKind.i64 ((↑Gp:Int)+(1:Int))/\∃(S7:Nat),S7<=W.1.1.1.length/\W.1.1.1.length - S7<W.1.1.1.length - Gp/\
(↑S7:Int)=(↑Gp:Int)+(1:Int)/\T8 W aw aB cL ((jy W.1.1 bC S7=bif Wp then Ue.set (↑Gp:Int).toNat (lK bC (↑Gp:Int)).1 else Ue)/\T7 W bC aB y9 calls cL (True)))/\
(y45=false->
(cL,Ue,aB.2)=y5.1/\
(0:Int)=y5.2/\W.1=y6.1/\
(bA y9 calls.length).1=y6.2.1/\bC.1=y6.2.2.1.1/\bC.2.1.Perm y6.2.2.1.2.1/\bC.2.2.1.Perm y6.2.2.1.2.2.1/\bC.2.2.2.1.Perm y6.2.2.1.2.2.2.1/\bC.2.2.2.2.Perm y6.2.2.1.2.2.2.2/\aB.1.1=y6.2.2.2.1.1/\aB.1.2.Perm y6.2.2.2.1.2/\cL=y6.2.2.2.2/\True)))))):=by kernel_rfl
theorem b26 (W:fh) (inn:gQ) (calls cancels:List Int) (hp:qy W inn calls cancels):bS (aj aA [(65,V2),(67,c67),(66,V1),(68,V0),(43,YM),(69,VZ),(70,VY),(71,VX),(72,VW),(73,VV),(18,YO),(33,NQ)]) Tryz.f26 JU (a26 (W,inn,calls,cancels,())) (W,inn,calls,cancels,()):=by
 obtain⟨hW,PE,zy⟩:=hp
 have hc:=hW.KN
 have hlen:=hW.inv.len
 have an9:=hc.Sh
 have No:=hc.elems
 have hsg:=hc.sigs
 rw[v26]
 simp only[SU,SS,Zw,Fa,Jt,Oa,SR,SQ,Zv,G0,GZ,T8,T7,true_and,and_true,eq_self,List.Perm.refl]
 refine U.mk fun y4 e4=>U.mk fun y5 e5=>U.mk fun y6 e6=>U.mk fun y7 e7=>U.mk fun y8 e8=>U.mk fun y9 e9=>U.mk fun bu dy=>U.mk fun bH eK=>U.mk fun aw dW=>U.mk fun aB gE=>U.mk fun cL j5=>U.mk fun bC iJ=> ?_
 have RS:y4= !oE W.1.1 inn:=by
  rw[e4,neI,neI,neI,neI]
  unfold oE
  have key:∀a b c d:Bool,(bif bif bif !a then true else !b then true else !c then true else !d)= !(a&&(b&&(c&&d))):=by decide
  exact key _ _ _ _
 refine⟨fun h=> ?_,fun h=> ?_⟩
 ·have hs:¬oE W.1.1 inn=true:=by rw[h] at RS;intro h2;rw[h2] at RS;cases RS
  have hF:gq W inn calls cancels=(W,([],[],[]),1):=by unfold gq;rw[if_neg hs]
  rw[e5,e6,hF]
  exact⟨rfl,rfl,rfl,rfl,rfl,.refl _,.refl _,.refl _,.refl _,rfl,.refl _,rfl⟩
 have hs:oE W.1.1 inn=true:=by rw[h] at RS;simpa using RS.symm
 have hF:gq W inn calls cancels=((W.1,(bA y9 calls.length).1,(bA y9 calls.length).2.1,(bA y9 calls.length).2.2.1,fW W.1 (bA y9 calls.length).1),(fW W.1 (bA y9 calls.length).1,jy W.1.1 (bA y9 calls.length).2.1 W.1.1.1.length,(bA y9 calls.length).2.2.2),0):=by
  unfold gq
  rw[if_pos hs,e9]
  rfl
 have hz:inn.1.length=W.1.1.1.length/\inn.2.1.length=W.1.1.1.length/\inn.2.2.1.length=W.1.1.2.2.1.length/\inn.2.2.2.length=W.1.1.2.2.1.length:=by
  unfold oE at hs
  simpa using hs
 have hR:∀k,k<=W.1.2.length->Inv W.1 (roadsOf y9 k).1 (roadsOf y9 k).2:=fun k hk=>by rw[e9];exact Inv.roads hW.inv k hk
 have hR0:roadsOf y9 0=(W.2.1,W.2.2.1):=by rw[e9];rfl
 have hRs:∀k,roadsOf y9 (k+1)=qg W.1 (ie W.1.1 inn) (gL cancels cancels.length) (roadsOf y9 k) k:=fun k=>by rw[e9];rfl
 have hG:∀k:Nat,Nw y9 k=dc ((roadsOf y9 k).1.getD k gk) (q6 (aD W.1 (k:Int)) (ie W.1.1 inn) (k:Int) (gL cancels cancels.length)):=fun k=>by rw[e9];rfl
 have hFr:∀(i k:Nat),gT y9 (i:Int) k=pS (aD W.1 (i:Int)) i (Nw y9 i).2 (roadsOf y9 i).2 k:=fun i k=>by rw[e9];rfl
 have hC0:bA y9 0=((roadsOf y9 W.2.1.length).1,(roadsOf y9 W.2.1.length).2,W.2.2.2.1,[]):=by rw[e9];rfl
 have hCs:∀k,bA y9 (k+1)=lT W.1 (ie W.1.1 inn) (bA y9 k) (calls.getD k 0):=fun k=>by rw[e9];rfl
 have hC:∀k,Inv W.1 (bA y9 k).1 (bA y9 k).2.1:=fun k=>by
  have:=hR W.2.1.length (by omega)
  rw[e9] at this ⊢
  exact Inv.calls hc (s:=((roadsOf (W,inn,calls,cancels,()) W.2.1.length).1,(roadsOf (W,inn,calls,cancels,()) W.2.1.length).2,W.2.2.2.1,[])) this k
 have hCn:∀k,(bA y9 k).2.2.1.1=W.2.2.2.1.1:=fun k=>by rw[e9];exact Cc k
 have hCl:∀k,(bA y9 k).2.2.2.length=k:=fun k=>by rw[e9];exact(IY k).trans (by show 0+k=k;omega)
 have H6:=J4 W.1.1 inn
 clear e9
 refine⟨⟨hz.1,by show _<=_;omega⟩,⟨0,Nat.zero_le _,rfl,rfl⟩,fun s=>U.mk fun cy jF BU=>⟨fun h=> ?_,fun h=> ?_⟩⟩
 ·rw[jF] at h
  have h:=of_decide_eq_true h
  rw[Int.toNat_natCast]
  exact⟨⟨by omega,by omega⟩,aY (by omega) (by omega),s+1,by omega,by omega,by omega,rfl⟩
 rw[jF] at h
 have h:=of_decide_eq_false h
 have PB:s=cancels.length:=by omega
 subst PB
 clear jF BU h
 refine⟨⟨0,Nat.zero_le _,rfl,rfl,?_⟩,?_⟩
 ·rw[hR0];simp only[eq_self,and_true]
 intro i
 refine U.mk fun fw mH=>U.mk fun du og=>U.mk fun eL rr=>U.mk fun dt q9=>U.mk fun eC wh=>U.mk fun im yA=>U.mk fun iY w5=>U.mk fun jQ x5=>U.mk fun lF EO=>U.mk fun wv Sq=>U.mk fun Ug e29 hi=>⟨fun h=> ?_,fun h=> ?_⟩
 ·rw[mH] at h
  have h:=of_decide_eq_true h
  have dQ:i<W.1.2.length:=by omega
  rw[Int.toNat_natCast] at *
  have og:du=(roadsOf y9 i).1.getD i gk:=by rw[og,dy];rfl
  have hI:=hR i (by omega)
  have hIl:(roadsOf y9 i).1.length=W.1.2.length:=hI.len
  have hg:Nw y9 i=dc du eC:=by rw[hG,og,wh]
  have jD:=hRs i
  unfold qg at jD
  rw[<-og,<-wh] at jD
  refine⟨⟨by omega,by omega⟩,fun h0=>⟨aY (by omega) (by omega),i+1,by omega,by omega,by omega,?_⟩,fun h0=> ?_⟩
  ·rw[if_pos (eq_of_beq h0)] at jD
   rw[jD,rr,q9]
   exact⟨rfl,rfl,rfl,rfl,rfl,rfl⟩
  have h0:du.1≠0:=fun e=>by rw[e] at h0;cases h0
  rw[if_neg h0] at jD
  have Nd:eC.1.length=(aD W.1 (i:Int)).2.2.2.1.length:=by rw[wh];exact D8 _ _ _ _
  obtain⟨fr,f,g1,g2,g3,g4⟩:=hI.aeT hc dQ (v:=eC) (by rw[<-og];exact h0) Nd
  rw[<-og] at g3 g4
  have PJ:(dc du eC).2.length=f - fr:=by rw[g3,Hw];omega
  have Ym:im=f - fr:=by rw[yA,hg,PJ]
  have Vg:=(hc.rz _ (kX (c:=W.1) (o:=(i:Int)) (by omega))).len
  have h28:wv=(aD W.1 (i:Int)).2.2.2.1:=by rw[Sq,eK];rfl
  have Vq:∀k,gT y9 (i:Int) k=pS (aD W.1 (i:Int)) i (dc du eC).2 (roadsOf y9 i).2 k:=fun k=>by rw[hFr,hg]
  have Vf:=hI.seen hc i
  rw[<-og] at Vf
  refine⟨⟨by omega,by omega⟩,⟨hc,⟨by omega,by omega⟩,by rw[H6.1];exact hz.1,by rw[H6.2];exact hz.2.1,by rw[H6.2];exact hz.2.2.1,by rw[H6.2];exact hz.2.2.2⟩,⟨by show _<=1000;omega,by show _<=1000;omega⟩,⟨by omega,by omega⟩,⟨0,Nat.zero_le _,rfl,?_⟩,?_⟩
  ·rw[Vq,w5,hg,rr,q9]
   exact⟨rfl,rfl,rfl,rfl,rfl,rfl⟩
  intro j
  refine U.mk fun QG YA=>U.mk fun wu NL=>U.mk fun AQ e33=>U.mk fun D6 e34=>U.mk fun Bt e35 hj=>⟨fun h=> ?_,fun h=> ?_⟩
  ·rw[YA] at h
   have h:=of_decide_eq_true h
   rw[Int.toNat_natCast] at *
   have h32:wu=(fr:Int)+(j:Int):=by rw[NL,g3];exact ON (by omega) (by omega)
   refine⟨⟨by omega,by omega⟩,⟨by omega,by omega⟩,⟨by omega,by rw[h28];omega⟩,by rw[Vq];exact g4 j (by omega),aY (by omega) (by omega),j+1,by omega,by omega,by omega,?_⟩
   have:gT y9 (i:Int) (j+1)=AQ:=by
    rw[e33,Vq,Vq,NL,h28]
    rfl
   rw[this]
   exact⟨rfl,rfl,rfl,rfl,rfl⟩
  ·rw[YA] at h
   have h:=of_decide_eq_false h
   have hj2:j=(dc du eC).2.length:=by omega
   have Tv:gT y9 (i:Int) j=pS (aD W.1 (i:Int)) i (dc du eC).2 (roadsOf y9 i).2 (dc du eC).2.length:=by rw[Vq,hj2]
   unfold tL at jD
   rw[<-Tv,<-e29] at jD
   refine⟨fun hd=>⟨by rw[Vq];exact(g4 j (by omega)).1,aY (by omega) (by omega),i+1,by omega,by omega,by omega,?_⟩,fun hd=>⟨aY (by omega) (by omega),i+1,by omega,by omega,by omega,?_⟩⟩
   ·rw[hd,cond_true,<-e34,<-hg] at jD
    rw[jD,w5]
    exact⟨rfl,rfl,rfl,rfl,rfl,rfl⟩
   ·rw[hd,cond_false,<-hg] at jD
    rw[jD,w5,e35]
    exact⟨rfl,rfl,rfl,rfl,rfl,rfl⟩
 rw[mH] at h
 have h:=of_decide_eq_false h
 have hi2:i=W.2.1.length:=by omega
 subst hi2
 clear mH og wh yA w5 x5 EO Sq e29 hi h
 refine⟨⟨0,Nat.zero_le _,rfl,?_⟩,?_⟩
 ·rw[hC0,rr,q9]
  exact⟨rfl,rfl,rfl,rfl,rfl,rfl,rfl,rfl,rfl⟩
 intro k
 refine U.mk fun QG YA=>U.mk fun wu NL=>U.mk fun AQ e33=>U.mk fun D6 e34=>U.mk fun Bt e35=>U.mk fun QF e36=>U.mk fun ZS e37=>U.mk fun ZR e38=>U.mk fun Uf e39=>U.mk fun ZQ e40=>U.mk fun y41 e41=>U.mk fun Mg e42=>U.mk fun ZP e43 hk=>⟨fun h=> ?_,fun h=> ?_⟩
 ·rw[YA] at h
  have h:=of_decide_eq_true h
  rw[Int.toNat_natCast] at *
  have hI:=hC k
  have jD:=hCs k
  unfold lT at jD
  rw[<-e33,<-NL,<-e34] at jD
  have h35:aD W.1 AQ=Bt:=by rw[e35,eK];rfl
  have abI:gS wu.1:=by rw[NL,hCn];exact hW.net
  have h36:QF.length=k:=by rw[e36];exact hCl k
  have Vp:=hI.NW hc
  refine⟨⟨by omega,by omega⟩,⟨hc.ok,Vp,abI⟩,fun h0=> ?_,fun h0=> ?_⟩
  ·have h0:=eq_of_beq h0
   have hw:=JZ.1 (e34.symm.trans h0)
   have nJ:=hw.Tn
   have hr:=hc.rz _ (kX nJ)
   have Vg:=hr.len
   have XO:=hr.small
   have hrz:=hr.yE
   rw[h35] at Vg XO hrz
   have hIl:=hI.len
   rw[if_pos h0,h35] at jD
   have h38:ZR=[ZS]:=e38
   refine⟨⟨nJ.1,by omega⟩,⟨⟨abI,by omega⟩,Vp.vz⟩,⟨⟨Vp,⟨by omega,XO.1,XO.2⟩⟩,by show _<=1000;omega⟩,⟨nJ.1,by omega⟩,cT (by rw[h38];show _+1<=_;omega) (by decide),aY (by omega) (by omega),k+1,by omega,by omega,by omega,?_⟩
   rw[jD,e36,h38,e37,e39]
   refine⟨?_,rfl,rfl,rfl,rfl,rfl,rfl,rfl,?_⟩
   ·rw[NL,e7]
   ·rw[NL,e7]
    rfl
  ·have h0:D6≠0:=fun e=>by rw[e] at h0;cases h0
   rw[if_neg h0] at jD
   have h40:ZQ=[D6]:=e40
   refine⟨cT (by rw[h40];show _+1<=_;omega) (by decide),aY (by omega) (by omega),k+1,by omega,by omega,by omega,?_⟩
   rw[jD,h40,e36,e41,e42]
   exact⟨rfl,rfl,rfl,rfl,rfl,rfl,rfl,rfl,rfl⟩
 rw[YA] at h
 have h:=of_decide_eq_false h
 have X4:k=calls.length:=by omega
 subst X4
 have hI:=hC calls.length
 have Vp:=hI.NW hc
 have FV:aM=9223372036854775807:=rfl
 have EH:(fW W.1 (bA y9 calls.length).1).length=W.1.1.2.2.1.length:=x9 _ _
 refine⟨by omega,⟨hc,hI,by show gS wu.1;rw[NL,hCn];exact hW.net,by rw[e43];show List.length (fW _ _)<=_;omega⟩,?_⟩
 have nX:aw.length=W.1.1.1.length:=by rw[dW,List.length_replicate];omega
 refine⟨⟨by omega,by omega⟩,⟨cT (by omega) (by decide),by omega⟩,⟨0,Nat.zero_le _,rfl,?_⟩,fun t=>U.mk fun y45 Yz=>U.mk fun Wp e46=>U.mk fun Ue e47 ht=>⟨fun h=> ?_,fun h=> ?_⟩⟩
 ·rw[gE,j5,iJ,NL,e36,e41,e42,e43,dW]
  exact⟨rfl,rfl,rfl,rfl,rfl,rfl,rfl,rfl,rfl,rfl,rfl,rfl⟩
 ·rw[Yz] at h
  have h:=of_decide_eq_true h
  have dQ:t<W.1.1.1.length:=by omega
  have h47:Ue.length=W.1.1.1.length:=by rw[e47];exact Cz _ _ ht
  rw[Int.toNat_natCast] at *
  refine⟨⟨by omega,by omega⟩,fun _=>by rw[iJ];exact⟨Vp.small,Vp.held _⟩,fun _=>⟨by omega,by omega⟩,aY (by omega) (by omega),t+1,by omega,by omega,by omega,?_⟩
  rw[Jy _ _ dQ,<-e47]
  unfold D9
  cases Yl:Wp
  ·rw[if_neg (fun e=>by rw[e46,show((W.1.1.1.getD t ([],0,0)).2.1==2)=true from beq_iff_eq.2 e] at Yl;cases Yl),cond_false,e47]
   exact Ef (by rw[Cz _ _ ht];exact dQ) (On _ _ dQ)
  ·rw[if_pos (show(W.1.1.1.getD t zE).2.1=2 from eq_of_beq (e46.symm.trans Yl)),cond_true]
 ·rw[Yz] at h
  have h:=of_decide_eq_false h
  have AW:t=W.1.1.1.length:=by omega
  rw[e5,e6,hF,j5,e47,gE,iJ,AW]
  exact⟨rfl,rfl,rfl,rfl,rfl,.refl _,.refl _,.refl _,.refl _,rfl,.refl _,rfl⟩
theorem abu:fq Tryz.prog 26 JU:=
 fq.b3 (l:=[(65,V2),(67,c67),(66,V1),(68,V0),(43,YM),(69,VZ),(70,VY),(71,VX),(72,VW),(73,VV),(18,YO),(33,NQ)]) (A:=a26) aJ ⟨ahy,ahw,ahx,ahv,ahM,ahu,aht,ahs,ahr,ahq,ahU,abr,trivial⟩ Tryz.func26 (by kernel_rfl) (by kernel_rfl) fun x hw hp=>b26 x.1 x.2.1 x.2.2.1 x.2.2.2.1 hp
abbrev Zp:eU:= .cells true (.pair (.aG mN) (.pair (.row 73 kT) (.pair T1 (.pair (.row 3 I) (.row 3 I)))))
abbrev afx:=bO×List cI×T2×List Int×List Int
def WS (c:bO):afx:=(c,List.replicate c.2.length gk,(min (max (c.1.1.length:Int) 0) 40,[]),List.replicate c.1.2.2.2.1.length 0,List.replicate c.1.2.2.1.length 0)
def Mq (c:bO):Prop:=cR c.2/\kK c.1
def YH:fG where
 args:=[.aG mN]
 outs:=[Zp]
 pre:=fun(x:bO×Unit)=>Mq x.1
 fn:=fun(x:bO×Unit)=>(WS x.1,())
def A1:bg where
 args:=[PlanT]
 out:= .data [.bool]
 pre:=fun(x:ab×Unit)=>True
 fn:=fun(x:ab×Unit)=>((bz x.1).2,())
def eE (p:ab):bO:=(p,(bz p).1)
def Cf:fG where
 args:=[.aG PlanT]
 outs:=[Gh,Zp]
 pre:=fun(x:ab×Unit)=>(bz x.1).2=true
 fn:=fun(x:ab×Unit)=>(L5 (eE x.1),WS (eE x.1),())
def rowOf {α:Type} (n:Nat) (d:α) (l:List α):List α:=l.take n++List.replicate (n - l.length) d
def km {α:Type} (n:Nat) (d:α) (l:List α) (k:Nat):List α:=l.take k++List.replicate (n - k) d
abbrev InO:eU:= .pair (.row 4 .bool) (.pair (.row 3 I) (.pair (.row 4 .bool) (.row 4 .bool)))
def B8 (p:ab) (iL:List Bool) (pos:List Int):gQ:=(rowOf p.1.length false iL,rowOf p.1.length 0 pos,List.replicate p.2.2.1.length false,List.replicate p.2.2.1.length false)
def NP:fG where
 args:=[.aG PlanT,.aG (.list .bool),.aG (.list I)]
 outs:=[InO]
 pre:=fun(x:ab×List Bool×List Int×Unit)=>kK x.1
 fn:=fun(x:ab×List Bool×List Int×Unit)=>(B8 x.1 x.2.1 x.2.2.1,())
def a36 (x:ab×List Bool×List Int×Unit):eA:=bh [
 (3,fun S=>{
  σ:=Nat
  ok:=fun k=>k<=min x.2.1.length x.1.1.length
  mu:=fun k=>x.2.1.length - k
  sl:=fun k=>[(8,.one (.aG I (k:Int)))]
  bl:=fun k=>[(7,.cells [.row .bool 1000,.row I 1001,.row .bool 1002,.row .bool 1003]),(1000,.row false 4 .bool (km x.1.1.length false x.2.1 k)),(1001,.row false 3 I (List.replicate x.1.1.length 0)),
   (1002,.row false 4 .bool (List.replicate x.1.2.2.1.length false)),(1003,.row false 4 .bool (List.replicate x.1.2.2.1.length false))]
  keep:=[1,2,3,6,7]
  cv:=[3,6]}),
 (7,fun S=>{
  σ:=Nat
  ok:=fun k=>k<=min x.2.2.1.length x.1.1.length
  mu:=fun k=>x.2.2.1.length - k
  sl:=fun k=>[(9,.one (.aG I (k:Int)))]
  bl:=fun k=>[(7,.cells [.row .bool 1000,.row I 1001,.row .bool 1002,.row .bool 1003]),(1000,.row false 4 .bool (rowOf x.1.1.length false x.2.1)),(1001,.row false 3 I (km x.1.1.length 0 x.2.2.1 k)),
   (1002,.row false 4 .bool (List.replicate x.1.2.2.1.length false)),(1003,.row false 4 .bool (List.replicate x.1.2.2.1.length false))]
  keep:=[1,2,3,6,7]
  cv:=[3,6]})]
abbrev ActT:Ty:= .pair I (.pair (.list .bool) (.pair (.list I) (.pair (.list (.int .u8)) (.pair (.list I) (.list I)))))
abbrev oz:=Int×List Bool×List Int×List Int×List Int×List Int
def yF:oz:=(0,[],[],[],[],[])
def ri (a:oz):Bool:=decide (60<(a.2.1.length:Int))||(decide (60<(a.2.2.1.length:Int))||(decide (60<(a.2.2.2.1.length:Int))||(decide (20<(a.2.2.2.2.1.length:Int))||decide (20<(a.2.2.2.2.2.length:Int)))))
@[irreducible] def q8 (l:List oz):Bool:= !(decide (40<(l.length:Int))||l.any ri)
def Sz:bg where
 args:=[.list ActT]
 out:= .data [.bool]
 pre:=fun(x:List oz×Unit)=>True
 fn:=fun(x:List oz×Unit)=>(q8 x.1,())
def a24 (x:List oz×Unit):eA:=bh [(4,fun _=>{
 σ:=Nat
 ok:=fun k=>k<=x.1.length/\(x.1.take k).any ri=false
 mu:=fun k=>x.1.length - k
 sl:=fun k=>[(3,.one (.aG I (k:Int)))]
 bl:=fun _=>[]
 keep:=[0]
 cv:=[]})]
def GK (x:Int):Bool:=decide (0<x.tmod 3)
def Ay (x:Int):Bool:=x.tmod 3==2
def wx (p:ab) (a:oz):List Bool:=bif a.1==2 then(rowOf p.1.length false a.2.1).take (p.1.length - 1) else rowOf p.1.length false a.2.1
@[irreducible] def fe (p:ab) (a:oz):gQ:=(wx p a,rowOf p.1.length 0 a.2.2.1,rowOf p.2.2.1.length false (a.2.2.2.1.map GK),rowOf p.2.2.1.length false (a.2.2.2.1.map Ay))
def yK (p:ab):Prop:=kK p/\1<=p.1.length
def I7:fG where
 args:=[.aG PlanT,.aG ActT]
 outs:=[InO]
 pre:=fun(x:ab×oz×Unit)=>yK x.1
 fn:=fun(x:ab×oz×Unit)=>(fe x.1 x.2.1,())
def a27 (x:ab×oz×Unit):eA:=bh [
 (3,fun S=>{
  σ:=Nat
  ok:=fun k=>k<=min x.2.1.2.2.2.1.length x.1.2.2.1.length
  mu:=fun k=>x.1.2.2.1.length - k
  sl:=fun k=>[(6,.one (.aG I (k:Int)))]
  bl:=fun k=>[(5,.cells [.row .bool 1000,.row I 1001,.row .bool 1002,.row .bool 1003]),(1000,.row false 4 .bool (rowOf x.1.1.length false x.2.1.2.1)),(1001,.row false 3 I (rowOf x.1.1.length 0 x.2.1.2.2.1)),
   (1002,.row false 4 .bool (km x.1.2.2.1.length false (x.2.1.2.2.2.1.map GK) k)),(1003,.row false 4 .bool (km x.1.2.2.1.length false (x.2.1.2.2.2.1.map Ay) k))]
  keep:=[2,3,4,5]
  cv:=[2,3,4]})]
theorem AH {p:ab} (h:(cK p).2=0):bX p=0/\(cK p).1.1=p/\(cK p).1.2.length<=64:=by
 unfold cK at h ⊢
 cases hc:(bX p==0) with
 |false=>
  rw[hc] at h
  have h:bX p=0:=h
  rw[h] at hc
  cases hc
 |true=>
  rw[hc] at h
  cases ha:((cZ p).2==0) with
  |false=>
   rw[ha] at h
   have h:(cZ p).2=0:=h
   rw[h] at ha
   cases ha
  |true=>
   refine⟨eq_of_beq hc,rfl,?_⟩
   show((cZ p).1.map (dV p)).length<=64
   rw[List.length_map]
   exact DT p
theorem Rx {p:ab} (h:bX p=0):kA p=some (nf p):=by
 unfold kA
 rw[h]
 rfl
theorem Rz (p:ab):(bI (some (nf p))).1=p:=by
 show(nf p).1=p
 unfold nf
 rfl
theorem YR {c:bO} (h:xX c=0):cK c.1=(c,0):=by
 unfold xX at h
 cases h1:((cK c.1).2==0) with
 |false=>
  rw[h1] at h
  have h:(cK c.1).2=0:=h
  rw[h] at h1
  cases h1
 |true=>
  rw[h1] at h
  cases h2:(c==(cK c.1).1) with
  |false=>rw[h2] at h;exact absurd h (show ¬(1:Int)=0 by decide)
  |true=>
   have e1:(cK c.1).2=0:=eq_of_beq h1
   have e2:c=(cK c.1).1:=eq_of_beq h2
   rw[<-e1,Prod.ext_iff]
   exact⟨e2.symm,rfl⟩
theorem Kn {α β:Type} {x:α×β} {a:α} {b:β} (h1:x.1=a) (h2:x.2=b):x=(a,b):=by rw[<-h1,<-h2]
theorem agW (c:(ab)×List (af)):bS (aj aA [(44,V6),(49,YJ),(50,NO),(52,I6),(51,V4),(54,I5),(53,V3)]) Tryz.f14 Ql ar (c,())=(
U ((cK c.1).2 !=(0:Int)) fun(y1:Bool)=>
U (!c==(cK c.1).1) fun(y2:Bool)=>
U (bX (cK c.1).1.1 !=(0:Int)) fun(y3:Bool)=>
U (kA (cK c.1).1.1) fun(y4:Option bk)=>
cY c.1/\
(y1=true->False)/\
(y1=false->
True/\
(y2=true->False)/\
(y2=false->
cY (cK c.1).1.1/\
(y3=true->False)/\
(y3=false->
((0:Int)<=(↑(cK c.1).1.2.length:Int)/\(↑(cK c.1).1.2.length:Int)<=(↑(cK c.1).1.2.length:Int))/\
(roomFor (↑(cK c.1).1.2.length:Int).toNat (48:Nat)/\(↑(cK c.1).1.2.length:Int)<=(↑aM:Int))/\
iS y4/\
True/\
True/\
iS y4/\
((0:Int)<=(↑(bI y4).1.2.2.1.length:Int)/\(↑(bI y4).1.2.2.1.length:Int)<=(↑(bI y4).1.2.2.1.length:Int))/\
(roomFor (↑(bI y4).1.2.2.1.length:Int).toNat (8:Nat)/\(↑(bI y4).1.2.2.1.length:Int)<=(↑aM:Int))/\
(cK c.1).1=c/\
List.replicate (↑(cK c.1).1.2.length:Int).toNat ((0:Int),(0:Int),false,[])=List.replicate c.2.length gk/\
max (0:Int) (min (↑(bI y4).1.1.length:Int) (40:Int))=max (0:Int) (min (↑c.1.1.length:Int) (40:Int))/\
([]:List (Int×List Int)).Perm []/\
([]:List (Int×List Int)).Perm []/\
([]:List (Int×List (Int×Int))).Perm []/\
([]:List (Int×List (Int×Int))).Perm []/\
y4=some (nf c.1)/\
([]:List ((Int×Int)×Bool)).Perm []/\
List.replicate (↑(bI y4).1.2.2.1.length:Int).toNat (0:Int)=List.replicate c.1.2.2.1.length (0:Int)/\
(0:Int)=(0:Int)/\True)))):=by kernel_rfl
theorem akl (c:bO) (hp:cY c.1) (hE:xX c=0):bS (aj aA [(44,V6),(49,YJ),(50,NO),(52,I6),(51,V4),(54,I5),(53,V3)]) Tryz.f14 Ql ar (c,()):=by
 have FV:aM=9223372036854775807:=rfl
 rw[agW]
 have hB:=YR hE
 obtain⟨g1,g2,g3⟩:=AH (p:=c.1) (by rw[hB])
 have BZ:=(jL (gw g1).1)
 rw[hB] at g3
 rw[hB]
 refine U.mk fun y1 e1=>U.mk fun y2 e2=>U.mk fun y3 e3=>U.mk fun y4 e4=> ?_
 have h1:y1=false:=e1
 have h2:y2=false:=by rw[e2];simp
 have h3:y3=false:=by rw[e3,g1];rfl
 have h4:y4=some (nf c.1):=by rw[e4];exact Rx g1
 rw[h1,h2,h3,h4,Rz]
 refine⟨hp,fun h=>(by cases h),fun _=>⟨trivial,fun h=>(by cases h),fun _=>⟨hp,fun h=>(by cases h),fun _=> ?_⟩⟩⟩
 exact⟨⟨by omega,by omega⟩,⟨cT (by omega) (by decide),by omega⟩,⟨_,rfl⟩,trivial,trivial,⟨_,rfl⟩,⟨by omega,by omega⟩,⟨cT (by omega) (by decide),by omega⟩,rfl,rfl,rfl,.refl _,.refl _,.refl _,.refl _,rfl,.refl _,rfl,rfl,trivial⟩
theorem adu:fq Tryz.prog 14 Ql:=
 fq.b3 (l:=[(44,V6),(49,YJ),(50,NO),(52,I6),(51,V4),(54,I5),(53,V3)]) (A:=fun _=>ar) aJ ⟨ahL,ahG,abp,W2,ahF,W1,ahD,trivial⟩ Tryz.func14 (by kernel_rfl) (by kernel_rfl) fun x hw hp=>akl x.1 hp.1 hp.2
theorem v64 (c:(ab)×List (af)):bS (aj aA [(114,L0)]) Tryz.f64 YH ar (c,())=(
((0:Int)<=(↑c.2.length:Int)/\(↑c.2.length:Int)<=(↑c.2.length:Int))/\
(roomFor (↑c.2.length:Int).toNat (48:Nat)/\(↑c.2.length:Int)<=(↑aM:Int))/\
True/\
((0:Int)<=(↑c.1.2.2.2.1.length:Int)/\(↑c.1.2.2.2.1.length:Int)<=(↑c.1.2.2.2.1.length:Int))/\
(roomFor (↑c.1.2.2.2.1.length:Int).toNat (8:Nat)/\(↑c.1.2.2.2.1.length:Int)<=(↑aM:Int))/\
((0:Int)<=(↑c.1.2.2.1.length:Int)/\(↑c.1.2.2.1.length:Int)<=(↑c.1.2.2.1.length:Int))/\
(roomFor (↑c.1.2.2.1.length:Int).toNat (8:Nat)/\(↑c.1.2.2.1.length:Int)<=(↑aM:Int))/\
c=c/\
List.replicate (↑c.2.length:Int).toNat ((0:Int),(0:Int),false,[])=List.replicate c.2.length gk/\
min (max (↑c.1.1.length:Int) (0:Int)) (40:Int)=min (max (↑c.1.1.length:Int) (0:Int)) (40:Int)/\
([]:List (Ua))=[]/\
List.replicate (↑c.1.2.2.2.1.length:Int).toNat (0:Int)=List.replicate c.1.2.2.2.1.length (0:Int)/\
List.replicate (↑c.1.2.2.1.length:Int).toNat (0:Int)=List.replicate c.1.2.2.1.length (0:Int)/\True):=by kernel_rfl
theorem b64 (c:bO) (hp:Mq c):bS (aj aA [(114,L0)]) Tryz.f64 YH ar (c,()):=by
 have FV:aM=9223372036854775807:=rfl
 have h1:c.2.length<=1000:=hp.1
 have h2:c.1.2.2.2.1.length<=1000:=hp.2.2.2.2.1
 have h3:c.1.2.2.1.length<=1000:=hp.2.2.2.1
 rw[v64]
 exact⟨⟨by omega,by omega⟩,⟨cT (by omega) (by decide),by omega⟩,trivial,⟨by omega,by omega⟩,⟨cT (by omega) (by decide),by omega⟩,⟨by omega,by omega⟩,⟨cT (by omega) (by decide),by omega⟩,rfl,rfl,rfl,rfl,rfl,rfl,trivial⟩
theorem ahz:fq Tryz.prog 64 YH:=
 fq.b3 (l:=[(114,L0)]) (A:=fun _=>ar) aJ ⟨adH,trivial⟩ Tryz.func64 (by kernel_rfl) (by kernel_rfl) fun x hw hp=>b64 x.1 hp
theorem v23 (p:ab):ah (aj aA [(13,NU)]) Tryz.f23 A1 ar (p,())=(
True/\(bz p).2=(bz p).2/\True):=by kernel_rfl
theorem ahT:aN Tryz.prog 23 A1:=
 aN.b3 (l:=[(13,NU)]) (A:=fun _=>ar) aJ ⟨Xf,trivial⟩ Tryz.func23 (by kernel_rfl) (by kernel_rfl) fun x hw hp=>by
  obtain⟨p,⟨⟩⟩:=x
  rw[v23]
  exact⟨trivial,rfl,trivial⟩
theorem YE {p:ab} (h:(bz p).2=true):cK p=(eE p,0):=by
 have hf:=(wH h).ajn
 unfold bz at h
 rw[hf] at h
 have h0:(cK p).2=0:=eq_of_beq h
 obtain⟨_,g2,_⟩:=AH h0
 refine Kn (Kn g2 ?_) h0
 unfold bz
 rw[hf]
 rfl
theorem JV {p:ab} (h:(bz p).2=true):xX (eE p)=0:=by
 have hB:=YE h
 unfold xX
 show(bif !((cK p).2==0) then(cK p).2 else bif eE p==(cK p).1 then 0 else 1)=0
 rw[hB]
 simp
theorem oI {p:ab} (h:bX p=0):p.1.length<=40/\p.2.2.1.length<=24/\p.2.2.2.1.length<=4/\p.2.1.length<=80/\1<=p.1.length:=by
 obtain⟨h1,h2,_⟩:=gw h
 have:=jL h1
 refine⟨this.1,this.2.1,this.2.2.1,this.2.2.2,?_⟩
 unfold fArgs oP at h2
 simp only[Bool.and_eq_true,Bool.not_eq_true',decide_eq_false_iff_not] at h2
 have:=h2.1.2.2.2.2
 omega
theorem zc {p:ab} (h:pN p):kK p:=by
 have:=oI h.check
 exact⟨by show _<=1000;omega,by show _<=1000;omega,by show _<=1000;omega,by show _<=1000;omega,h.short⟩
theorem v25 (p:ab):bS (aj aA [(13,NU),(14,Ql),(64,YH)]) Tryz.f25 Cf ar (p,())=(
U (List.replicate (bz p).1.length gk) fun(y1:List cI)=>
True/\
((!(bz p).2)=true->False)/\
((!(bz p).2)=false->
(cY p/\xX (p,(bz p).1)=(0:Int))/\
(((0:Int) !=(0:Int))=true->False)/\
(((0:Int) !=(0:Int))=false->
Mq (p,(bz p).1)/\
(p,(bz p).1)=eE p/\
y1=y1/\
max (0:Int) (min (↑p.1.length:Int) (40:Int))=max (0:Int) (min (↑p.1.length:Int) (40:Int))/\
([]:List (Int×List Int)).Perm []/\
([]:List (Int×List Int)).Perm []/\
([]:List (Int×List (Int×Int))).Perm []/\
([]:List (Int×List (Int×Int))).Perm []/\
some (nf p)=some (nf p)/\
([]:List ((Int×Int)×Bool)).Perm []/\
List.replicate p.2.2.1.length (0:Int)=List.replicate p.2.2.1.length (0:Int)/\
(p,(bz p).1)=eE p/\
y1=y1/\
min (max (↑p.1.length:Int) (0:Int)) (40:Int)=min (max (↑p.1.length:Int) (0:Int)) (40:Int)/\
([]:List (Ua))=[]/\
List.replicate p.2.2.2.1.length (0:Int)=List.replicate p.2.2.2.1.length (0:Int)/\
List.replicate p.2.2.1.length (0:Int)=List.replicate p.2.2.1.length (0:Int)/\True))):=by kernel_rfl
theorem abv:fq Tryz.prog 25 Cf:=
 fq.b3 (l:=[(13,NU),(14,Ql),(64,YH)]) (A:=fun _=>ar) aJ ⟨Xf,adu,ahz,trivial⟩ Tryz.func25 (by kernel_rfl) (by kernel_rfl) fun x hw hp=>by
  obtain⟨p,⟨⟩⟩:=x
  have hp:(bz p).2=true:=hp
  have hr:=wH hp
  rw[v25]
  refine U.mk fun y1 e1=>⟨trivial,fun h=>(by rw[hp] at h;cases h),fun _=>⟨⟨hr.short,JV hp⟩,fun h=>(by cases h),fun _=>⟨⟨by show(bz p).1.length<=1000;have:=hr.len;omega,zc hr⟩,rfl,rfl,rfl,.refl _,.refl _,.refl _,.refl _,rfl,.refl _,rfl,rfl,rfl,rfl,rfl,rfl,rfl,trivial⟩⟩⟩
theorem uC {α:Type} {n:Nat} {d:α} {l:List α} {k:Nat} (h:k<=min l.length n):(km n d l k).length=n:=by
 unfold km
 rw[List.length_append,List.length_take,List.length_replicate]
 omega
theorem vv {α:Type} (n:Nat) (d:α) (l:List α):km n d l 0=List.replicate n d:=by unfold km;rfl
theorem vw {α:Type} {n:Nat} {d:α} {l:List α} {k:Nat} (h:k<min l.length n):km n d l (k+1)=(km n d l k).set k (l.getD k d):=by
 unfold km
 have e:n - k=(n - (k+1))+1:=by omega
 have hl:(l.take k).length=k:=by rw[List.length_take];omega
 rw[List.set_append_right _ _ (by omega),hl,Nat.sub_self,e,List.replicate_succ,List.set_cons_zero,eQ d (by omega),List.append_assoc]
 rfl
theorem uD {α:Type} {n:Nat} {d:α} {l:List α}:km n d l (min l.length n)=rowOf n d l:=by
 unfold km rowOf
 rcases Nat.le_total l.length n with h|h
 ·rw[Nat.min_eq_left h,List.take_length,List.take_of_length_le h]
 ·rw[Nat.min_eq_right h,show n - n=n - l.length by omega]
theorem QW {α:Type} (n:Nat) (d:α) (l:List α):(rowOf n d l).length=n:=by
 rw[<-uD]
 exact uC (Nat.le_refl _)
theorem Jd (s a b:Nat):(bif decide ((s:Int)<(a:Int)) then decide ((s:Int)<(b:Int)) else false)=decide (s<min a b):=by
 rw[r9,<-Bool.decide_and]
 exact decide_eq_decide.2 (by omega)
def Zu (p:ab) (y3:List Bool) (R:Prop):Prop:=List.replicate p.fst.length (0:Int)=List.replicate p.fst.length (0:Int)/\y3=y3/\y3=y3/\R
def Zt (o:List Bool) (l:List Int) (y4:List Bool) (R:Prop):Prop:=o=o/\l=l/\y4=y4/\R
theorem v36 (p:ab) (o:List Bool) (l:List Int):bS (aj aA []) Tryz.f36 NP (a36 (p,o,l,())) (p,o,l,())=(
U (List.replicate p.2.2.1.length false) fun(y3:List Bool)=>
U (rowOf p.1.length false o) fun(y4:List Bool)=>
((0:Int)<=(↑p.1.length:Int)/\
(↑p.1.length:Int)<=(↑p.1.length:Int))/\
(roomFor (↑p.1.length:Int).toNat (1:Nat)/\
(↑p.1.length:Int)<=(↑aM:Int))/\
((0:Int)<=(↑p.1.length:Int)/\
(↑p.1.length:Int)<=(↑p.1.length:Int))/\
(roomFor (↑p.1.length:Int).toNat (8:Nat)/\
(↑p.1.length:Int)<=(↑aM:Int))/\
((0:Int)<=(↑p.2.2.1.length:Int)/\
(↑p.2.2.1.length:Int)<=(↑p.2.2.1.length:Int))/\
(roomFor (↑p.2.2.1.length:Int).toNat (1:Nat)/\
(↑p.2.2.1.length:Int)<=(↑aM:Int))/\
((0:Int)<=(↑p.2.2.1.length:Int)/\
(↑p.2.2.1.length:Int)<=(↑p.2.2.1.length:Int))/\
(roomFor (↑p.2.2.1.length:Int).toNat (1:Nat)/\
(↑p.2.2.1.length:Int)<=(↑aM:Int))/\
(∃(rm:Nat),rm<=min o.length p.1.length/\
(↑rm:Int)=(0:Int)/\o=o/\l=l/\km p.1.length false o rm=List.replicate (↑p.1.length:Int).toNat false/\List.replicate p.1.length (0:Int)=List.replicate (↑p.1.length:Int).toNat (0:Int)/\y3=List.replicate (↑p.2.2.1.length:Int).toNat false/\y3=List.replicate (↑p.2.2.1.length:Int).toNat false/\ay p (True))/\∀(s5:Nat),U (km p.1.length false o s5) fun(y6:List Bool)=>
U (bif decide ((↑s5:Int)<(↑o.length:Int)) then decide ((↑s5:Int)<(↑y6.length:Int)) else false) fun(y7:Bool)=>
s5<=min o.length p.1.length->
(y7=true->aL (↑s5:Int) o.length/\aL (↑s5:Int) y6.length/\bo IntKind.i64 ((↑s5:Int)+(1:Int))/\∃(jq:Nat),jq<=min o.length p.1.length/\o.length - jq<o.length - s5/\
(↑jq:Int)=(↑s5:Int)+(1:Int)/\o=o/\l=l/\km p.1.length false o jq=y6.set (↑s5:Int).toNat (o.getD (↑s5:Int).toNat false)/\Zu p y3 (ay p (True)))/\
(y7=false->
(∃(mQ:Nat),mQ<=min l.length p.1.length/\
(↑mQ:Int)=(0:Int)/\o=o/\l=l/\y4=y6/\km p.1.length (0:Int) l mQ=List.replicate p.1.length (0:Int)/\y3=y3/\y3=y3/\ay p (True))/\∀(s8:Nat),U (km p.1.length (0:Int) l s8) fun(y9:List Int)=>
U (bif decide ((↑s8:Int)<(↑l.length:Int)) then decide ((↑s8:Int)<(↑y9.length:Int)) else false) fun(bu:Bool)=>
s8<=min l.length p.1.length->
(bu=true->aL (↑s8:Int) l.length/\aL (↑s8:Int) y9.length/\bo IntKind.i64 ((↑s8:Int)+(1:Int))/\∃(jI:Nat),jI<=min l.length p.1.length/\l.length - jI<l.length - s8/\
(↑jI:Int)=(↑s8:Int)+(1:Int)/\Zt o l y4 (km p.1.length (0:Int) l jI=y9.set (↑s8:Int).toNat (l.getD (↑s8:Int).toNat (0:Int))/\y3=y3/\y3=y3/\ay p (True)))/\
(bu=false->y4=y4/\y9=rowOf p.1.length (0:Int) l/\y3=y3/\y3=y3/\True))):=by kernel_rfl
theorem b36 (p:ab) (o:List Bool) (l:List Int) (hp:kK p) (ho:o.length<=aM) (hl:l.length<=aM):bS (aj aA []) Tryz.f36 NP (a36 (p,o,l,())) (p,o,l,()):=by
 have FV:aM=9223372036854775807:=rfl
 have h1:p.1.length<=1000:=hp.1
 have h3:p.2.2.1.length<=1000:=hp.2.2.1
 rw[v36]
 simp only[dp,Zu,Zt,true_and,and_true,eq_self,Int.toNat_natCast]
 refine U.mk fun y3 e3=>U.mk fun y4 e4=>⟨⟨by omega,by omega⟩,⟨cT (by omega) (by decide),by omega⟩,⟨by omega,by omega⟩,⟨cT (by omega) (by decide),by omega⟩,⟨by omega,by omega⟩,⟨cT (by omega) (by decide),by omega⟩,⟨by omega,by omega⟩,⟨cT (by omega) (by decide),by omega⟩,⟨0,Nat.zero_le _,rfl,vv _ _ _,e3,e3⟩,?_⟩
 intro s
 refine U.mk fun y6 e6=>U.mk fun y7 e7 hs=> ?_
 have h6:y6.length=p.1.length:=by rw[e6];exact uC hs
 have e7:y7=decide (s<min o.length p.1.length):=by
  rw[e7,h6];exact Jd _ _ _
 refine⟨fun h=> ?_,fun h=> ?_⟩
 ·have h:=of_decide_eq_true (e7.symm.trans h)
  refine⟨⟨by omega,by omega⟩,⟨by omega,by omega⟩,aY (by omega) (by omega),s+1,by omega,by omega,by omega,?_⟩
  rw[vw h,<-e6]
 have h:=of_decide_eq_false (e7.symm.trans h)
 have PB:s=min o.length p.1.length:=by omega
 have Yl:y4=y6:=by rw[e4,e6,PB,uD]
 refine⟨⟨0,Nat.zero_le _,rfl,Yl,vv _ _ _⟩,?_⟩
 intro t
 refine U.mk fun y9 e9=>U.mk fun bu dy ht=> ?_
 have h9:y9.length=p.1.length:=by rw[e9];exact uC ht
 have dy:bu=decide (t<min l.length p.1.length):=by
  rw[dy,h9];exact Jd _ _ _
 refine⟨fun h=> ?_,fun h=> ?_⟩
 ·have h:=of_decide_eq_true (dy.symm.trans h)
  refine⟨⟨by omega,by omega⟩,⟨by omega,by omega⟩,aY (by omega) (by omega),t+1,by omega,by omega,by omega,?_⟩
  rw[vw h,<-e9]
 ·have h:=of_decide_eq_false (dy.symm.trans h)
  have AW:t=min l.length p.1.length:=by omega
  rw[e9,AW,uD]
theorem abq:fq Tryz.prog 36 NP:=
 fq.b3 (l:=[]) (A:=a36) aJ trivial Tryz.func36 (by kernel_rfl) (by kernel_rfl) fun x hw hp=>b36 x.1 x.2.1 x.2.2.1 hp hw.2.1.1 hw.2.2.1.1
def SP (a:Int×List Bool×List Int×List Int×List Int×List Int) (R:Prop):Prop:=a.snd.fst=a.snd.fst/\a.snd.snd.fst=a.snd.snd.fst/\a.snd.snd.snd.fst=a.snd.snd.snd.fst/\a.snd.snd.snd.snd.fst=a.snd.snd.snd.snd.fst/\a.snd.snd.snd.snd.snd=a.snd.snd.snd.snd.snd/\R
theorem v27 (p:ab) (a:Int×List Bool×List Int×List Int×List Int×List Int):bS (aj aA [(36,NP)]) Tryz.f27 I7 (a27 (p,a,())) (p,a,())=(
U (rowOf p.1.length false a.2.1) fun(y2:List Bool)=>
U (rowOf p.1.length (0:Int) a.2.2.1) fun(y3:List Int)=>
U (List.map GK a.2.2.2.1) fun(y4:List Bool)=>
U (List.replicate p.2.2.1.length false) fun(y5:List Bool)=>
U (List.map Ay a.2.2.2.1) fun(y6:List Bool)=>
kK p/\
(∃(lf:Nat),lf<=min a.2.2.2.1.length p.2.2.1.length/\
(↑lf:Int)=(0:Int)/\y2=rowOf p.1.length false a.2.1/\y3=rowOf p.1.length (0:Int) a.2.2.1/\km p.2.2.1.length false y4 lf=y5/\km p.2.2.1.length false y6 lf=y5/\ay p (a.1=a.1/\SP a (True)))/\∀(s7:Nat),U (km p.2.2.1.length false y4 s7) fun(y8:List Bool)=>
U (bif decide ((↑s7:Int)<(↑y8.length:Int)) then decide ((↑s7:Int)<(↑a.2.2.2.1.length:Int)) else false) fun(y9:Bool)=>
U (km p.2.2.1.length false y6 s7) fun(bu:List Bool)=>
U ((a.2.2.2.1.getD (↑s7:Int).toNat (0:Int)).tmod (3:Int)) fun(bH:Int)=>
s7<=min a.2.2.2.1.length p.2.2.1.length->
(y9=true->aL (↑s7:Int) a.2.2.2.1.length/\
(3:Int)≠(0:Int)/\aL (↑s7:Int) y8.length/\aL (↑s7:Int) a.2.2.2.1.length/\
(3:Int)≠(0:Int)/\aL (↑s7:Int) bu.length/\bo IntKind.i64 ((↑s7:Int)+(1:Int))/\∃(nw:Nat),nw<=min a.2.2.2.1.length p.2.2.1.length/\p.2.2.1.length - nw<p.2.2.1.length - s7/\
(↑nw:Int)=(↑s7:Int)+(1:Int)/\y2=y2/\y3=y3/\km p.2.2.1.length false y4 nw=y8.set (↑s7:Int).toNat (decide (bH>(0:Int)))/\km p.2.2.1.length false y6 nw=bu.set (↑s7:Int).toNat (bH==(2:Int))/\ay p (a.1=a.1/\SP a (True)))/\
(y9=false->
((a.1==(2:Int))=true->bo IntKind.i64 ((↑y2.length:Int) - (1:Int))/\
((0:Int)<=(↑y2.length:Int) - (1:Int)/\
(↑y2.length:Int) - (1:Int)<=(↑y2.length:Int))/\
(0:Nat)<y2.length/\List.take ((↑y2.length:Int) - (1:Int)).toNat y2=(fe p a).1/\y3=(fe p a).2.1/\y8=(fe p a).2.2.1/\bu=(fe p a).2.2.2/\True)/\
((a.1==(2:Int))=false->y2=(fe p a).1/\y3=(fe p a).2.1/\y8=(fe p a).2.2.1/\bu=(fe p a).2.2.2/\True))):=by kernel_rfl
theorem b27 (p:ab) (a:oz) (hp:yK p):bS (aj aA [(36,NP)]) Tryz.f27 I7 (a27 (p,a,())) (p,a,()):=by
 have h3:p.2.2.1.length<=1000:=hp.1.2.2.1
 have h1:p.1.length<=1000:=hp.1.1
 rw[v27]
 simp only[dp,SP,true_and,and_true,eq_self,Int.toNat_natCast]
 refine U.mk fun y2 e2=>U.mk fun y3 e3=>U.mk fun y4 e4=>U.mk fun y5 e5=>U.mk fun y6 e6=> ?_
 have h4:y4.length=a.2.2.2.1.length:=by rw[e4,List.length_map]
 have h6:y6.length=a.2.2.2.1.length:=by rw[e6,List.length_map]
 have h2:y2.length=p.1.length:=by rw[e2];exact QW _ _ _
 refine⟨hp.1,⟨0,Nat.zero_le _,rfl,e2,e3,by rw[e5];exact vv _ _ _,by rw[e5];exact vv _ _ _⟩,?_⟩
 intro s
 refine U.mk fun y8 e8=>U.mk fun y9 e9=>U.mk fun bu dy=>U.mk fun bH eK hs=> ?_
 have h8:y8.length=p.2.2.1.length:=by rw[e8];exact uC (by rw[h4];exact hs)
 have lp:bu.length=p.2.2.1.length:=by rw[dy];exact uC (by rw[h6];exact hs)
 have e9:y9=decide (s<min a.2.2.2.1.length p.2.2.1.length):=by
  rw[e9,h8];rw[Nat.min_comm];exact Jd _ _ _
 refine⟨fun h=> ?_,fun h=> ?_⟩
 ·have h:=of_decide_eq_true (e9.symm.trans h)
  have hg:s<a.2.2.2.1.length:=by omega
  refine⟨⟨by omega,by omega⟩,by decide,⟨by omega,by omega⟩,⟨by omega,by omega⟩,by decide,⟨by omega,by omega⟩,aY (by omega) (by omega),s+1,by omega,by omega,by omega,?_,?_⟩
  ·rw[vw (by rw[h4];exact h),<-e8,e4,List.getD_eq_getElem?_getD,List.getElem?_map,List.getElem?_eq_getElem hg,eK,eW 0 hg]
   rfl
  ·rw[vw (by rw[h6];exact h),<-dy,e6,List.getD_eq_getElem?_getD,List.getElem?_map,List.getElem?_eq_getElem hg,eK,eW 0 hg]
   rfl
 ·have h:=of_decide_eq_false (e9.symm.trans h)
  have PB:s=min a.2.2.2.1.length p.2.2.1.length:=by omega
  have e8':y8=rowOf p.2.2.1.length false (a.2.2.2.1.map GK):=by rw[e8,PB,<-h4,uD,e4]
  have ajx:bu=rowOf p.2.2.1.length false (a.2.2.2.1.map Ay):=by rw[dy,PB,<-h6,uD,e6]
  have hF:fe p a=(wx p a,y3,y8,bu):=by unfold fe;rw[e3,e8',ajx]
  rw[hF]
  refine⟨fun hd=>⟨aY (by omega) (by omega),⟨by have:=hp.2;omega,by omega⟩,by have:=hp.2;omega,?_,rfl,rfl,rfl⟩,fun hd=>⟨?_,rfl,rfl,rfl⟩⟩
  ·show _=wx p a
   unfold wx
   rw[hd,cond_true,<-e2,h2]
   congr 1
   omega
  ·show _=wx p a
   unfold wx
   rw[hd,cond_false,<-e2]
theorem ahR:fq Tryz.prog 27 I7:=
 fq.b3 (l:=[(36,NP)]) (A:=a27) aJ ⟨abq,trivial⟩ Tryz.func27 (by kernel_rfl) (by kernel_rfl) fun x hw hp=>b27 x.1 x.2.1 hp
theorem v24 (l:List (Int×List Bool×List Int×List Int×List Int×List Int)):ah (aj aA []) Tryz.f24 Sz (a24 (l,())) (l,())=(
U (decide ((↑l.length:Int)>(40:Int))) fun(y1:Bool)=>
(y1=true->false=q8 l/\True)/\
(y1=false->
(∃(dr:Nat),(dr<=l.length/\(List.take dr l).any ri=false)/\(↑dr:Int)=(0:Int)/\l=l/\True)/\
∀(s2:Nat),
U (decide ((↑s2:Int)<(↑l.length:Int))) fun(y3:Bool)=>
U (l.getD (↑s2:Int).toNat ((0:Int),[],[],[],[],[])).2 fun(y4:List Bool×List Int×List Int×List Int×List Int)=>
U (decide ((↑y4.1.length:Int)>(60:Int))) fun(y5:Bool)=>
U (bif y5 then true else decide ((↑y4.2.1.length:Int)>(60:Int))) fun(y6:Bool)=>
U (bif y6 then true else decide ((↑y4.2.2.1.length:Int)>(60:Int))) fun(y7:Bool)=>
U (bif y7 then true else decide ((↑y4.2.2.2.1.length:Int)>(20:Int))) fun(y8:Bool)=>
U (bif y8 then true else decide ((↑y4.2.2.2.2.length:Int)>(20:Int))) fun(y9:Bool)=>
s2<=l.length/\(List.take s2 l).any ri=false->
(y3=true->
aL (↑s2:Int) l.length/\
(y5=false->aL (↑s2:Int) l.length)/\
(y6=false->aL (↑s2:Int) l.length)/\
(y7=false->aL (↑s2:Int) l.length)/\
(y8=false->aL (↑s2:Int) l.length)/\
(y9=true->false=q8 l/\True)/\
(y9=false->
bo IntKind.i64 ((↑s2:Int)+(1:Int))/\
∃(cU:Nat),
(cU<=l.length/\(List.take cU l).any ri=false)/\l.length - cU<l.length - s2/\(↑cU:Int)=(↑s2:Int)+(1:Int)/\l=l/\True))/\
(y3=false->true=q8 l/\True))):=by kernel_rfl
theorem b24 (l:List oz) (hl:l.length<=aM):ah (aj aA []) Tryz.f24 Sz (a24 (l,())) (l,()):=by
 have FV:aM=9223372036854775807:=rfl
 rw[v24]
 refine U.mk fun y1 e1=>⟨fun h=>⟨?_,trivial⟩,fun h=> ?_⟩
 ·unfold q8
  rw[show decide (40<(l.length:Int))=true from e1.symm.trans h]
  rfl
 have Nb:decide (40<(l.length:Int))=false:=e1.symm.trans h
 have an1:=of_decide_eq_false Nb
 refine⟨⟨0,⟨Nat.zero_le _,rfl⟩,rfl,rfl,trivial⟩,?_⟩
 intro s
 refine U.mk fun y3 e3=>U.mk fun y4 e4=>U.mk fun y5 e5=>U.mk fun y6 e6=>U.mk fun y7 e7=>U.mk fun y8 e8=>U.mk fun y9 e9=> ?_
 rintro⟨hs,o9⟩
 rw[Int.toNat_natCast] at *
 refine⟨fun h=> ?_,fun h=> ?_⟩
 ·have h:=of_decide_eq_true (e3.symm.trans h)
  have dQ:s<l.length:=by omega
  have h9:y9=ri (l.getD s yF):=by
   have key:∀a b c d e:Bool,(bif(bif(bif(bif a then true else b) then true else c) then true else d) then true else e)=(a||(b||(c||(d||e)))):=by decide
   rw[e9,e8,e7,e6,e5,e4,key]
   rfl
  refine⟨⟨by omega,by omega⟩,fun _=>⟨by omega,by omega⟩,fun _=>⟨by omega,by omega⟩,fun _=>⟨by omega,by omega⟩,fun _=>⟨by omega,by omega⟩,fun hb=>⟨?_,trivial⟩,fun hb=>⟨aY (by omega) (by omega),s+1,⟨by omega,?_⟩,by omega,by omega,rfl,trivial⟩⟩
  ·have:l.any ri=true:=List.any_eq_true.2 ⟨_,fJ yF dQ,h9.symm.trans hb⟩
   unfold q8
   rw[this,Bool.or_true]
   rfl
  ·rw[eQ yF dQ,List.any_append,o9,List.any_cons,List.any_nil,<-h9,hb]
   rfl
 ·have h:=of_decide_eq_false (e3.symm.trans h)
  have:s=l.length:=by omega
  rw[this,List.take_length] at o9
  unfold q8
  rw[Nb,o9]
  exact⟨rfl,trivial⟩
theorem ahS:aN Tryz.prog 24 Sz:=
 aN.b3 (l:=[]) (A:=a24) aJ trivial Tryz.func24 (by kernel_rfl) (by kernel_rfl) fun x hw hp=>b24 x.1 hw.1.1
theorem F7 {p:ab} (h:pN p):lA (eE p) where
 ok:=⟨⟨h.check,h.short⟩,fun r hr=>by
  have hg:=Hv h hr
  exact⟨OJ h hr,by have:=hg.yE;show _<=1000;omega⟩⟩
 rz r hr:=Hv h hr
 Sh:=h.len
 elems:=(oI h.check).1
 sigs:=(oI h.check).2.1
theorem EM (c:bO):mh c (List.replicate c.2.length gk)=fun _=>none:=by
 funext o
 refine VL ?_
 rw[List.getD_eq_getElem?_getD,List.getElem?_replicate]
 split<;>rfl
theorem SB (n:Int):c6 (fun _=>none) ((n,[],[],[],[]):av) where
 k1:=List.nodup_nil
 k2:=List.nodup_nil
 k3:=List.nodup_nil
 k4:=List.nodup_nil
 g1 _:=rfl
 g2 _:=rfl
 g3 _:=rfl
 g4 _:=rfl
theorem inv_zero {c:bO} (hc:lA c):Inv c (List.replicate c.2.length gk) (YS c.1) where
 len:=List.length_replicate
 FI i hi:=by
  rw[List.getD_eq_getElem?_getD,List.getElem?_replicate,if_pos hi]
  exact .inl rfl
 size:=by
  have:=hc.elems
  show max 0 (min (c.1.1.length:Int) 40)=_
  omega
 book:=by rw[EM];exact SB _
 F0:=by rw[EM];exact⟨fun _ _ _ _ _ h=>(by cases h),fun _ _ _ _ h=>(by cases h)⟩
 clear:=fun _ _ _ _ _ h=>by rw[EM] at h;cases h
theorem L4 {p:ab} (h:(bz p).2=true):kW (L5 (eE p)):=by
 have hr:=wH h
 have hc:=F7 hr
 refine⟨hc,inv_zero hc,⟨_,rfl,O4 (by have:=(oI hr.check).2.2.1;show p.2.2.2.1.length<=_;omega)⟩,?_⟩
 show(List.replicate p.2.2.1.length (0:Int)).length<=1000
 rw[List.length_replicate]
 have:=(oI hr.check).2.1
 omega
theorem AI {W:fh} (h:kW W) (inn:gQ) (calls cancels:List Int):kW (gq W inn calls cancels).1:=by
 unfold gq
 split
 ·refine⟨h.KN,?_,?_,?_⟩
  ·exact Inv.calls h.KN (s:=((lh W.1 (ie W.1.1 inn) (gL cancels cancels.length) (W.2.1,W.2.2.1) W.2.1.length).1,(lh W.1 (ie W.1.1 inn) (gL cancels cancels.length) (W.2.1,W.2.2.1) W.2.1.length).2,W.2.2.2.1,[]))
    (Inv.roads (s:=(W.2.1,W.2.2.1)) h.inv _ (by rw[h.inv.len];exact Nat.le_refl _)) _
  ·have:=Cc (c:=W.1) (inn:=ie W.1.1 inn) (l:=calls) (s:=((lh W.1 (ie W.1.1 inn) (gL cancels cancels.length) (W.2.1,W.2.2.1) W.2.1.length).1,(lh W.1 (ie W.1.1 inn) (gL cancels cancels.length) (W.2.1,W.2.2.1) W.2.1.length).2,W.2.2.2.1,[])) calls.length
   show gS (QO W inn calls cancels).2.2.1.1
   unfold QO
   rw[this]
   exact h.net
  ·show(fW W.1 _).length<=1000
   rw[x9]
   have:=h.KN.sigs
   omega
 ·exact h
theorem Om (W:fh) (inn:gQ) (calls cancels:List Int):(gq W inn calls cancels).1.1=W.1:=by
 unfold gq
 split<;>rfl
def ae8 (p:ab) (W:fh) (a:oz):fh:=(gq W (fe p a) a.2.2.2.2.1 a.2.2.2.2.2).1
def b8 (p:ab) (l:List oz):Nat->fh
 |0=>L5 (eE p)
 |k+1=>ae8 p (b8 p l k) (l.getD k yF)
theorem CD {p:ab} (h:(bz p).2=true) (l:List oz):∀k,kW (b8 p l k)
 |0=>L4 h
 |k+1=>AI (CD h l k) _ _ _
theorem BD (p:ab) (l:List oz):∀k,(b8 p l k).1=eE p
 |0=>rfl
 |k+1=>(Om _ _ _ _).trans (BD p l k)
def V5:bg where
 args:=[.list I,.list I]
 out:= .data [.bool]
 pre:=fun(x:List Int×List Int×Unit)=>True
 fn:=fun(x:List Int×List Int×Unit)=>(x.1==x.2.1,())
def ajy:bg where
 args:=[.ref rk,I]
 out:= .fresh [.list I]
 pre:=fun(x:av×Int×Unit)=>pd x.1 x.2.1
 fn:=fun(x:av×Int×Unit)=>(lB x.1 x.2.1,())
def SA:bg where
 args:=[]
 out:= .data [.bool]
 pre:=fun(x:Unit)=>True
 fn:=fun(x:Unit)=>(true,())
def DM (W:fh) (n:Nat):List (Nat×c7):=[
 (n,.cells (flat mN W.1++[.row kT (n+1),.ptr (n+2) 0,.ptr (n+7) 0,.row I (n+9)])),
 (n+2,.cells [.aG I W.2.2.1.1,.map I (.list I) (n+3),.map I (.list I) (n+4),.map I (.list eB) (n+5),.map I (.list eB) (n+6)]),
 (n+7,.cells [.aG (.ptr jx) W.2.2.2.1.1,.map lx .bool (n+8)]),
 (n+1,.row false 73 kT W.2.1),(n+9,.row false 3 I W.2.2.2.2),
 (n+3,.map false I (.list I) W.2.2.1.2.1 none),(n+4,.map false I (.list I) W.2.2.1.2.2.1 none),(n+5,.map false I (.list eB) W.2.2.1.2.2.2.1 none),(n+6,.map false I (.list eB) W.2.2.1.2.2.2.2 none),
 (n+8,.map false lx .bool W.2.2.2.1.2 none)]
def YV (b:av) (n:Nat):List (Nat×c7):=[
 (n,.cells [.aG I b.1,.map I (.list I) (n+1),.map I (.list I) (n+2),.map I (.list eB) (n+3),.map I (.list eB) (n+4)]),
 (n+1,.map false I (.list I) b.2.1 none),(n+2,.map false I (.list I) b.2.2.1 none),(n+3,.map false I (.list eB) b.2.2.2.1 none),(n+4,.map false I (.list eB) b.2.2.2.2 none)]
def Je (W:fh):List (Nat×c7):=(2100,.row false 73 kT W.2.1)::(YV W.2.2.1 2200++DM W 2000)
def c4:bg:=MY [PlanT,.list ActT]
def a4 (x:ab×List oz×Unit):eA:=bh [
 (9,fun S=>{
  σ:=Nat
  ok:=fun k=>k<=x.2.1.length
  mu:=fun k=>x.2.1.length - k
  sl:=fun k=>[(7,.one (.aG I (k:Int))),(5,.one (.ptr 2000 0))]
  bl:=fun k=>DM (b8 x.1 x.2.1 k) 2000
  keep:=[1,2]
  cv:=[2]}),
 (16,fun S=>{
  σ:=Nat
  ok:=fun k=>k<=(bz x.1).1.length
  mu:=fun k=>(bz x.1).1.length - k
  sl:=fun k=>[(11,.one (.aG I (k:Int))),(5,.one (.ptr 2000 0)),(8,.one (.row kT 2100)),(9,.one (.ptr 2200 0))]
  bl:=fun k=>Je (b8 x.1 x.2.1 ((da S 7).toNat+1))
  keep:=[1,2,7,10]
  cv:=[2]}),
 (22,fun S=>{
  σ:=Nat
  ok:=fun k=>k<=(aD (eE x.1) (da S 11)).2.2.2.1.length
  mu:=fun k=>(aD (eE x.1) (da S 11)).2.2.2.1.length - k
  sl:=fun k=>[(12,.one (.aG I (k:Int))),(5,.one (.ptr 2000 0)),(8,.one (.row kT 2100)),(9,.one (.ptr 2200 0))]
  bl:=fun k=>Je (b8 x.1 x.2.1 ((da S 7).toNat+1))
  keep:=[1,2,7,10,11]
  cv:=[2]}),
 (28,fun S=>{
  σ:=Nat
  ok:=fun k=>k<=(aD (eE x.1) (da S 11)).2.2.2.2.2.2.1.length
  mu:=fun k=>(aD (eE x.1) (da S 11)).2.2.2.2.2.2.1.length - k
  sl:=fun k=>[(14,.one (.aG I (k:Int))),(5,.one (.ptr 2000 0)),(8,.one (.row kT 2100)),(9,.one (.ptr 2200 0))]
  bl:=fun k=>Je (b8 x.1 x.2.1 ((da S 7).toNat+1))
  keep:=[1,2,7,10,11]
  cv:=[2]})]
theorem v46 (a:List Int) (b:List Int):ah (aj aA []) Tryz.f46 V5 (a37 (a,b,())) (a,b,())=(
U ((↑a.length:Int) !=(↑b.length:Int)) fun(y2:Bool)=>
(y2=true->false=(a==b)/\True)/\
(y2=false->
(∃(fB:Nat),(fB<=a.length/\oc a b fB)/\(↑fB:Int)=(0:Int)/\a=a/\b=b/\True)/\
∀(s3:Nat),
U (decide ((↑s3:Int)<(↑a.length:Int))) fun(y4:Bool)=>
U (a.getD (↑s3:Int).toNat (0:Int) !=b.getD (↑s3:Int).toNat (0:Int)) fun(y5:Bool)=>
s3<=a.length/\oc a b s3->
(y4=true->
aL (↑s3:Int) a.length/\
aL (↑s3:Int) b.length/\
(y5=true->false=(a==b)/\True)/\
(y5=false->
bo IntKind.i64 ((↑s3:Int)+(1:Int))/\
∃(eV:Nat),(eV<=a.length/\oc a b eV)/\a.length - eV<a.length - s3/\(↑eV:Int)=(↑s3:Int)+(1:Int)/\a=a/\b=b/\True))/\
(y4=false->true=(a==b)/\True))):=by kernel_rfl
theorem b46 (a:List Int) (b:List Int) (hw:a.length<=aM):ah (aj aA []) Tryz.f46 V5 (a37 (a,b,())) (a,b,()):=by
 rw[v46]
 refine U.mk fun y2 e2=> ?_
 simp only[true_and,and_true,Int.toNat_natCast]
 refine⟨MM e2,fun h=> ?_⟩
 have h:=EL e2 h
 refine⟨⟨0,⟨by omega,h,rfl⟩,rfl⟩,fun s=>U.mk fun y4 e4=>U.mk fun y5 e5=> ?_⟩
 rintro⟨h1,h2,h3⟩
 refine⟨fun hs=> ?_,fun hs=> ?_⟩
 ·have hs:=aZ e4 hs
  refine⟨⟨by omega,by omega⟩,⟨by omega,by omega⟩,fun e=> ?_,fun e=>⟨dw hs hw,s+1,⟨by omega,h,?_⟩,by omega,by omega⟩⟩
  ·exact Eh (s:=s) 0 (by rw[e5] at e;simpa using e)
  ·exact BA 0 h h3 hs (by rw[e5] at e;simpa using e)
 ·exact BB h h3 (bt e4 hs)
theorem ahJ:aN Tryz.prog 46 V5:=
 aN.b3 (l:=[]) (A:=a37) aJ trivial Tryz.func46 (by kernel_rfl) (by kernel_rfl) fun x hw hp=>b46 x.1 x.2.1 hw.1.1
theorem Ee:(bz pO).2=true:=by kernel_rfl
def kW0:fh:=L5 (eE pO)
def Xw:=gq kW0 (B8 pO [] []) [0,1,9] []
def Xv:=gq Xw.1 (B8 pO [] [0,0,1]) [] []
def U6:=gq Xv.1 (B8 pO [false,true] [0,0,1]) [] []
def kT4:=gq U6.1 ([],[],[],[]) [] []
theorem kt1:Xw.2=(([0,0,0,0,0],[0,0,1,0,0,0],[0,0,10]),0):=by kernel_rfl
theorem kt2:Xv.2=(([2,2,0,0,0],[0,0,1,0,0,0],[]),0):=by kernel_rfl
theorem kt3:U6.2=(([0,2,0,0,0],[0,0,1,0,0,0],[]),0):=by kernel_rfl
theorem kt4:kT4.2.2=1:=by kernel_rfl
theorem kl3:U6.1.2.1=[(0,0,false,[]),(2,0,false,[false,false,false]),(0,0,false,[]),(0,0,false,[]),(0,0,false,[]),(0,0,false,[])]:=by kernel_rfl
theorem v12:ah (aj aA [(45,YL),(25,Cf),(36,NP),(26,JU),(17,A2),(37,V7),(46,V5)]) Tryz.f12 SA ar (())=(
U
[([(87:UInt8)],(4:Int),(0:Int)),([(65:UInt8)],(1:Int),(20:Int)),([(80:UInt8)],(2:Int),(10:Int)),([(66:UInt8)],(1:Int),(20:Int)),
([(67:UInt8)],(1:Int),(30:Int)),([(69:UInt8)],(4:Int),(0:Int))]
fun(y0:List mA)=>
U
[([(119:UInt8)],((0:Int),(0:Int)),false),([(97:UInt8)],((1:Int),(1:Int)),false),([(101:UInt8)],((5:Int),(0:Int)),false),
([(98:UInt8)],((3:Int),(0:Int)),false),([(99:UInt8)],((4:Int),(0:Int)),false)]
fun(y1:List gy)=>
U
(y0,
[(((0:Int),(0:Int)),(1:Int),(0:Int)),(((1:Int),(1:Int)),(2:Int),(0:Int)),(((2:Int),(1:Int)),(3:Int),(0:Int)),(((3:Int),(1:Int)),(5:Int),(0:Int)),
(((2:Int),(2:Int)),(4:Int),(0:Int))],
y1,[],(10:Int),(5:Int),(15:Int),(2:Int),false)
fun(y2:ab)=>
U
((y2,(bz y2).1),List.replicate (bz y2).1.length gk,(max (0:Int) (min (↑y0.length:Int) (40:Int)),[],[],[],[]),(some (nf y2),[]),
List.replicate y1.length (0:Int))
fun
(y3:
((ab)×
List (af))×
List (Int×Int×Bool×List Bool)×
(av)×
(Option
(bk)×
List ((Int×Int)×Bool))×
List Int)=>
U (List.replicate y1.length false,List.replicate y1.length false) fun(y4:List Bool×List Bool)=>
U (rowOf y0.length false [],rowOf y0.length (0:Int) [],y4) fun(y5:List Bool×List Int×List Bool×List Bool)=>
U ((List.replicate (3:Nat) (0:Int)).set (0:Nat) (0:Int)) fun(y6:List Int)=>
U ((y6.set (1:Nat) (1:Int)).set (2:Nat) (9:Int)) fun(y7:List Int)=>
U (gq y3 y5 y7 []).1 fun(y8:fh)=>
U (rowOf y0.length (0:Int) ((y6.set (1:Nat) (0:Int)).set (2:Nat) (1:Int)),y4) fun(y9:List Int×List Bool×List Bool)=>
U (rowOf y0.length false [],y9) fun(bu:List Bool×List Int×List Bool×List Bool)=>
U (gq y8 bu [] []).1 fun(bH:fh)=>
U (rowOf y0.length false (((List.replicate (2:Nat) false).set (0:Nat) false).set (1:Nat) true),y9) fun(aw:List Bool×List Int×List Bool×List Bool)=>
U (gq bH aw [] []).1 fun(aB:fh)=>
U ([],[],[],[]) fun(cL:List Bool×List Int×List Bool×List Bool)=>
U (gq y3 y5 y7 []).2 fun(bC:Jp×Int)=>
U (gq y8 bu [] []).2 fun(cC:Jp×Int)=>
U (gq bH aw [] []).2 fun(cy:Jp×Int)=>
U
(bif
bif bif bif bC.2 !=(0:Int) then true else cC.2 !=(0:Int) then true else cy.2 !=(0:Int) then true
else(gq aB cL [] []).2.2 !=(1:Int) then
true
else(↑aB.2.1.length:Int) !=(6:Int))
fun(dN:Bool)=>
U ((List.replicate (5:Nat) (0:Int)).set (0:Nat) (0:Int)) fun(fw:List Int)=>
U (bC.1.1==(((fw.set (1:Nat) (0:Int)).set (2:Nat) (0:Int)).set (3:Nat) (0:Int)).set (4:Nat) (0:Int)) fun(du:Bool)=>
U (bif du then bC.1.2.2==(y6.set (1:Nat) (0:Int)).set (2:Nat) (10:Int) else false) fun(eL:Bool)=>
U
(bif eL then
bC.1.2.1==
((((((List.replicate (6:Nat) (0:Int)).set (0:Nat) (0:Int)).set (1:Nat) (0:Int)).set (2:Nat) (1:Int)).set (3:Nat) (0:Int)).set
(4:Nat) (0:Int)).set
(5:Nat) (0:Int)
else false)
fun(dt:Bool)=>
U
(bif dt then
cC.1.1==
(((((List.replicate (5:Nat) (0:Int)).set (0:Nat) (2:Int)).set (1:Nat) (2:Int)).set (2:Nat) (0:Int)).set (3:Nat) (0:Int)).set
(4:Nat) (0:Int)
else false)
fun(eC:Bool)=>
U (bif eC then cy.1.1==(((fw.set (1:Nat) (2:Int)).set (2:Nat) (0:Int)).set (3:Nat) (0:Int)).set (4:Nat) (0:Int) else false)
fun(im:Bool)=>
U ((0:Int),(0:Int),false,[]) fun(iY:Int×Int×Bool×List Bool)=>
U (bif im then(aB.2.1.getD (Int.toNat (0:Int)) iY).1==(0:Int) else false) fun(jQ:Bool)=>
True/\
(bz y2).2=true/\
(false=true->false=true/\True)/\
(false=false->
kK y2/\
qy y3 y5 y7 []/\
kK y2/\
qy y8 bu [] []/\
kK y2/\
qy bH aw [] []/\
kW aB/\
qy aB cL [] []/\
(dN=true->false=true/\True)/\
(dN=false->
True/\
(du=true->True)/\
(eL=true->True)/\
(dt=true->True)/\
(eC=true->True)/\
(im=true->aL (0:Int) aB.2.1.length)/\
(jQ=true->aL (1:Int) aB.2.1.length)/\
(bif jQ then(aB.2.1.getD (Int.toNat (1:Int)) iY).1==(2:Int) else false)=true/\True))):=by kernel_rfl
theorem b12:ah (aj aA [(45,YL),(25,Cf),(36,NP),(26,JU),(17,A2),(37,V7),(46,V5)]) Tryz.f12 SA ar ():=by
 rw[v12]
 refine U.mk fun y0 e0=>U.mk fun y1 e1=>U.mk fun y2 e2=>U.mk fun y3 e3=>U.mk fun y4 e4=>U.mk fun y5 e5=>U.mk fun y6 e6=>U.mk fun y7 e7=>U.mk fun y8 e8=>U.mk fun y9 e9=>U.mk fun bu dy=>U.mk fun bH eK=>U.mk fun aw dW=>U.mk fun aB gE=>U.mk fun cL j5=>U.mk fun bC iJ=>U.mk fun cC k7=>U.mk fun cy jF=>U.mk fun dN oh=>U.mk fun fw mH=>U.mk fun du og=>U.mk fun eL rr=>U.mk fun dt q9=>U.mk fun eC wh=>U.mk fun im yA=>U.mk fun iY w5=>U.mk fun jQ x5=> ?_
 have E2:y2=pO:=by rw[e2,e0,e1];rfl
 have E3:y3=kW0:=by rw[e3,E2,e0,e1];rfl
 have E5:y5=B8 pO [] []:=by rw[e5,e4,e0,e1];rfl
 have E7:y7=[0,1,9]:=by rw[e7,e6];rfl
 have E10:bu=B8 pO [] [0,0,1]:=by rw[dy,e9,e4,e6,e0,e1];rfl
 have E12:aw=B8 pO [false,true] [0,0,1]:=by rw[dW,e9,e4,e6,e0,e1];rfl
 have E8:y8=Xw.1:=by rw[e8,E3,E5,E7];rfl
 have E15:bC=Xw.2:=by rw[iJ,E3,E5,E7];rfl
 have E11:bH=Xv.1:=by rw[eK,E8,E10];rfl
 have E16:cC=Xv.2:=by rw[k7,E8,E10];rfl
 have E13:aB=U6.1:=by rw[gE,E11,E12];rfl
 have E17:cy=U6.2:=by rw[jF,E11,E12];rfl
 have E18:dN=false:=by
  rw[oh,E15,E16,E17,E13,kt1,kt2,kt3,kl3,j5]
  show(bif bif false then true else kT4.2.2 !=1 then true else(6:Int) !=6)=false
  rw[kt4]
  rfl
 have I0:kW kW0:=L4 Ee
 have I1:kW Xw.1:=AI I0 _ _ _
 have I2:kW Xv.1:=AI I1 _ _ _
 have I3:kW U6.1:=AI I2 _ _ _
 have hS:kK pO:=zc (wH Ee)
 have E20:du=true:=by rw[og,mH,E15,kt1];rfl
 have E21:eL=true:=by rw[rr,E20,e6,E15,kt1];rfl
 have E22:dt=true:=by rw[q9,E21,E15,kt1];rfl
 have E23:eC=true:=by rw[wh,E22,E16,kt2];rfl
 have E24:im=true:=by rw[yA,E23,mH,E17,kt3];rfl
 have E26:jQ=true:=by rw[x5,E24,E13,kl3,w5];rfl
 rw[E2,E3,E5,E7,E8,E10,E11,E12,E13,E18,E26,kl3,j5]
 refine⟨trivial,Ee,fun h=>(by cases h),fun _=>⟨hS,⟨I0,by decide,by decide⟩,hS,⟨I1,by decide,by decide⟩,hS,⟨I2,by decide,by decide⟩,I3,⟨I3,by decide,by decide⟩,fun h=>(by cases h),fun _=>⟨trivial,fun _=>trivial,fun _=>trivial,fun _=>trivial,fun _=>trivial,fun _=>⟨by decide,by decide⟩,fun _=>⟨by decide,by decide⟩,by rw[w5];rfl,trivial⟩⟩⟩
theorem ahV:aN Tryz.prog 12 SA:=
 aN.b3 (l:=[(45,YL),(25,Cf),(36,NP),(26,JU),(17,A2),(37,V7),(46,V5)]) (A:=fun _=>ar) aJ ⟨ahK,abv,abq,abu,abw,ahN,ahJ,trivial⟩ Tryz.func12 (by kernel_rfl) (by kernel_rfl) fun _ _ _=>b12
theorem P1 {l:List oz} (h:q8 l=true):l.length<=40/\∀k,k<l.length->ri (l.getD k yF)=false:=by
 unfold q8 at h
 have h:=Bool.or_eq_false_iff.1 (by simpa only[Bool.not_eq_true'] using h:(decide (40<(l.length:Int))||l.any ri)=false)
 have h1:=of_decide_eq_false h.1
 refine⟨by omega,fun k hk=> ?_⟩
 have:=List.any_eq_false.1 h.2 _ (fJ yF hk)
 simpa using this
theorem SK {a:oz} (h:ri a=false):a.2.2.2.2.1.length<=20/\a.2.2.2.2.2.length<=20:=by
 unfold ri at h
 simp only[Bool.or_eq_false_iff,decide_eq_false_iff_not] at h
 omega
theorem Y1 {p:ab} {l:List oz} {y:Bool} (ey:y=bif !(bz p).2 then true else !q8 l) (h:y=false):(bz p).2=true/\q8 l=true:=by
 have key:∀a b:Bool,(bif !a then true else !b)=false->a=true/\b=true:=by decide
 exact key _ _ (ey.symm.trans h)
theorem Ux {p:ab} (h:pN p):yK p:=⟨zc h,(oI h.check).2.2.2.2⟩
theorem UA {p:ab} {l:List oz} (h:(bz p).2=true) (hf:q8 l=true) (k:Nat) (hk:k<l.length) {W:fh} (hW:kW W) (inn:gQ):qy W inn (l.getD k yF).2.2.2.2.1 (l.getD k yF).2.2.2.2.2:=by
 have:=SK ((P1 hf).2 k hk)
 exact⟨hW,by omega,by omega⟩
def akK (l:List (Int×List Bool×List Int×List Int×List Int×List Int)) (s6:Nat) (bu:List (af)) (R:Prop):Prop:=l=l/\(↑s6:Int)=(↑s6:Int)/\bu=bu/\R
def ab0 (l:List (Int×List Bool×List Int×List Int×List Int×List Int)) (s6:Nat) (bu:List (af)) (aw:fh) (R:Prop):Prop:=l=l/\(↑s6:Int)=(↑s6:Int)/\bu=bu/\aw.snd.fst=aw.snd.fst/\aw.snd.snd.fst.fst=aw.snd.snd.fst.fst/\aw.snd.snd.fst.snd.fst=aw.snd.snd.fst.snd.fst/\aw.snd.snd.fst.snd.snd.fst=aw.snd.snd.fst.snd.snd.fst/\aw.snd.snd.fst.snd.snd.snd.fst=aw.snd.snd.fst.snd.snd.snd.fst/\aw.snd.snd.fst.snd.snd.snd.snd=aw.snd.snd.fst.snd.snd.snd.snd/\aw.fst.fst.fst=aw.fst.fst.fst/\aw.fst.fst.snd.fst=aw.fst.fst.snd.fst/\aw.fst.fst.snd.snd.fst=aw.fst.fst.snd.snd.fst/\aw.fst.fst.snd.snd.snd.fst=aw.fst.fst.snd.snd.snd.fst/\aw.fst.fst.snd.snd.snd.snd.fst=aw.fst.fst.snd.snd.snd.snd.fst/\aw.fst.fst.snd.snd.snd.snd.snd.fst=aw.fst.fst.snd.snd.snd.snd.snd.fst/\aw.fst.fst.snd.snd.snd.snd.snd.snd.fst=aw.fst.fst.snd.snd.snd.snd.snd.snd.fst/\aw.fst.fst.snd.snd.snd.snd.snd.snd.snd.fst=aw.fst.fst.snd.snd.snd.snd.snd.snd.snd.fst/\aw.fst.fst.snd.snd.snd.snd.snd.snd.snd.snd=aw.fst.fst.snd.snd.snd.snd.snd.snd.snd.snd/\aw.fst.snd=aw.fst.snd/\aw.snd.snd.fst.fst=aw.snd.snd.fst.fst/\aw.snd.snd.snd.fst.fst=aw.snd.snd.snd.fst.fst/\aw.snd.fst=aw.snd.fst/\aw.snd.snd.snd.snd=aw.snd.snd.snd.snd/\aw.snd.snd.fst.snd.fst=aw.snd.snd.fst.snd.fst/\aw.snd.snd.fst.snd.snd.fst=aw.snd.snd.fst.snd.snd.fst/\aw.snd.snd.fst.snd.snd.snd.fst=aw.snd.snd.fst.snd.snd.snd.fst/\aw.snd.snd.fst.snd.snd.snd.snd=aw.snd.snd.fst.snd.snd.snd.snd/\aw.snd.snd.snd.fst.snd=aw.snd.snd.snd.fst.snd/\R
def T6 (l:List (Int×List Bool×List Int×List Int×List Int×List Int)) (s6:Nat) (bu:List (af)) (bM:Nat) (aw:fh) (R:Prop):Prop:=l=l/\(↑s6:Int)=(↑s6:Int)/\bu=bu/\(↑bM:Int)=(↑bM:Int)/\aw.snd.fst=aw.snd.fst/\aw.snd.snd.fst.fst=aw.snd.snd.fst.fst/\aw.snd.snd.fst.snd.fst=aw.snd.snd.fst.snd.fst/\aw.snd.snd.fst.snd.snd.fst=aw.snd.snd.fst.snd.snd.fst/\aw.snd.snd.fst.snd.snd.snd.fst=aw.snd.snd.fst.snd.snd.snd.fst/\aw.snd.snd.fst.snd.snd.snd.snd=aw.snd.snd.fst.snd.snd.snd.snd/\aw.fst.fst.fst=aw.fst.fst.fst/\aw.fst.fst.snd.fst=aw.fst.fst.snd.fst/\aw.fst.fst.snd.snd.fst=aw.fst.fst.snd.snd.fst/\aw.fst.fst.snd.snd.snd.fst=aw.fst.fst.snd.snd.snd.fst/\aw.fst.fst.snd.snd.snd.snd.fst=aw.fst.fst.snd.snd.snd.snd.fst/\aw.fst.fst.snd.snd.snd.snd.snd.fst=aw.fst.fst.snd.snd.snd.snd.snd.fst/\aw.fst.fst.snd.snd.snd.snd.snd.snd.fst=aw.fst.fst.snd.snd.snd.snd.snd.snd.fst/\aw.fst.fst.snd.snd.snd.snd.snd.snd.snd.fst=aw.fst.fst.snd.snd.snd.snd.snd.snd.snd.fst/\aw.fst.fst.snd.snd.snd.snd.snd.snd.snd.snd=aw.fst.fst.snd.snd.snd.snd.snd.snd.snd.snd/\aw.fst.snd=aw.fst.snd/\aw.snd.snd.fst.fst=aw.snd.snd.fst.fst/\aw.snd.snd.snd.fst.fst=aw.snd.snd.snd.fst.fst/\aw.snd.fst=aw.snd.fst/\aw.snd.snd.snd.snd=aw.snd.snd.snd.snd/\aw.snd.snd.fst.snd.fst=aw.snd.snd.fst.snd.fst/\aw.snd.snd.fst.snd.snd.fst=aw.snd.snd.fst.snd.snd.fst/\aw.snd.snd.fst.snd.snd.snd.fst=aw.snd.snd.fst.snd.snd.snd.fst/\aw.snd.snd.fst.snd.snd.snd.snd=aw.snd.snd.fst.snd.snd.snd.snd/\aw.snd.snd.snd.fst.snd=aw.snd.snd.snd.fst.snd/\R
theorem v4 (p:ab) (l:List (Int×List Bool×List Int×List Int×List Int×List Int)):ah (aj aA [(12,SA),(23,A1),(24,Sz),(25,Cf),(27,I7),(26,JU),(17,A2),(19,DE),(16,DF),(28,Gw),(29,JT),(30,ajy),(31,yB)]) Tryz.f4 c4 (a4 (p,l,())) (p,l,())=(
U (bif !(bz p).2 then true else !q8 l) fun(y2:Bool)=>
U ((0:Int),[],[],[],[],[]) fun(y3:Int×List Bool×List Int×List Int×List Int×List Int)=>
U ((0:Int),(0:Int),false,[]) fun(y4:Int×Int×Bool×List Bool)=>
U ((0:Int),(0:Int),(0:Int),[],[],[],[],[],false) fun(y5:af)=>
True/\
((!true)=true->false=true/\True)/\
((!true)=false->True/\
((!(bz p).2)=false->True)/\
(y2=true->true=true/\True)/\
(y2=false->
(bz p).2=true/\
(false=true->false=true/\True)/\
(false=false->
(∃(gG:Nat),gG<=l.length/\
(↑gG:Int)=(0:Int)/\l=l/\
(b8 p l gG).1.1.1=p.1/\
(b8 p l gG).1.1.2.1=p.2.1/\
(b8 p l gG).1.1.2.2.1=p.2.2.1/\
(b8 p l gG).1.1.2.2.2.1=p.2.2.2.1/\
(b8 p l gG).1.1.2.2.2.2.1=p.2.2.2.2.1/\
(b8 p l gG).1.1.2.2.2.2.2.1=p.2.2.2.2.2.1/\
(b8 p l gG).1.1.2.2.2.2.2.2.1=p.2.2.2.2.2.2.1/\
(b8 p l gG).1.1.2.2.2.2.2.2.2.1=p.2.2.2.2.2.2.2.1/\
(b8 p l gG).1.1.2.2.2.2.2.2.2.2=p.2.2.2.2.2.2.2.2/\
(b8 p l gG).1.2=(bz p).1/\
(b8 p l gG).2.2.1.1=max (0:Int) (min (↑p.1.length:Int) (40:Int))/\
(b8 p l gG).2.2.2.1.1=some (nf p)/\
(b8 p l gG).2.1=List.replicate (bz p).1.length gk/\
(b8 p l gG).2.2.2.2=List.replicate p.2.2.1.length (0:Int)/\
(b8 p l gG).2.2.1.2.1=[]/\
(b8 p l gG).2.2.1.2.2.1=[]/\
(b8 p l gG).2.2.1.2.2.2.1=[]/\
(b8 p l gG).2.2.1.2.2.2.2=[]/\
(b8 p l gG).2.2.2.1.2=[]/\ay p (True))/\∀(s6:Nat),U (decide ((↑s6:Int)<(↑l.length:Int))) fun(y7:Bool)=>
U (l.getD (↑s6:Int).toNat y3) fun(y8:Int×List Bool×List Int×List Int×List Int×List Int)=>
U (gq (b8 p l s6) (fe p y8) y8.2.2.2.2.1 y8.2.2.2.2.2).1 fun(y9:fh)=>
U (cK y9.1.1).1.2 fun(bu:List (af))=>
U (bif(↑y9.2.1.length:Int) !=(↑bu.length:Int) then true else false) fun(bH:Bool)=>
U (b8 p l ((↑s6:Int).toNat+(1:Nat))) fun(aw:fh)=>
s6<=l.length->
(y7=true->aL (↑s6:Int) l.length/\yK p/\aL (↑s6:Int) l.length/\aL (↑s6:Int) l.length/\qy (b8 p l s6) (fe p y8) y8.2.2.2.2.1 y8.2.2.2.2.2/\kW y9/\True/\cY y9.1.1/\
(bH=true->false=true/\True)/\
(bH=false->
(∃(iG:Nat),iG<=(bz p).1.length/\
(↑iG:Int)=(0:Int)/\akK l s6 bu (aw.2.1=y9.2.1/\aw.2.2.1.1=y9.2.2.1.1/\aw.2.2.1.2.1=y9.2.2.1.2.1/\aw.2.2.1.2.2.1=y9.2.2.1.2.2.1/\aw.2.2.1.2.2.2.1=y9.2.2.1.2.2.2.1/\aw.2.2.1.2.2.2.2=y9.2.2.1.2.2.2.2/\aw.1.1.1=y9.1.1.1/\aw.1.1.2.1=y9.1.1.2.1/\aw.1.1.2.2.1=y9.1.1.2.2.1/\aw.1.1.2.2.2.1=y9.1.1.2.2.2.1/\aw.1.1.2.2.2.2.1=y9.1.1.2.2.2.2.1/\aw.1.1.2.2.2.2.2.1=y9.1.1.2.2.2.2.2.1/\aw.1.1.2.2.2.2.2.2.1=y9.1.1.2.2.2.2.2.2.1/\aw.1.1.2.2.2.2.2.2.2.1=y9.1.1.2.2.2.2.2.2.2.1/\aw.1.1.2.2.2.2.2.2.2.2=y9.1.1.2.2.2.2.2.2.2.2/\aw.1.2=y9.1.2/\aw.2.2.1.1=y9.2.2.1.1/\aw.2.2.2.1.1=y9.2.2.2.1.1/\aw.2.1=y9.2.1/\aw.2.2.2.2=y9.2.2.2.2/\aw.2.2.1.2.1=y9.2.2.1.2.1/\aw.2.2.1.2.2.1=y9.2.2.1.2.2.1/\aw.2.2.1.2.2.2.1=y9.2.2.1.2.2.2.1/\aw.2.2.1.2.2.2.2=y9.2.2.1.2.2.2.2/\aw.2.2.2.1.2=y9.2.2.2.1.2/\ay p (True)))/\∀(bM:Nat),U (decide ((↑bM:Int)<(↑bu.length:Int))) fun(cL:Bool)=>
U (aw.2.1.getD (↑bM:Int).toNat y4) fun(bC:Int×Int×Bool×List Bool)=>
U (!iD aw.2.2.1 (↑bM:Int)==(bC.1 !=(0:Int))) fun(cC:Bool)=>
U (aD (eE p) (↑bM:Int)).2.2.2 fun(cy:List cu×List ba×List ba×List Int×List Int×Bool)=>
U (bu.getD (↑bM:Int).toNat y5).2.2.2 fun(dN:List (Int×Int×Int)×List (Int×Int)×List (Int×Int)×List Int×List Int×Bool)=>
bM<=(bz p).1.length->
(cL=true->gz aw.2.2.1/\aL (↑bM:Int) aw.2.1.length/\
(cC=true->false=true/\True)/\
(cC=false->aL (↑bM:Int) aw.2.1.length/\
((bC.1==(0:Int))=true->bo IntKind.i64 ((↑bM:Int)+(1:Int))/\∃(iU:Nat),iU<=(bz p).1.length/\
(bz p).1.length - iU<(bz p).1.length - bM/\
(↑iU:Int)=(↑bM:Int)+(1:Int)/\ab0 l s6 bu aw (ay p (True)))/\
((bC.1==(0:Int))=false->
(∃(yg:Nat),yg<=cy.1.length/\
(↑yg:Int)=(0:Int)/\T6 l s6 bu bM aw (ay p (True)))/\∀(jo:Nat),U (decide ((↑jo:Int)<(↑dN.1.length:Int))) fun(du:Bool)=>
U (dN.1.getD (↑jo:Int).toNat ((0:Int),(0:Int),(0:Int))).1 fun(eL:Int)=>
U (fT aw.2.2.1 eL==(↑bM:Int)) fun(dt:Bool)=>
U (!dt==decide ((↑jo:Int)>=bC.2.1)) fun(eC:Bool)=>
U (bif eC then true else bif dt then decide ((↑(lB aw.2.2.1 eL).length:Int)>(0:Int)) else false) fun(im:Bool)=>
jo<=cy.1.length->aL (↑bM:Int) bu.length/\
(du=true->aL (↑bM:Int) bu.length/\aL (↑jo:Int) dN.1.length/\o4 aw.2.2.1 eL/\aL (↑bM:Int) aw.2.1.length/\
(eC=false->dt=true->aL (↑bM:Int) bu.length)/\
(eC=false->dt=true->aL (↑jo:Int) dN.1.length)/\
(eC=false->dt=true->pd aw.2.2.1 eL)/\
(im=true->false=true/\True)/\
(im=false->bo IntKind.i64 ((↑jo:Int)+(1:Int))/\∃(rv:Nat),rv<=cy.1.length/\cy.1.length - rv<cy.1.length - jo/\
(↑rv:Int)=(↑jo:Int)+(1:Int)/\T6 l s6 bu bM aw (ay p (True))))/\
(du=false->
(∃(Kd:Nat),Kd<=cy.2.2.2.1.length/\
(↑Kd:Int)=(0:Int)/\T6 l s6 bu bM aw (ay p (True)))/\∀(yR:Nat),U (decide ((↑yR:Int)<(↑dN.2.2.2.1.length:Int))) fun(jQ:Bool)=>
U (dN.2.2.2.1.getD (↑yR:Int).toNat (0:Int)) fun(lF:Int)=>
U (fT aw.2.2.1 lF) fun(wv:Int)=>
U (bif decide (wv>=(0:Int)) then true else !bN (lB aw.2.2.1 lF) (↑bM:Int)) fun(Ug:Bool)=>
yR<=cy.2.2.2.1.length->aL (↑bM:Int) bu.length/\
(jQ=true->aL (↑bM:Int) bu.length/\aL (↑yR:Int) dN.2.2.2.1.length/\o4 aw.2.2.1 lF/\
(decide (wv>=(0:Int))=false->aL (↑bM:Int) bu.length)/\
(decide (wv>=(0:Int))=false->aL (↑yR:Int) dN.2.2.2.1.length)/\
(decide (wv>=(0:Int))=false->pd aw.2.2.1 lF)/\
(decide (wv>=(0:Int))=false->True)/\
(Ug=true->false=true/\True)/\
(Ug=false->bo IntKind.i64 ((↑yR:Int)+(1:Int))/\∃(sF:Nat),sF<=cy.2.2.2.1.length/\cy.2.2.2.1.length - sF<cy.2.2.2.1.length - yR/\
(↑sF:Int)=(↑yR:Int)+(1:Int)/\T6 l s6 bu bM aw (ay p (True))))/\
(jQ=false->bo IntKind.i64 ((↑bM:Int)+(1:Int))/\∃(sF:Nat),sF<=(bz p).1.length/\
(bz p).1.length - sF<(bz p).1.length - bM/\
(↑sF:Int)=(↑bM:Int)+(1:Int)/\ab0 l s6 bu aw (ay p (True)))))))/\
(cL=false->bo IntKind.i64 ((↑s6:Int)+(1:Int))/\∃(iU:Nat),iU<=l.length/\l.length - iU<l.length - s6/\
(↑iU:Int)=(↑s6:Int)+(1:Int)/\l=l/\
(b8 p l iU).1.1.1=aw.1.1.1/\
(b8 p l iU).1.1.2.1=aw.1.1.2.1/\
(b8 p l iU).1.1.2.2.1=aw.1.1.2.2.1/\
(b8 p l iU).1.1.2.2.2.1=aw.1.1.2.2.2.1/\
(b8 p l iU).1.1.2.2.2.2.1=aw.1.1.2.2.2.2.1/\
(b8 p l iU).1.1.2.2.2.2.2.1=aw.1.1.2.2.2.2.2.1/\
(b8 p l iU).1.1.2.2.2.2.2.2.1=aw.1.1.2.2.2.2.2.2.1/\
(b8 p l iU).1.1.2.2.2.2.2.2.2.1=aw.1.1.2.2.2.2.2.2.2.1/\
(b8 p l iU).1.1.2.2.2.2.2.2.2.2=aw.1.1.2.2.2.2.2.2.2.2/\
(b8 p l iU).1.2=aw.1.2/\
(b8 p l iU).2.2.1.1=aw.2.2.1.1/\
(b8 p l iU).2.2.2.1.1=aw.2.2.2.1.1/\
(b8 p l iU).2.1=aw.2.1/\
(b8 p l iU).2.2.2.2=aw.2.2.2.2/\
(b8 p l iU).2.2.1.2.1=aw.2.2.1.2.1/\
(b8 p l iU).2.2.1.2.2.1=aw.2.2.1.2.2.1/\
(b8 p l iU).2.2.1.2.2.2.1=aw.2.2.1.2.2.2.1/\
(b8 p l iU).2.2.1.2.2.2.2=aw.2.2.1.2.2.2.2/\
(b8 p l iU).2.2.2.1.2=aw.2.2.2.1.2/\ay p (True))))/\
(y7=false->true=true/\True))))):=by kernel_rfl
def xC (o:List Bool) (e:Int):Bool:=decide (0<=e)&&(decide (e<(o.length:Int))&&o.getD e.toNat false)
@[irreducible] def pK (r:af) (o:List Bool):Bool:= !(ig r).any (xC o)
def VU:bg where
 args:=[eH,.list .bool]
 out:= .data [.bool]
 pre:=fun(x:af×List Bool×Unit)=>rL x.1
 fn:=fun(x:af×List Bool×Unit)=>(pK x.1 x.2.1,())
def a75 (x:af×List Bool×Unit):eA:=bh [(3,fun _=>vg (xC x.2.1) (ig x.1) 6 [1,2,5] [2,11])]
def tq (pos:List Int) (n:ba):Bool:= !(xW pos n.1==n.2)
@[irreducible] def tC (r:af) (pos:List Int) (o:List Bool):Bool:= !(aR r).any (tq pos)&&pK r o
def V9:bg where
 args:=[eH,.list I,.list .bool]
 out:= .data [.bool]
 pre:=fun(x:af×List Int×List Bool×Unit)=>rL x.1
 fn:=fun(x:af×List Int×List Bool×Unit)=>(tC x.1 x.2.1 x.2.2.1,())
def a32 (x:af×List Int×List Bool×Unit):eA:=bh [(3,fun _=>vg (tq x.2.1) (aR x.1) 8 [1,2,3,7] [3,15])]
def nC (c:bO) (ls:List cI):Nat->List Bool
 |0=>List.replicate c.1.2.2.1.length false
 |k+1=>bif(ls.getD k gk).1==2 then(nC c ls k).set (aD c (k:Int)).1.toNat true else nC c ls k
def c5:bg:=MY [PlanT,.list ActT]
def L6 (W:fh):List (Nat×c7):=(2100,.row false 73 kT W.2.1)::DM W 2000
def a5 (x:ab×List oz×Unit):eA:=bh [
 (9,fun S=>{
  σ:=Nat
  ok:=fun k=>k<=x.2.1.length
  mu:=fun k=>x.2.1.length - k
  sl:=fun k=>[(7,.one (.aG I (k:Int))),(5,.one (.ptr 2000 0))]
  bl:=fun k=>DM (b8 x.1 x.2.1 k) 2000
  keep:=[1,2]
  cv:=[2]}),
 (22,fun S=>{
  σ:=Nat
  ok:=fun k=>k<=(bz x.1).1.length
  mu:=fun k=>(bz x.1).1.length - k
  sl:=fun k=>[(15,.one (.aG I (k:Int))),(5,.one (.ptr 2000 0)),(11,.one (.row kT 2100)),(14,.one (.row .bool 2101))]
  bl:=fun k=>(2101,.row false 4 .bool (nC (eE x.1) (b8 x.1 x.2.1 ((da S 7).toNat+1)).2.1 k))::L6 (b8 x.1 x.2.1 ((da S 7).toNat+1))
  keep:=[1,2,7,8,9,12]
  cv:=[2,8,9,48000,48001,48002,48003]}),
 (28,fun S=>{
  σ:=Nat
  ok:=fun k=>k<=x.1.1.length
  mu:=fun k=>x.1.1.length - k
  sl:=fun k=>[(17,.one (.aG I (k:Int))),(5,.one (.ptr 2000 0)),(11,.one (.row kT 2100)),(14,.one (.row .bool 2101)),(16,.one (.row .bool 2102))]
  bl:=fun k=>(2102,.row false 4 .bool (gC x.1 (fe x.1 (x.2.1.getD (da S 7).toNat yF)).1 k))::(2101,.row false 4 .bool (nC (eE x.1) (b8 x.1 x.2.1 ((da S 7).toNat+1)).2.1 ((da S 15).toNat+1)))::L6 (b8 x.1 x.2.1 ((da S 7).toNat+1))
  keep:=[1,2,7,8,9,12,15]
  cv:=[2,8,9,48000,48001,48002,48003]}),
 (34,fun S=>{
  σ:=Nat
  ok:=fun k=>k<=x.1.2.2.1.length
  mu:=fun k=>x.1.2.2.1.length - k
  sl:=fun k=>[(18,.one (.aG I (k:Int))),(5,.one (.ptr 2000 0)),(14,.one (.row .bool 2101))]
  bl:=fun k=>(2101,.row false 4 .bool (nC (eE x.1) (b8 x.1 x.2.1 ((da S 7).toNat+1)).2.1 (bz x.1).1.length))::DM (b8 x.1 x.2.1 ((da S 7).toNat+1)) 2000
  keep:=[1,2,7,9]
  cv:=[2,9]})]
def Ad (r:af) (inn:gQ) (l:cI):Prop:=l.1=2->l.2.2.1=false/\(aR r).all (liesAt inn.2.1)=true/\(r.2.2.2.1.all (yJ inn.1)&&r.2.2.2.2.2.2.1.all (Cw inn.1))=true
theorem Hu {c:bO} {inn:gQ} {gone:List (Int×Bool)} {s:yc} (h:Inv c s.1 s.2):∀k,k<=c.2.length->∀i:Nat,i<k->Ad (aD c (i:Int)) inn ((lh c inn gone s k).1.getD i gk)
 |0,_,i,hi=>by omega
 |k+1,hk,i,hi=>by
  have ih:=Hu (inn:=inn) (gone:=gone) h k (by omega)
  have hI:=h.roads (inn:=inn) (gone:=gone) k (by omega)
  show Ad _ _ ((qg c inn gone (lh c inn gone s k) k).1.getD i gk)
  unfold qg
  split
  ·rename_i h0
   by_cases e:i=k
   ·subst e
    intro h2
    rw[h0] at h2
    cases h2
   ·exact ih i (by omega)
  ·rename_i h0
   show Ad _ _ (((lh c inn gone s k).1.set k _).getD i gk)
   rw[xR (by rw[hI.len];omega)]
   split
   ·rename_i e
    subst e
    intro h2
    obtain⟨f,_,_,_,_,_,f6⟩:=yM (hI.FI i (by omega)) h0 (D8 (aD c (i:Int)) inn (i:Int) gone)
    have:=f6 h2
    have ev:(q6 (aD c (i:Int)) inn (i:Int) gone).2.2.1=(aR (aD c (i:Int))).all (liesAt inn.2.1)/\(q6 (aD c (i:Int)) inn (i:Int) gone).2.2.2.1=((aD c (i:Int)).2.2.2.1.all (yJ inn.1)&&(aD c (i:Int)).2.2.2.2.2.2.1.all (Cw inn.1)):=by
     unfold q6;exact⟨rfl,rfl⟩
    exact⟨this.1,ev.1▸this.2.1,ev.2▸this.2.2⟩
   ·exact ih i (by omega)
theorem IX {c:bO} {inn:gQ} {l:List Int} {s:wo} (h0:∀i:Nat,Ad (aD c (i:Int)) inn (s.1.getD i gk)):∀k,∀i:Nat,Ad (aD c (i:Int)) inn ((rb c inn l s k).1.getD i gk)
 |0,i=>h0 i
 |k+1,i=>by
  have ih:=IX (l:=l) h0 k
  show Ad _ _ ((lT c inn (rb c inn l s k) _).1.getD i gk)
  unfold lT
  split
  ·show Ad _ _ (List.getD (List.set _ _ _) i gk)
   rw[List.getD_eq_getElem?_getD,List.getElem?_set]
   split
   ·split
    ·intro h2
     have:(nN ((aD c (l.getD k 0)).2.2.2.1.length:Int)).1=2:=h2
     unfold nN at this
     cases hb:(decide (((aD c (l.getD k 0)).2.2.2.1.length:Int)<1)||decide (((aD c (l.getD k 0)).2.2.2.1.length:Int)>12))<;>rw[hb] at this<;>cases this
    ·intro h2;cases h2
   ·rw[<-List.getD_eq_getElem?_getD];exact ih i
  ·exact ih i
theorem Uz {W:fh} (h:kW W) {inn:gQ} {calls cancels:List Int} (hs:oE W.1.1 inn=true) (i:Nat):Ad (aD W.1 (i:Int)) (ie W.1.1 inn) ((gq W inn calls cancels).1.2.1.getD i gk):=by
 unfold gq
 rw[if_pos hs]
 refine IX (fun j=> ?_) _ i
 by_cases hj:j<W.2.1.length
 ·exact Hu (s:=(W.2.1,W.2.2.1)) h.inv W.2.1.length (by rw[h.inv.len];exact Nat.le_refl _) j hj
 ·intro h2
  have hl:=(h.inv.roads (s:=(W.2.1,W.2.2.1)) (inn:=ie W.1.1 inn) (gone:=gL cancels cancels.length) W.2.1.length (by rw[h.inv.len];exact Nat.le_refl _)).len
  have BW:=h.inv.len
  have hn:(lh W.1 (ie W.1.1 inn) (gL cancels cancels.length) (W.2.1,W.2.2.1) W.2.1.length).1[j]? =none:=List.getElem?_eq_none (by omega)
  have h2:((lh W.1 (ie W.1.1 inn) (gL cancels cancels.length) (W.2.1,W.2.2.1) W.2.1.length).1.getD j gk).1=2:=h2
  rw[List.getD_eq_getElem?_getD,hn] at h2
  cases h2
theorem J5 {W:fh} {inn:gQ} {calls cancels:List Int}:((gq W inn calls cancels).2.2=0/\oE W.1.1 inn=true)\/((gq W inn calls cancels).2=(([],[],[]),1)):=by
 unfold gq
 split
 ·rename_i h;exact .inl ⟨rfl,h⟩
 ·exact .inr rfl
theorem UJ {p:ab} {r:af} (hr:xb p r) {inn:gQ} (hl:inn.2.1.length=p.1.length) (h1:(aR r).all (liesAt inn.2.1)=true) (h2:(r.2.2.2.1.all (yJ inn.1)&&r.2.2.2.2.2.2.1.all (Cw inn.1))=true):tC r inn.2.1 inn.1=true:=by
 have g1:(aR r).any (tq inn.2.1)=false:=List.any_eq_false.2 fun n hn=>by
  have hb:=List.all_eq_true.1 h1 n hn
  have ha:=hr.sV.each n hn
  unfold liesAt at hb
  have hb:=eq_of_beq hb
  have:xW inn.2.1 n.1=n.2:=by
   unfold xW
   rw[decide_eq_true (by omega),decide_eq_true (by omega),hb]
   rcases ha.1 with e|e<;>rw[e]<;>rfl
  unfold tq
  rw[this]
  simp
 have g2:pK r inn.1=true:=by
  have h2:=Bool.and_eq_true_iff.1 h2
  unfold pK
  rw[Bool.not_eq_true']
  refine List.any_eq_false.2 fun e he=> ?_
  have:inn.1.getD e.toNat false=false:=by
   unfold ig at he
   rcases List.mem_append.1 he with he|he
   ·unfold cw at he
    obtain⟨s,hs,rfl⟩:=List.mem_map.1 he
    have:=List.all_eq_true.1 h2.1 s hs
    unfold yJ at this
    simpa using this
   ·have:=List.all_eq_true.1 h2.2 e he
    unfold Cw at this
    simpa using this
  unfold xC
  rw[this,Bool.and_false,Bool.and_false]
  exact Bool.false_ne_true
 unfold tC
 rw[g1,g2]
 rfl
theorem xv (c:bO) (ls:List cI):∀k,(nC c ls k).length=c.1.2.2.1.length
 |0=>List.length_replicate
 |k+1=>by
  have ih:=xv c ls k
  show(bif _ then _ else _:List Bool).length=_
  cases (ls.getD k gk).1==2
  ·exact ih
  ·rw[cond_true,List.length_set];exact ih
theorem Hk {c:bO} {ls:List cI} (hs:∀i,i<c.2.length->0<=(aD c (i:Int)).1/\(aD c (i:Int)).1<(c.1.2.2.1.length:Int)) {s:Nat} (hl:s<c.1.2.2.1.length):∀k,k<=c.2.length->((nC c ls k).getD s false=true↔∃i:Nat,i<k/\(ls.getD i gk).1=2/\(aD c (i:Int)).1=(s:Int))
 |0,_=>by
  show(List.replicate c.1.2.2.1.length false).getD s false=true↔_
  rw[List.getD_eq_getElem?_getD,List.getElem?_replicate,if_pos hl]
  exact⟨fun h=>(by cases h),fun⟨i,h,_⟩=>(by omega)⟩
 |k+1,hk=>by
  have ih:=Hk hs (ls:=ls) hl k (by omega)
  have zu:=xv c ls k
  have hsk:=hs k (by omega)
  show(bif(ls.getD k gk).1==2 then(nC c ls k).set (aD c (k:Int)).1.toNat true else nC c ls k).getD s false=true↔_
  cases h2:(ls.getD k gk).1==2 with
  |false=>
   rw[cond_false,ih]
   constructor
   ·rintro⟨i,h1,h3⟩;exact⟨i,by omega,h3⟩
   ·rintro⟨i,h1,h3,h4⟩
    by_cases e:i=k
    ·subst e;rw[h3] at h2;cases h2
    ·exact⟨i,by omega,h3,h4⟩
  |true=>
   rw[cond_true,rU _ _ _ _ _ (by rw[zu];exact hl)]
   split
   ·rename_i e
    exact⟨fun _=>⟨k,by omega,eq_of_beq h2,by omega⟩,fun _=>rfl⟩
   ·rename_i e
    rw[ih]
    constructor
    ·rintro⟨i,h1,h3⟩;exact⟨i,by omega,h3⟩
    ·rintro⟨i,h1,h3,h4⟩
     by_cases e2:i=k
     ·subst e2;omega
     ·exact⟨i,by omega,h3,h4⟩
theorem Fm {rs:List af} {ls:List cI} {s:Nat} (hl:s<24):∀k,k<=rs.length->(0<=(setRow rs ls k).getD s 0↔∃i:Nat,rs.length - k<=i/\i<rs.length/\kH rs ls i=true/\xS rs i=(s:Int))
 |0,_=>by
  rw[show(setRow rs ls 0).getD s 0= -1 from WQ s hl]
  exact⟨fun h=>(by omega),fun⟨i,h1,h2,_⟩=>(by omega)⟩
 |k+1,hk=>by
  have ih:=Fm (rs:=rs) (ls:=ls) hl k (by omega)
  show 0<=(bif kH rs ls (rs.length - 1 - k) then(setRow rs ls k).set (xS rs (rs.length - 1 - k)).toNat ((rs.length - 1 - k:Nat):Int) else setRow rs ls k).getD s 0↔_
  cases h2:kH rs ls (rs.length - 1 - k) with
  |false=>
   rw[cond_false,ih]
   constructor
   ·rintro⟨i,h1,h3⟩;exact⟨i,by omega,h3⟩
   ·rintro⟨i,h1,h3,h4,h5⟩
    by_cases e:i=rs.length - 1 - k
    ·subst e;rw[h4] at h2;cases h2
    ·exact⟨i,by omega,h3,h4,h5⟩
  |true=>
   have hc:=h2
   unfold kH at hc
   simp only[Bool.and_eq_true,decide_eq_true_eq] at hc
   rw[cond_true,rU _ _ _ _ _ (by rw[yP];exact hl)]
   split
   ·rename_i e
    exact⟨fun _=>⟨rs.length - 1 - k,by omega,by omega,h2,by omega⟩,fun _=>by omega⟩
   ·rename_i e
    rw[ih]
    constructor
    ·rintro⟨i,h1,h3⟩;exact⟨i,by omega,h3⟩
    ·rintro⟨i,h1,h3,h4,h5⟩
     by_cases e2:i=rs.length - 1 - k
     ·subst e2;omega
     ·exact⟨i,by omega,h3,h4,h5⟩
theorem Qr {c:bO} (hc:lA c) {ls:List cI} (hls:ls.length=c.2.length) {s:Nat} (hl:s<c.1.2.2.1.length):(!((fW c ls).getD s 0==0))=(nC c ls c.2.length).getD s false:=by
 have hs:∀i,i<c.2.length->0<=(aD c (i:Int)).1/\(aD c (i:Int)).1<(c.1.2.2.1.length:Int):=fun i hi=>(hc.rz _ (kX (c:=c) (o:=(i:Int)) ⟨by omega,by omega⟩)).sig
 have anY:=hc.sigs
 have h1:=Hk (ls:=ls) hs hl c.2.length (Nat.le_refl _)
 have h2:=Fm (rs:=c.2) (ls:=ls) (s:=s) (by omega) c.2.length (Nat.le_refl _)
 have abK:(0<=(setRow c.2 ls c.2.length).getD s 0)↔(nC c ls c.2.length).getD s false=true:=by
  rw[h1,h2]
  constructor
  ·rintro⟨i,_,g1,g2,g3⟩
   unfold kH at g2
   simp only[Bool.and_eq_true,decide_eq_true_eq,beq_iff_eq] at g2
   exact⟨i,g1,g2.2.1,g3⟩
  ·rintro⟨i,g1,g2,g3⟩
   have hf:xS c.2 i=(s:Int):=g3
   refine⟨i,by omega,g1,?_,hf⟩
   unfold kH
   rw[decide_eq_true (by omega),g2,hf,decide_eq_true (by omega),decide_eq_true (by omega)]
   rfl
 rw[Qq _ _ hl]
 unfold KT
 rw[decide_eq_false (show ¬24<=s by omega),Bool.false_or]
 by_cases h0:0<=(setRow c.2 ls c.2.length).getD s 0
 ·rw[decide_eq_false (by omega),abK.1 h0,cond_false]
  cases Dx (setRow c.2 ls c.2.length) (c.2.getD ((setRow c.2 ls c.2.length).getD s 0).toNat zR)<;>rfl
 ·have:(nC c ls c.2.length).getD s false=false:=by
   cases hx:(nC c ls c.2.length).getD s false with
   |false=>rfl
   |true=>exact absurd (abK.2 hx) h0
  rw[decide_eq_true (by omega),this,cond_true]
  rfl
theorem v75 (r:af) (o:List Bool):ah (aj aA [(77,Qf)]) Tryz.f75 VU (a75 (r,o,())) (r,o,())=(
U (cw r++r.2.2.2.2.2.2.1) fun(y2:List Int)=>
r.2.2.2.1.length<=(1000000:Nat)/\
roomFor ((cw r).length+r.2.2.2.2.2.2.1.length) (8:Nat)/\
(∃(fB:Nat),
(fB<=(ig r).length/\(List.take fB (ig r)).any (xC o)=false)/\
(↑fB:Int)=(0:Int)/\
o=o/\
ay r (y2=y2/\True))/\
∀(s3:Nat),
U (decide ((↑s3:Int)<(↑y2.length:Int))) fun(y4:Bool)=>
U (y2.getD (↑s3:Int).toNat (0:Int)) fun(y5:Int)=>
U (bif decide (y5>=(0:Int)) then decide (y5<(↑o.length:Int)) else false) fun(y6:Bool)=>
U (bif y6 then o.getD y5.toNat false else false) fun(y7:Bool)=>
s3<=(ig r).length/\(List.take s3 (ig r)).any (xC o)=false->
(y4=true->
aL (↑s3:Int) y2.length/\
(decide (y5>=(0:Int))=true->aL (↑s3:Int) y2.length)/\
(y6=true->aL (↑s3:Int) y2.length)/\
(y6=true->aL y5 o.length)/\
(y7=true->false=pK r o/\True)/\
(y7=false->
bo IntKind.i64 ((↑s3:Int)+(1:Int))/\
∃(jq:Nat),
(jq<=(ig r).length/\(List.take jq (ig r)).any (xC o)=false)/\
(ig r).length - jq<(ig r).length - s3/\
(↑jq:Int)=(↑s3:Int)+(1:Int)/\
o=o/\
ay r (y2=y2/\True)))/\
(y4=false->true=pK r o/\True)):=by kernel_rfl
theorem b75 (r:af) (o:List Bool) (h:rL r):ah (aj aA [(77,Qf)]) Tryz.f75 VU (a75 (r,o,())) (r,o,()):=by
 rw[v75]
 have hz:r.2.2.2.2.2.2.1.length<=1000:=h.2
 have No:=r6 r
 have hl:=h.1.1
 have hlen:(ig r).length<=2000:=by unfold ig;rw[List.length_append];omega
 have hF:pK r o= !(ig r).any (xC o):=by unfold pK;rfl
 simp only[dp,true_and,and_true,eq_self]
 refine U.mk fun y2 e2=> ?_
 have e2:y2=ig r:=e2
 subst e2
 refine⟨by omega,cT (by omega) (by omega),⟨0,⟨by omega,by simp⟩,by omega⟩,fun s=>U.mk fun y4 e4=>U.mk fun y5 e5=>U.mk fun y6 e6=>U.mk fun y7 e7=> ?_⟩
 rintro⟨h1,h2⟩
 rw[Int.toNat_natCast] at e5
 have hq:y7=xC o y5:=by
  rw[e7,e6]
  unfold xC
  rw[r9,r9,Bool.and_assoc]
 refine⟨fun hs=> ?_,fun hs=> ?_⟩
 ·have hs:=aZ e4 hs
  refine⟨⟨by omega,by omega⟩,fun _=>⟨by omega,by omega⟩,fun _=>⟨by omega,by omega⟩,fun hy=> ?_,fun hy=> ?_,fun hy=>⟨aY (by omega) (by omega),s+1,⟨by omega,any_succ 0 hs h2 (by rw[<-e5,<-hq];exact hy)⟩,by omega,by omega⟩⟩
  ·have hy:=Bool.and_eq_true_iff.1 ((r9 _ _).symm.trans (e6.symm.trans hy))
   have g1:=of_decide_eq_true hy.1
   have g2:=of_decide_eq_true hy.2
   exact⟨by omega,by omega⟩
  ·rw[hF,nZ (s:=s) 0 hs (by rw[<-e5,<-hq];exact hy)]
   rfl
 ·rw[hF,lU (bt e4 hs) h2]
  rfl
theorem ahp:aN Tryz.prog 75 VU:=
 aN.b3 (l:=[(77,Qf)]) (A:=a75) aJ ⟨abo,trivial⟩ Tryz.func75 (by kernel_rfl) (by kernel_rfl) fun x hw hp=>b75 x.1 x.2.1 hp
theorem v32 (r:af) (q:List Int) (o:List Bool):ah (aj aA [(34,V8),(75,VU)]) Tryz.f32 V9 (a32 (r,q,o,())) (r,q,o,())=(
U (List.replicate (0:Nat) ((0:Int),(0:Int))++r.2.2.2.2.1) fun(y3:List (Int×Int))=>
U (y3++r.2.2.2.2.2.1) fun(y4:List (Int×Int))=>
roomFor ((List.replicate (0:Nat) ((0:Int),(0:Int))).length+r.2.2.2.2.1.length) (16:Nat)/\
roomFor (y3.length+r.2.2.2.2.2.1.length) (16:Nat)/\
(∃(rm:Nat),
(rm<=(aR r).length/\(List.take rm (aR r)).any (tq q)=false)/\
(↑rm:Int)=(0:Int)/\
q=q/\
o=o/\
ay r (y4=y4/\True))/\
∀(s5:Nat),
U (decide ((↑s5:Int)<(↑y4.length:Int))) fun(y6:Bool)=>
U (y4.getD (↑s5:Int).toNat ((0:Int),(0:Int))) fun(y7:Int×Int)=>
U (xW q y7.1 !=y7.2) fun(y8:Bool)=>
s5<=(aR r).length/\(List.take s5 (aR r)).any (tq q)=false->
(y6=true->
aL (↑s5:Int) y4.length/\
True/\
aL (↑s5:Int) y4.length/\
(y8=true->false=tC r q o/\True)/\
(y8=false->
bo IntKind.i64 ((↑s5:Int)+(1:Int))/\
∃(xz:Nat),
(xz<=(aR r).length/\(List.take xz (aR r)).any (tq q)=false)/\
(aR r).length - xz<(aR r).length - s5/\
(↑xz:Int)=(↑s5:Int)+(1:Int)/\
q=q/\
o=o/\
ay r (y4=y4/\True)))/\
(y6=false->rL r/\pK r o=tC r q o/\True)):=by kernel_rfl
theorem b32 (r:af) (q:List Int) (o:List Bool) (h:rL r):ah (aj aA [(34,V8),(75,VU)]) Tryz.f32 V9 (a32 (r,q,o,())) (r,q,o,()):=by
 rw[v32]
 have hl:=h.1
 have hF:tC r q o=(!(aR r).any (tq q)&&pK r o):=by unfold tC;rfl
 have hlen:(aR r).length<=2000:=by unfold aR;rw[List.length_append];have:=hl.2;omega
 simp only[dp,true_and,and_true,eq_self]
 refine U.mk fun y3 e3=>U.mk fun y4 e4=> ?_
 have e3:y3=r.2.2.2.2.1:=e3
 have e4:y4=aR r:=by rw[e4,e3];unfold aR;rfl
 have zy:=hl.2
 have hl3:y3.length=r.2.2.2.2.1.length:=by rw[e3]
 subst e4
 refine⟨cT (by show 0+_<=_;omega) (by decide),cT (by omega) (by decide),⟨0,⟨by omega,by simp⟩,by omega⟩,fun s=>U.mk fun y6 e6=>U.mk fun y7 e7=>U.mk fun y8 e8=> ?_⟩
 rintro⟨h1,h2⟩
 rw[Int.toNat_natCast] at e7
 have hq:y8=tq q y7:=e8
 refine⟨fun hs=> ?_,fun hs=> ?_⟩
 ·have hs:=aZ e6 hs
  refine⟨⟨by omega,by omega⟩,⟨by omega,by omega⟩,fun hy=> ?_,fun hy=>⟨aY (by omega) (by omega),s+1,⟨by omega,any_succ ((0:Int),(0:Int)) hs h2 (by rw[<-e7,<-hq];exact hy)⟩,by omega,by omega⟩⟩
  rw[hF,nZ (s:=s) ((0:Int),(0:Int)) hs (by rw[<-e7,<-hq];exact hy)]
  rfl
 ·rw[hF,lU (bt e6 hs) h2]
  exact⟨h,rfl⟩
theorem ahP:aN Tryz.prog 32 V9:=
 aN.b3 (l:=[(34,V8),(75,VU)]) (A:=a32) aJ ⟨ahO,ahp,trivial⟩ Tryz.func32 (by kernel_rfl) (by kernel_rfl) fun x hw hp=>b32 x.1 x.2.1 x.2.2.1 hp
theorem QU {p:ab} {inn:gQ} (h:oE p inn=true):inn.1.length=p.1.length/\inn.2.1.length=p.1.length/\inn.2.2.1.length=p.2.2.1.length/\inn.2.2.2.length=p.2.2.1.length:=by
 unfold oE at h
 simpa using h
theorem UB {W:fh} {inn:gQ} {calls cancels:List Int} (h:oE W.1.1 inn=true):(gq W inn calls cancels).2.1.1=fW W.1 (gq W inn calls cancels).1.2.1:=by
 unfold gq
 rw[if_pos h]
def T5 (l:List (Int×List Bool×List Int×List Int×List Int×List Int)) (s6:Nat) (p:ab) (R:Prop):Prop:=l=l/\(↑s6:Int)=(↑s6:Int)/\(bz p).fst=(bz p).fst/\R
def Me (y9:fh×Jp×Int) (p:ab) (y8:Int×List Bool×List Int×List Int×List Int×List Int) (cL:List Bool) (bC:List Bool) (R:Prop):Prop:=y9.snd.fst.snd.fst=y9.snd.fst.snd.fst/\y9.snd.fst.snd.snd=y9.snd.fst.snd.snd/\(fe p y8).fst=(fe p y8).fst/\(fe p y8).snd.fst=(fe p y8).snd.fst/\cL=cL/\bC=bC/\R
def T4 (aB:fh) (R:Prop):Prop:=aB.snd.fst=aB.snd.fst/\aB.fst.fst.fst=aB.fst.fst.fst/\aB.fst.fst.snd.fst=aB.fst.fst.snd.fst/\aB.fst.fst.snd.snd.fst=aB.fst.fst.snd.snd.fst/\aB.fst.fst.snd.snd.snd.fst=aB.fst.fst.snd.snd.snd.fst/\aB.fst.fst.snd.snd.snd.snd.fst=aB.fst.fst.snd.snd.snd.snd.fst/\aB.fst.fst.snd.snd.snd.snd.snd.fst=aB.fst.fst.snd.snd.snd.snd.snd.fst/\aB.fst.fst.snd.snd.snd.snd.snd.snd.fst=aB.fst.fst.snd.snd.snd.snd.snd.snd.fst/\aB.fst.fst.snd.snd.snd.snd.snd.snd.snd.fst=aB.fst.fst.snd.snd.snd.snd.snd.snd.snd.fst/\aB.fst.fst.snd.snd.snd.snd.snd.snd.snd.snd=aB.fst.fst.snd.snd.snd.snd.snd.snd.snd.snd/\aB.fst.snd=aB.fst.snd/\aB.snd.snd.fst.fst=aB.snd.snd.fst.fst/\aB.snd.snd.snd.fst.fst=aB.snd.snd.snd.fst.fst/\aB.snd.fst=aB.snd.fst/\aB.snd.snd.snd.snd=aB.snd.snd.snd.snd/\aB.snd.snd.fst.snd.fst=aB.snd.snd.fst.snd.fst/\aB.snd.snd.fst.snd.snd.fst=aB.snd.snd.fst.snd.snd.fst/\aB.snd.snd.fst.snd.snd.snd.fst=aB.snd.snd.fst.snd.snd.snd.fst/\aB.snd.snd.fst.snd.snd.snd.snd=aB.snd.snd.fst.snd.snd.snd.snd/\aB.snd.snd.snd.fst.snd=aB.snd.snd.snd.fst.snd/\R
def Zs (l:List (Int×List Bool×List Int×List Int×List Int×List Int)) (s6:Nat) (p:ab) (fA:Nat) (R:Prop):Prop:=l=l/\(↑s6:Int)=(↑s6:Int)/\(bz p).fst=(bz p).fst/\(↑fA:Int)=(↑fA:Int)/\R
def abZ (eC:List Bool) (aB:fh) (R:Prop):Prop:=eC=eC/\aB.snd.fst=aB.snd.fst/\aB.fst.fst.fst=aB.fst.fst.fst/\aB.fst.fst.snd.fst=aB.fst.fst.snd.fst/\aB.fst.fst.snd.snd.fst=aB.fst.fst.snd.snd.fst/\aB.fst.fst.snd.snd.snd.fst=aB.fst.fst.snd.snd.snd.fst/\aB.fst.fst.snd.snd.snd.snd.fst=aB.fst.fst.snd.snd.snd.snd.fst/\aB.fst.fst.snd.snd.snd.snd.snd.fst=aB.fst.fst.snd.snd.snd.snd.snd.fst/\aB.fst.fst.snd.snd.snd.snd.snd.snd.fst=aB.fst.fst.snd.snd.snd.snd.snd.snd.fst/\aB.fst.fst.snd.snd.snd.snd.snd.snd.snd.fst=aB.fst.fst.snd.snd.snd.snd.snd.snd.snd.fst/\aB.fst.fst.snd.snd.snd.snd.snd.snd.snd.snd=aB.fst.fst.snd.snd.snd.snd.snd.snd.snd.snd/\aB.fst.snd=aB.fst.snd/\aB.snd.snd.fst.fst=aB.snd.snd.fst.fst/\aB.snd.snd.snd.fst.fst=aB.snd.snd.snd.fst.fst/\aB.snd.fst=aB.snd.fst/\aB.snd.snd.snd.snd=aB.snd.snd.snd.snd/\aB.snd.snd.fst.snd.fst=aB.snd.snd.fst.snd.fst/\aB.snd.snd.fst.snd.snd.fst=aB.snd.snd.fst.snd.snd.fst/\aB.snd.snd.fst.snd.snd.snd.fst=aB.snd.snd.fst.snd.snd.snd.fst/\aB.snd.snd.fst.snd.snd.snd.snd=aB.snd.snd.fst.snd.snd.snd.snd/\aB.snd.snd.snd.fst.snd=aB.snd.snd.snd.fst.snd/\R
def abY (aB:fh) (R:Prop):Prop:=aB.fst.fst.fst=aB.fst.fst.fst/\aB.fst.fst.snd.fst=aB.fst.fst.snd.fst/\aB.fst.fst.snd.snd.fst=aB.fst.fst.snd.snd.fst/\aB.fst.fst.snd.snd.snd.fst=aB.fst.fst.snd.snd.snd.fst/\aB.fst.fst.snd.snd.snd.snd.fst=aB.fst.fst.snd.snd.snd.snd.fst/\aB.fst.fst.snd.snd.snd.snd.snd.fst=aB.fst.fst.snd.snd.snd.snd.snd.fst/\aB.fst.fst.snd.snd.snd.snd.snd.snd.fst=aB.fst.fst.snd.snd.snd.snd.snd.snd.fst/\aB.fst.fst.snd.snd.snd.snd.snd.snd.snd.fst=aB.fst.fst.snd.snd.snd.snd.snd.snd.snd.fst/\aB.fst.fst.snd.snd.snd.snd.snd.snd.snd.snd=aB.fst.fst.snd.snd.snd.snd.snd.snd.snd.snd/\aB.fst.snd=aB.fst.snd/\aB.snd.snd.fst.fst=aB.snd.snd.fst.fst/\aB.snd.snd.snd.fst.fst=aB.snd.snd.snd.fst.fst/\aB.snd.fst=aB.snd.fst/\aB.snd.snd.snd.snd=aB.snd.snd.snd.snd/\aB.snd.snd.fst.snd.fst=aB.snd.snd.fst.snd.fst/\aB.snd.snd.fst.snd.snd.fst=aB.snd.snd.fst.snd.snd.fst/\aB.snd.snd.fst.snd.snd.snd.fst=aB.snd.snd.fst.snd.snd.snd.fst/\aB.snd.snd.fst.snd.snd.snd.snd=aB.snd.snd.fst.snd.snd.snd.snd/\aB.snd.snd.snd.fst.snd=aB.snd.snd.snd.fst.snd/\R
def abX (l:List (Int×List Bool×List Int×List Int×List Int×List Int)) (s6:Nat) (cy:List Bool) (aB:fh) (R:Prop):Prop:=l=l/\(↑s6:Int)=(↑s6:Int)/\cy=cy/\aB.fst.fst.fst=aB.fst.fst.fst/\aB.fst.fst.snd.fst=aB.fst.fst.snd.fst/\aB.fst.fst.snd.snd.fst=aB.fst.fst.snd.snd.fst/\aB.fst.fst.snd.snd.snd.fst=aB.fst.fst.snd.snd.snd.fst/\aB.fst.fst.snd.snd.snd.snd.fst=aB.fst.fst.snd.snd.snd.snd.fst/\aB.fst.fst.snd.snd.snd.snd.snd.fst=aB.fst.fst.snd.snd.snd.snd.snd.fst/\aB.fst.fst.snd.snd.snd.snd.snd.snd.fst=aB.fst.fst.snd.snd.snd.snd.snd.snd.fst/\aB.fst.fst.snd.snd.snd.snd.snd.snd.snd.fst=aB.fst.fst.snd.snd.snd.snd.snd.snd.snd.fst/\aB.fst.fst.snd.snd.snd.snd.snd.snd.snd.snd=aB.fst.fst.snd.snd.snd.snd.snd.snd.snd.snd/\aB.fst.snd=aB.fst.snd/\aB.snd.snd.fst.fst=aB.snd.snd.fst.fst/\aB.snd.snd.snd.fst.fst=aB.snd.snd.snd.fst.fst/\aB.snd.fst=aB.snd.fst/\aB.snd.snd.snd.snd=aB.snd.snd.snd.snd/\aB.snd.snd.fst.snd.fst=aB.snd.snd.fst.snd.fst/\aB.snd.snd.fst.snd.snd.fst=aB.snd.snd.fst.snd.snd.fst/\aB.snd.snd.fst.snd.snd.snd.fst=aB.snd.snd.fst.snd.snd.snd.fst/\aB.snd.snd.fst.snd.snd.snd.snd=aB.snd.snd.fst.snd.snd.snd.snd/\aB.snd.snd.snd.fst.snd=aB.snd.snd.snd.fst.snd/\R
theorem v5 (p:ab) (l:List (Int×List Bool×List Int×List Int×List Int×List Int)):ah (aj aA [(12,SA),(23,A1),(24,Sz),(25,Cf),(27,I7),(26,JU),(17,A2),(13,NU),(32,V9)]) Tryz.f5 c5 (a5 (p,l,())) (p,l,())=(
U (bif !(bz p).2 then true else !q8 l) fun(y2:Bool)=>
U ((0:Int),[],[],[],[],[]) fun(y3:Int×List Bool×List Int×List Int×List Int×List Int)=>
U ((0:Int),(0:Int),false,[]) fun(y4:Int×Int×Bool×List Bool)=>
U ((0:Int),(0:Int),(0:Int),[],[],[],[],[],false) fun(y5:af)=>
True/\
((!true)=true->false=true/\True)/\
((!true)=false->True/\
((!(bz p).2)=false->True)/\
(y2=true->true=true/\True)/\
(y2=false->
(bz p).2=true/\
(false=true->false=true/\True)/\
(false=false->
(∃(gG:Nat),gG<=l.length/\
(↑gG:Int)=(0:Int)/\l=l/\
(b8 p l gG).1.1.1=p.1/\
(b8 p l gG).1.1.2.1=p.2.1/\
(b8 p l gG).1.1.2.2.1=p.2.2.1/\
(b8 p l gG).1.1.2.2.2.1=p.2.2.2.1/\
(b8 p l gG).1.1.2.2.2.2.1=p.2.2.2.2.1/\
(b8 p l gG).1.1.2.2.2.2.2.1=p.2.2.2.2.2.1/\
(b8 p l gG).1.1.2.2.2.2.2.2.1=p.2.2.2.2.2.2.1/\
(b8 p l gG).1.1.2.2.2.2.2.2.2.1=p.2.2.2.2.2.2.2.1/\
(b8 p l gG).1.1.2.2.2.2.2.2.2.2=p.2.2.2.2.2.2.2.2/\
(b8 p l gG).1.2=(bz p).1/\
(b8 p l gG).2.2.1.1=max (0:Int) (min (↑p.1.length:Int) (40:Int))/\
(b8 p l gG).2.2.2.1.1=some (nf p)/\
(b8 p l gG).2.1=List.replicate (bz p).1.length gk/\
(b8 p l gG).2.2.2.2=List.replicate p.2.2.1.length (0:Int)/\
(b8 p l gG).2.2.1.2.1=[]/\
(b8 p l gG).2.2.1.2.2.1=[]/\
(b8 p l gG).2.2.1.2.2.2.1=[]/\
(b8 p l gG).2.2.1.2.2.2.2=[]/\
(b8 p l gG).2.2.2.1.2=[]/\ay p (True))/\∀(s6:Nat),U (decide ((↑s6:Int)<(↑l.length:Int))) fun(y7:Bool)=>
U (l.getD (↑s6:Int).toNat y3) fun(y8:Int×List Bool×List Int×List Int×List Int×List Int)=>
U (gq (b8 p l s6) (fe p y8) y8.2.2.2.2.1 y8.2.2.2.2.2) fun(y9:fh×Jp×Int)=>
U ((↑y9.2.1.1.length:Int)+(↑y9.2.1.2.1.length:Int)) fun(bu:Int)=>
U (bu+(↑y9.2.1.2.2.length:Int)) fun(bH:Int)=>
U (bif(↑y9.1.2.1.length:Int) !=(↑(bz p).1.length:Int) then true else(↑y9.2.1.1.length:Int) !=(↑p.2.2.1.length:Int)) fun(aw:Bool)=>
U (b8 p l ((↑s6:Int).toNat+(1:Nat))) fun(aB:fh)=>
U (fe p y8).2.2.1 fun(cL:List Bool)=>
U (fe p y8).2.2.2 fun(bC:List Bool)=>
U (fe p (l.getD (↑s6:Int).toNat yF)).1 fun(cC:List Bool)=>
U (nC (eE p) aB.2.1 (bz p).1.length) fun(cy:List Bool)=>
s6<=l.length->
(y7=true->aL (↑s6:Int) l.length/\yK p/\aL (↑s6:Int) l.length/\aL (↑s6:Int) l.length/\qy (b8 p l s6) (fe p y8) y8.2.2.2.2.1 y8.2.2.2.2.2/\
((y9.2.2 !=(0:Int))=true->bo IntKind.i64 bu/\bo IntKind.i64 bH/\
(decide (bH>(0:Int))=true->false=true/\True)/\
(decide (bH>(0:Int))=false->bo IntKind.i64 ((↑s6:Int)+(1:Int))/\∃(db:Nat),db<=l.length/\l.length - db<l.length - s6/\
(↑db:Int)=(↑s6:Int)+(1:Int)/\l=l/\
(b8 p l db).1.1.1=y9.1.1.1.1/\
(b8 p l db).1.1.2.1=y9.1.1.1.2.1/\
(b8 p l db).1.1.2.2.1=y9.1.1.1.2.2.1/\
(b8 p l db).1.1.2.2.2.1=y9.1.1.1.2.2.2.1/\
(b8 p l db).1.1.2.2.2.2.1=y9.1.1.1.2.2.2.2.1/\
(b8 p l db).1.1.2.2.2.2.2.1=y9.1.1.1.2.2.2.2.2.1/\
(b8 p l db).1.1.2.2.2.2.2.2.1=y9.1.1.1.2.2.2.2.2.2.1/\
(b8 p l db).1.1.2.2.2.2.2.2.2.1=y9.1.1.1.2.2.2.2.2.2.2.1/\
(b8 p l db).1.1.2.2.2.2.2.2.2.2=y9.1.1.1.2.2.2.2.2.2.2.2/\
(b8 p l db).1.2=y9.1.1.2/\
(b8 p l db).2.2.1.1=y9.1.2.2.1.1/\
(b8 p l db).2.2.2.1.1=y9.1.2.2.2.1.1/\
(b8 p l db).2.1=y9.1.2.1/\
(b8 p l db).2.2.2.2=y9.1.2.2.2.2/\
(b8 p l db).2.2.1.2.1=y9.1.2.2.1.2.1/\
(b8 p l db).2.2.1.2.2.1=y9.1.2.2.1.2.2.1/\
(b8 p l db).2.2.1.2.2.2.1=y9.1.2.2.1.2.2.2.1/\
(b8 p l db).2.2.1.2.2.2.2=y9.1.2.2.1.2.2.2.2/\
(b8 p l db).2.2.2.1.2=y9.1.2.2.2.1.2/\ay p (True)))/\
((y9.2.2 !=(0:Int))=false->kW y9.1/\True/\
(aw=true->false=true/\True)/\
(aw=false->
((0:Int)<=(↑p.2.2.1.length:Int)/\
(↑p.2.2.1.length:Int)<=(↑p.2.2.1.length:Int))/\
(roomFor (↑p.2.2.1.length:Int).toNat (1:Nat)/\
(↑p.2.2.1.length:Int)<=(↑aM:Int))/\
(∃(yh:Nat),yh<=(bz p).1.length/\
(↑yh:Int)=(0:Int)/\T5 l s6 p (nC (eE p) aB.2.1 yh=List.replicate (↑p.2.2.1.length:Int).toNat false/\aB.2.1=y9.1.2.1/\aB.1.1.1=y9.1.1.1.1/\aB.1.1.2.1=y9.1.1.1.2.1/\aB.1.1.2.2.1=y9.1.1.1.2.2.1/\aB.1.1.2.2.2.1=y9.1.1.1.2.2.2.1/\aB.1.1.2.2.2.2.1=y9.1.1.1.2.2.2.2.1/\aB.1.1.2.2.2.2.2.1=y9.1.1.1.2.2.2.2.2.1/\aB.1.1.2.2.2.2.2.2.1=y9.1.1.1.2.2.2.2.2.2.1/\aB.1.1.2.2.2.2.2.2.2.1=y9.1.1.1.2.2.2.2.2.2.2.1/\aB.1.1.2.2.2.2.2.2.2.2=y9.1.1.1.2.2.2.2.2.2.2.2/\aB.1.2=y9.1.1.2/\aB.2.2.1.1=y9.1.2.2.1.1/\aB.2.2.2.1.1=y9.1.2.2.2.1.1/\aB.2.1=y9.1.2.1/\aB.2.2.2.2=y9.1.2.2.2.2/\aB.2.2.1.2.1=y9.1.2.2.1.2.1/\aB.2.2.1.2.2.1=y9.1.2.2.1.2.2.1/\aB.2.2.1.2.2.2.1=y9.1.2.2.1.2.2.2.1/\aB.2.2.1.2.2.2.2=y9.1.2.2.1.2.2.2.2/\aB.2.2.2.1.2=y9.1.2.2.2.1.2/\ay p (y9.2.1.1=y9.2.1.1/\Me y9 p y8 cL bC (True))))/\∀(fA:Nat),U (decide ((↑fA:Int)<(↑(bz p).1.length:Int))) fun(fw:Bool)=>
U (aB.2.1.getD (↑fA:Int).toNat y4) fun(du:Int×Int×Bool×List Bool)=>
U (nC (eE p) aB.2.1 fA) fun(eL:List Bool)=>
U ((bz p).1.getD (↑fA:Int).toNat y5) fun(dt:af)=>
U (nC (eE p) aB.2.1 ((↑fA:Int).toNat+(1:Nat))) fun(eC:List Bool)=>
fA<=(bz p).1.length->
(fw=true->aL (↑fA:Int) aB.2.1.length/\
((du.1 !=(2:Int))=true->bo IntKind.i64 ((↑fA:Int)+(1:Int))/\∃(S8:Nat),S8<=(bz p).1.length/\
(bz p).1.length - S8<(bz p).1.length - fA/\
(↑S8:Int)=(↑fA:Int)+(1:Int)/\T5 l s6 p (nC (eE p) aB.2.1 S8=eL/\T4 aB (ay p (y9.2.1.1=y9.2.1.1/\Me y9 p y8 cL bC (True)))))/\
((du.1 !=(2:Int))=false->aL (↑fA:Int) (bz p).1.length/\aL dt.1 eL.length/\roomFor ((List.replicate (0:Nat) false).length+(fe p y8).1.length) (1:Nat)/\
(∃(Ke:Nat),Ke<=p.1.length/\
(↑Ke:Int)=(0:Int)/\Zs l s6 p fA (gC p cC Ke=List.replicate (0:Nat) false++(fe p y8).1/\eC=eL.set dt.1.toNat true/\T4 aB (ay p (y9.2.1.1=y9.2.1.1/\Me y9 p y8 cL bC (True)))))/\∀(rJ:Nat),U (decide ((↑rJ:Int)<(↑(gC p cC rJ).length:Int))) fun(iY:Bool)=>
U ((gC p cC rJ).getD (↑rJ:Int).toNat false) fun(jQ:Bool)=>
U (!tC dt (fe p y8).2.1 (gC p cC rJ)) fun(lF:Bool)=>
U (bif lF then true else du.2.2.1) fun(wv:Bool)=>
rJ<=p.1.length->
(iY=true->aL (↑rJ:Int) (gC p cC rJ).length/\
(jQ=true->aL (↑rJ:Int) p.1.length)/\aL (↑rJ:Int) (gC p cC rJ).length/\bo IntKind.i64 ((↑rJ:Int)+(1:Int))/\∃(vr:Nat),vr<=p.1.length/\p.1.length - vr<p.1.length - rJ/\
(↑vr:Int)=(↑rJ:Int)+(1:Int)/\Zs l s6 p fA (gC p cC vr=(gC p cC rJ).set (↑rJ:Int).toNat (bif jQ then(p.1.getD (↑rJ:Int).toNat ([],(0:Int),(0:Int))).2.1 !=(4:Int) else false)/\abZ eC aB (ay p (y9.2.1.1=y9.2.1.1/\Me y9 p y8 cL bC (True)))))/\
(iY=false->aL (↑fA:Int) (bz p).1.length/\rL dt/\
(lF=false->aL (↑fA:Int) aB.2.1.length)/\
(wv=true->false=true/\True)/\
(wv=false->bo IntKind.i64 ((↑fA:Int)+(1:Int))/\∃(vr:Nat),vr<=(bz p).1.length/\
(bz p).1.length - vr<(bz p).1.length - fA/\
(↑vr:Int)=(↑fA:Int)+(1:Int)/\T5 l s6 p (nC (eE p) aB.2.1 vr=eC/\T4 aB (ay p (y9.2.1.1=y9.2.1.1/\Me y9 p y8 cL bC (True))))))))/\
(fw=false->
(∃(Ke:Nat),Ke<=p.2.2.1.length/\
(↑Ke:Int)=(0:Int)/\l=l/\
(↑s6:Int)=(↑s6:Int)/\cy=eL/\abY aB (ay p (y9.2.1.1=y9.2.1.1/\y9.2.1.2.1=y9.2.1.2.1/\y9.2.1.2.2=y9.2.1.2.2/\True)))/\∀(rJ:Nat),U (decide ((↑rJ:Int)<(↑cy.length:Int))) fun(iY:Bool)=>
U (!(y9.2.1.1.getD (↑rJ:Int).toNat (0:Int) !=(0:Int))==cy.getD (↑rJ:Int).toNat false) fun(jQ:Bool)=>
rJ<=p.2.2.1.length->
(iY=true->aL (↑rJ:Int) y9.2.1.1.length/\aL (↑rJ:Int) cy.length/\
(jQ=true->false=true/\True)/\
(jQ=false->bo IntKind.i64 ((↑rJ:Int)+(1:Int))/\∃(jH:Nat),jH<=p.2.2.1.length/\p.2.2.1.length - jH<p.2.2.1.length - rJ/\
(↑jH:Int)=(↑rJ:Int)+(1:Int)/\abX l s6 cy aB (ay p (y9.2.1.1=y9.2.1.1/\y9.2.1.2.1=y9.2.1.2.1/\y9.2.1.2.2=y9.2.1.2.2/\True))))/\
(iY=false->bo IntKind.i64 ((↑s6:Int)+(1:Int))/\∃(jH:Nat),jH<=l.length/\l.length - jH<l.length - s6/\
(↑jH:Int)=(↑s6:Int)+(1:Int)/\l=l/\
(b8 p l jH).1.1.1=aB.1.1.1/\
(b8 p l jH).1.1.2.1=aB.1.1.2.1/\
(b8 p l jH).1.1.2.2.1=aB.1.1.2.2.1/\
(b8 p l jH).1.1.2.2.2.1=aB.1.1.2.2.2.1/\
(b8 p l jH).1.1.2.2.2.2.1=aB.1.1.2.2.2.2.1/\
(b8 p l jH).1.1.2.2.2.2.2.1=aB.1.1.2.2.2.2.2.1/\
(b8 p l jH).1.1.2.2.2.2.2.2.1=aB.1.1.2.2.2.2.2.2.1/\
(b8 p l jH).1.1.2.2.2.2.2.2.2.1=aB.1.1.2.2.2.2.2.2.2.1/\
(b8 p l jH).1.1.2.2.2.2.2.2.2.2=aB.1.1.2.2.2.2.2.2.2.2/\
(b8 p l jH).1.2=aB.1.2/\
(b8 p l jH).2.2.1.1=aB.2.2.1.1/\
(b8 p l jH).2.2.2.1.1=aB.2.2.2.1.1/\
(b8 p l jH).2.1=aB.2.1/\
(b8 p l jH).2.2.2.2=aB.2.2.2.2/\
(b8 p l jH).2.2.1.2.1=aB.2.2.1.2.1/\
(b8 p l jH).2.2.1.2.2.1=aB.2.2.1.2.2.1/\
(b8 p l jH).2.2.1.2.2.2.1=aB.2.2.1.2.2.2.1/\
(b8 p l jH).2.2.1.2.2.2.2=aB.2.2.1.2.2.2.2/\
(b8 p l jH).2.2.2.1.2=aB.2.2.2.1.2/\ay p (True))))))/\
(y7=false->true=true/\True))))):=by kernel_rfl
theorem b5 (p:ab) (l:List oz):ah (aj aA [(12,SA),(23,A1),(24,Sz),(25,Cf),(27,I7),(26,JU),(17,A2),(13,NU),(32,V9)]) Tryz.f5 c5 (a5 (p,l,())) (p,l,()):=by
 rw[v5]
 simp only[dp,T5,Me,T4,Zs,abZ,abY,abX,true_and,and_true,eq_self,Bool.not_true,Bool.false_eq_true,false_implies,true_implies,implies_true]
 refine U.mk fun y2 e2=>U.mk fun y3 e3=>U.mk fun y4 e4=>U.mk fun y5 e5=>fun h=> ?_
 obtain⟨hR,hF⟩:=Y1 e2 h
 have hr:=wH hR
 have hfl:=(P1 hF).1
 have hlen:=hr.len
 have X8:=F7 hr
 have iT:=oI hr.check
 refine⟨hR,⟨0,Nat.zero_le _,rfl,rfl,rfl,rfl,rfl,rfl,rfl,rfl,rfl,rfl,rfl,rfl,rfl,rfl,rfl,rfl,rfl,rfl,rfl,rfl⟩,?_⟩
 intro s
 refine U.mk fun y7 e7=>U.mk fun y8 e8=>U.mk fun y9 e9=>U.mk fun bu dy=>U.mk fun bH eK=>U.mk fun aw dW=>U.mk fun aB gE=>U.mk fun cL j5=>U.mk fun bC iJ=>U.mk fun cC k7=>U.mk fun cy jF=>fun hs h=> ?_
 have h:=of_decide_eq_true (e7.symm.trans h)
 have dQ:s<l.length:=by omega
 rw[Int.toNat_natCast] at *
 have h8:y8=l.getD s yF:=by rw[e8,e3];rfl
 have kP:aB=y9.1:=by rw[gE,e9,h8];rfl
 have hI:=CD hR l (s+1)
 rw[<-gE] at hI
 have hch:aB.1=eE p:=by rw[gE];exact BD p l _
 have hil:aB.2.1.length=(bz p).1.length:=by rw[hI.inv.len,hch];rfl
 have hW0:(b8 p l s).1=eE p:=BD p l s
 refine⟨⟨by omega,by omega⟩,Ux hr,⟨by omega,by omega⟩,⟨by omega,by omega⟩,by rw[h8];exact UA hR hF s dQ (CD hR l s) _,fun h=> ?_,fun h=> ?_⟩
 ·rcases J5 (W:=b8 p l s) (inn:=fe p y8) (calls:=y8.2.2.2.2.1) (cancels:=y8.2.2.2.2.2) with ⟨h0,_⟩|h1
  ·rw[e9,h0] at h;cases h
  rw[<-e9] at h1
  have lp:bu=0:=by rw[dy,h1];rfl
  have mG:bH=0:=by rw[eK,lp,h1];rfl
  rw[lp,mG]
  refine⟨aY (by omega) (by omega),aY (by omega) (by omega),fun h=>(by cases h),fun _=>⟨aY (by omega) (by omega),s+1,by omega,by omega,by omega,?_⟩⟩
  rw[<-gE,kP]
  simp only[eq_self,and_true]
 rcases J5 (W:=b8 p l s) (inn:=fe p y8) (calls:=y8.2.2.2.2.1) (cancels:=y8.2.2.2.2.2) with ⟨h0,PA⟩|h1
 rotate_left
 ·rw[e9,h1] at h;cases h
 have Yg:=UB (calls:=y8.2.2.2.2.1) (cancels:=y8.2.2.2.2.2) PA
 have zw:=fun i=>Uz (CD hR l s) (calls:=y8.2.2.2.2.1) (cancels:=y8.2.2.2.2.2) PA i
 rw[<-e9,hW0,<-kP] at Yg
 rw[hW0] at PA
 have PA:=QU PA
 have ai5:y9.2.1.1.length=p.2.2.1.length:=by rw[Yg];exact x9 _ _
 have nX:aw=false:=by rw[dW,<-kP,hil,ai5];simp
 rw[<-kP]
 have FV:aM=9223372036854775807:=rfl
 have hg2:∀k:Nat,k<(bz p).1.length->xb p (aD (eE p) (k:Int)):=fun k hk=>X8.rz _ (kX (c:=eE p) (o:=(k:Int)) ⟨by omega,by show(k:Int)<((bz p).1.length:Int);omega⟩)
 have rR:cC=(fe p y8).1:=by rw[k7,h8]
 have aji:cC.length=p.1.length:=by rw[rR];exact PA.1
 refine⟨hI,fun h=>(by rw[nX] at h;cases h),fun _=>⟨⟨by omega,by omega⟩,⟨cT (by omega) (by decide),by omega⟩,⟨0,Nat.zero_le _,rfl,rfl,?_⟩,?_⟩⟩
 ·simp only[eq_self,and_true]
 intro k
 refine U.mk fun fw mH=>U.mk fun du og=>U.mk fun eL rr=>U.mk fun dt q9=>U.mk fun eC wh=>fun hk=>⟨fun h=> ?_,fun h=> ?_⟩
 ·have h:=of_decide_eq_true (mH.symm.trans h)
  have R3:k<(bz p).1.length:=by omega
  rw[Int.toNat_natCast] at *
  have og:du=aB.2.1.getD k gk:=by rw[og,e4];rfl
  have q9:dt=aD (eE p) (k:Int):=by rw[q9,e5];rfl
  have hg:=hg2 k R3
  rw[<-q9] at hg
  have hsg:=hg.sig
  have PR:eL.length=p.2.2.1.length:=by rw[rr];exact xv _ _ _
  have zt:eC=bif du.1==2 then eL.set dt.1.toNat true else eL:=by rw[wh,og,rr,q9];rfl
  refine⟨⟨by omega,by omega⟩,fun h2=>⟨aY (by omega) (by omega),k+1,by omega,by omega,by omega,?_⟩,fun h2=> ?_⟩
  ·rw[<-wh,zt]
   have:(du.1==2)=false:=by have h2:(!(du.1==2))=true:=h2;simpa using h2
   rw[this,cond_false]
  have h2b:(du.1==2)=true:=by have h2:(!(du.1==2))=false:=h2;simpa using h2
  have KD:eC=eL.set dt.1.toNat true:=by rw[zt,h2b,cond_true]
  have hS:=zw k
  rw[<-e9,<-kP,hW0,<-og,<-q9] at hS
  obtain⟨s1,s2,s3⟩:=hS (eq_of_beq h2b)
  have H6:=J4 p (fe p y8)
  have hoc:=PA.1
  have hoc:(fe p y8).1.length=p.1.length:=hoc
  refine⟨⟨by omega,by omega⟩,⟨by omega,by omega⟩,cT (by show 0+(fe p y8).1.length<=_;omega) (by decide),⟨0,Nat.zero_le _,rfl,by rw[rR];rfl,KD⟩,fun j=>U.mk fun iY w5=>U.mk fun jQ x5=>U.mk fun lF EO=>U.mk fun wv Sq=>fun hj=> ?_⟩
  have htu:(gC p cC j).length=p.1.length:=by rw[Ff _ _ (by omega)];exact aji
  refine⟨fun h=> ?_,fun h=> ?_⟩
  ·have h:=of_decide_eq_true (w5.symm.trans h)
   have hj1:j<cC.length:=by omega
   rw[Int.toNat_natCast] at *
   refine⟨⟨by omega,by omega⟩,fun _=>⟨by omega,by omega⟩,⟨by omega,by omega⟩,aY (by omega) (by omega),j+1,by omega,by omega,by omega,?_⟩
   rw[Cy _ _ hj1]
   have x5:jQ=cC.getD j false:=by rw[x5];exact Ha _ _ hj1
   rw[x5]
   unfold CL
   have key:∀a b:Bool,(a&& !b)=bif a then !b else false:=by decide
   rw[key]
   rfl
  ·have h:=of_decide_eq_false (w5.symm.trans h)
   have hj2:j=cC.length:=by omega
   have hT:(gC p cC j)=(ie p (fe p y8)).1:=by rw[hj2,rR];unfold ie;rfl
   have hrd:tC dt (fe p y8).2.1 (gC p cC j)=true:=by
    rw[hT,<-H6.2]
    exact UJ hg (by rw[H6.2];exact PA.2.1) s2 s3
   have h27:lF=false:=by rw[EO,hrd];rfl
   have h28:wv=false:=by rw[Sq,h27,cond_false];exact s1
   refine⟨⟨by omega,by omega⟩,⟨⟨by have:=hg.len;omega,hg.small.1,hg.small.2⟩,by have:=hg.yE;show _<=1000;omega⟩,fun _=>⟨by omega,by omega⟩,fun h=>(by rw[h28] at h;cases h),fun _=>⟨aY (by omega) (by omega),k+1,by omega,by omega,by omega,wh.symm⟩⟩
 ·have h:=of_decide_eq_false (mH.symm.trans h)
  have X4:k=(bz p).1.length:=by omega
  have h17:cy=eL:=by rw[jF,rr,X4]
  have aoc:cy.length=p.2.2.1.length:=by rw[jF];exact xv _ _ _
  refine⟨⟨0,Nat.zero_le _,rfl,h17⟩,fun t=>U.mk fun iY w5=>U.mk fun jQ x5=>fun ht=>⟨fun h=> ?_,fun h=> ?_⟩⟩
  ·have h:=of_decide_eq_true (w5.symm.trans h)
   have ht1:t<p.2.2.1.length:=by omega
   rw[Int.toNat_natCast] at *
   have hai:=Qr X8 (ls:=aB.2.1) hil (s:=t) ht1
   have h26:jQ=false:=by
    rw[x5,Yg]
    have:((fW (eE p) aB.2.1).getD t 0 !=0)=cy.getD t false:=by rw[jF];exact hai
    rw[this]
    simp
   exact⟨⟨by omega,by omega⟩,⟨by omega,by omega⟩,fun h=>(by rw[h26] at h;cases h),fun _=>⟨aY (by omega) (by omega),t+1,by omega,by omega,by omega⟩⟩
  ·refine⟨aY (by omega) (by omega),s+1,by omega,by omega,by omega,?_⟩
   rw[<-gE]
   simp only[eq_self,and_true]
theorem ok5:aN Tryz.prog 5 c5:=
 aN.b3 (l:=[(12,SA),(23,A1),(24,Sz),(25,Cf),(27,I7),(26,JU),(17,A2),(13,NU),(32,V9)]) (A:=a5) aJ ⟨ahV,ahT,ahS,abv,ahR,abu,abw,Xf,ahP,trivial⟩ Tryz.func5 (by kernel_rfl) (by kernel_rfl) fun x hw hp=>b5 x.1 x.2.1
end YtjnappfomhkeeaaGreat
end Go.Proofs
end

section
set_option maxRecDepth 100000
set_option linter.unusedVariables false
namespace Go.Proofs.YtjnappfomhkeeaaGreat
open Go Go.Vc
open Go.ChangeShapes Go.WideShapes Go.ChangeAt Go.RowKit
open Go.ChangeMaps (open_string shut_string)
theorem own:ownKnob Tryz.prog.godebug=none:=by kernel_rfl
theorem laidOut:laidOutB Tryz.prog=true:=by kernel_rfl
theorem law_calls {P:Program} {f:Nat} {ts:List Ty} (h:aN P f (MY ts)) {W:World} {x:kC ts} {vs:List Value} (hv:lv (sW W) ts x vs):
  Calls P f vs.toArray W fun e w'=>e= .returned (.bool true)/\Below W.heap.size W w':=by
 refine(h.calls (sW W) W x vs (fun b o h=>h) hv trivial).mono fun e w'=> ?_
 rintro⟨v,F',rfl,_,_,_,hk,vH⟩
 have vH:[v]=[Value.bool true]:=vH
 simp only[List.cons.injEq,and_true] at vH
 exact⟨by rw[vH],⟨hk.os,hk.tape,hk.output,hk.size,fun k vk=>hk.block k vk (fun h=>h)⟩⟩
end Go.Proofs.YtjnappfomhkeeaaGreat
end
