/-
  Contracts of what the program asks of a net, of its search for roads, of the ports at a road's sides and of its search for a flank; Contracts of the program's l.
-/
import Derived.Test.YtjnappfomhkeeaaGreatM4

section
set_option maxRecDepth 100000
set_option linter.unusedVariables false
set_option linter.unusedSimpArgs false
set_option maxHeartbeats 16000000
namespace Go.Proofs
open Go Go.Vc
namespace YtjnappfomhkeeaaGreat
@[irreducible] def fo (n:bk) (x:ak):ak×Bool:=((aW aO n.2.1 x).getD (0,0),(aW aO n.2.1 x).isSome)
@[irreducible] def kQ (n:bk) (x:ak):Int:=bif(aW aO n.2.2.1 x).isSome then(aW aO n.2.2.1 x).getD 0 else -1
@[irreducible] def B5 (n:bk) (e:Int):mA:=bif decide (e<0)||decide ((n.1.1.length:Int)<=e) then([],0,0) else n.1.1.getD e.toNat ([],0,0)
def va:bg where
 args:=[.ref jx,aO]
 out:= .data [aO,.bool]
 pre:=fun(x:bk×ak×Unit)=>True
 fn:=fun(x:bk×ak×Unit)=>((fo x.1 x.2.1).1,(fo x.1 x.2.1).2,())
def DG:bg where
 args:=[.ref jx,aO]
 out:= .data [I]
 pre:=fun(x:bk×ak×Unit)=>True
 fn:=fun(x:bk×ak×Unit)=>(kQ x.1 x.2.1,())
def Le:bg where
 args:=[.ref jx,I]
 out:= .data [Cn]
 pre:=fun(x:bk×Int×Unit)=>True
 fn:=fun(x:bk×Int×Unit)=>(B5 x.1 x.2.1,())
def u9:bg where
 args:=[.ref jx,I]
 out:= .data [I]
 pre:=fun(x:bk×Int×Unit)=>True
 fn:=fun(x:bk×Int×Unit)=>(aK x.1.1 x.2.1,())
def DC:bg where
 args:=[.ref jx,I,I]
 out:= .data [.list Gg]
 pre:=fun(x:bk×Int×Int×Unit)=>True
 fn:=fun(x:bk×Int×Int×Unit)=>(bG x.1.1 x.2.1 x.2.2.1,())
def Lc:bg where
 args:=[.ref jx,I,I,I]
 out:= .data [I,.bool]
 pre:=fun(x:bk×Int×Int×Int×Unit)=>True
 fn:=fun(x:bk×Int×Int×Int×Unit)=>((cx x.1.1 x.2.1 x.2.2.1 x.2.2.2.1).1,(cx x.1.1 x.2.1 x.2.2.1 x.2.2.2.1).2,())
def Zb (x:bk×Int×Int×Int×Unit):eA:=bh [(2,fun _=>dH (bG x.1.1 x.2.1 x.2.2.1).length (kM (jm x.2.2.2.1) (bG x.1.1 x.2.1 x.2.2.1)) 17 [3,15,16] [])]
def LP:bg where
 args:=[.ref jx,I,I,I]
 out:= .data [I,.bool]
 pre:=fun(x:bk×Int×Int×Int×Unit)=>True
 fn:=fun(x:bk×Int×Int×Int×Unit)=>((cx x.1.1 x.2.1 x.2.2.1 x.2.2.2.1).1,(cx x.1.1 x.2.1 x.2.2.1 x.2.2.2.1).2,())
def c54:bg where
 args:=[.ref jx]
 out:= .data [I]
 pre:=fun(x:bk×Unit)=>True
 fn:=fun(x:bk×Unit)=>((x.1.1.2.2.1.length:Int),())
def VS:bg where
 args:=[.ref jx]
 out:= .data [PlanT]
 pre:=fun(x:bk×Unit)=>kK x.1.1
 fn:=fun(x:bk×Unit)=>(x.1.1,())
abbrev Ub:Ty:= .lN 250 (.pair (.ref I) .unit)
abbrev Uc:Ty:= .lN 220 (.pair (.ref I) .unit)
def I8:bg where
 args:=[kD,.ref I]
 out:= .data [.bool]
 pre:=fun(x:cu×Int×Unit)=>True
 fn:=fun(x:cu×Int×Unit)=>(x.1.1==x.2.1,())
def Lf:bg:=I8
def eG (e:Int) (s:cu):Bool:=s.1==e
def tV:bg where
 args:=[.list kD,Ub]
 out:= .data [I]
 pre:=fun(x:List cu×(Int×Unit)×Unit)=>x.1.length<=1000
 fn:=fun(x:List cu×(Int×Unit)×Unit)=>(fp (eG x.2.1.1) x.1,())
def EW (x:List cu×(Int×Unit)×Unit):eA:=bh [(2,fun _=>tU (eG x.2.1.1) x.1 8 [0,1,7])]
def tW:bg where
 args:=[.list kD,Ub]
 out:= .data [.bool]
 pre:=fun(x:List cu×(Int×Unit)×Unit)=>x.1.length<=1000
 fn:=fun(x:List cu×(Int×Unit)×Unit)=>(x.1.any (eG x.2.1.1),())
def tX:bg where
 args:=[.list kD,Uc]
 out:= .data [I]
 pre:=fun(x:List cu×(Int×Unit)×Unit)=>x.1.length<=1000
 fn:=fun(x:List cu×(Int×Unit)×Unit)=>(fp (eG x.2.1.1) x.1,())
def EX (x:List cu×(Int×Unit)×Unit):eA:=bh [(2,fun _=>tU (eG x.2.1.1) x.1 8 [0,1,7])]
def tY:bg where
 args:=[.list kD,Uc]
 out:= .data [.bool]
 pre:=fun(x:List cu×(Int×Unit)×Unit)=>x.1.length<=1000
 fn:=fun(x:List cu×(Int×Unit)×Unit)=>(x.1.any (eG x.2.1.1),())
def LS:bg where
 args:=[eH,I]
 out:= .data [.bool]
 pre:=fun(x:af×Int×Unit)=>x.1.2.2.2.1.length<=1000
 fn:=fun(x:af×Int×Unit)=>(kI x.1 x.2.1,())
def DH:bg where
 args:=[.list kD]
 out:= .row 76 kD
 pre:=fun(x:List cu×Unit)=>cR x.1
 fn:=fun(x:List cu×Unit)=>(x.1,())
abbrev afy:Ty:= .pair I (.pair (.list kD) (.pair (.list I) (.list (.list Gg))))
abbrev kE:=Int×List cu×List Int×List (List (Int×Int))
abbrev SM:eU:= .cells true (.pair (.aG I) (.pair (.row 76 kD) (.pair (.row 3 I) (.row 289 (.list Gg)))))
@[irreducible] def KS (p:kE) (e:Int):Bool:=decide (p.2.1.length<12)&&(!(e==p.1)&& !p.2.1.any (eG e))
def Lj:bg where
 args:=[.ref afy,I]
 out:= .data [.bool]
 pre:=fun(x:kE×Int×Unit)=>x.1.2.1.length<=1000
 fn:=fun(x:kE×Int×Unit)=>(KS x.1 x.2.1,())
def mW (p:kE) (i:Nat):List ba:=bif p.2.2.1.getD i 0 !=0 then[((p.2.1.getD i iC).1,p.2.2.1.getD i 0)] else[]
def fU (p:kE):Nat->List ba
 |0=>[]
 |k+1=>fU p k++mW p k
@[irreducible] def iO (p:kE) (s to stop:Int):af:=(s,to,stop,p.2.1,fU p p.2.1.length,[],[],[],false)
def kd (p:kE):Prop:=p.2.1.length<=1000/\p.2.2.1.length=p.2.1.length/\p.2.2.2.length=p.2.1.length
def Lh:fG where
 args:=[SM,.aG I,.aG I,.aG I]
 outs:=[.aG eH]
 pre:=fun(x:kE×Int×Int×Int×Unit)=>kd x.1
 fn:=fun(x:kE×Int×Int×Int×Unit)=>(iO x.1 x.2.1 x.2.2.1 x.2.2.2.1,())
 fS:=fun(x:kE×Int×Int×Int×Unit)=>x
def Zc (x:kE×Int×Int×Int×Unit):eA:=bh [(3,fun _=>{
 σ:=Nat
 ok:=fun k=>k<=x.1.2.1.length
 mu:=fun k=>x.1.2.1.length - k
 sl:=fun k=>[(26,.one (.aG I (k:Int)))]
 bl:=fun k=>[(9,.cells [.aG I x.2.1,.aG I x.2.2.1,.aG I x.2.2.2.1,.row kD 1001,.row eB 1000,.kq,.kq,.kq,.aG .bool false]),
  (1001,.row false 76 kD x.1.2.1),(1000,.row false 90 eB (fU x.1 k))]
 keep:=[0,8,9,24,25]
 cv:=[8,1000000,1000001,1000002,1000003]})]
@[irreducible] def zQ (p:kE) (n:bk) (x:ak):kE:=(p.1,p.2.1++[(x.1,x.2, -1)],p.2.2.1++[0],p.2.2.2++[bG n.1 x.1 x.2])
def Li:fG where
 args:=[SM,.aG (.ref jx),.aG aO]
 outs:=[]
 pre:=fun(x:kE×bk×ak×Unit)=>kd x.1
 fn:=fun(x:kE×bk×ak×Unit)=>()
 fS:=fun(x:kE×bk×ak×Unit)=>(zQ x.1 x.2.1 x.2.2.1,x.2)
@[irreducible] def ou (p:kE):kE:=(p.1,p.2.1.take (p.2.1.length - 1),p.2.2.1.take (p.2.1.length - 1),p.2.2.2.take (p.2.1.length - 1))
def Lg:fG where
 args:=[SM]
 outs:=[]
 pre:=fun(x:kE×Unit)=>kd x.1/\0<x.1.2.1.length
 fn:=fun(x:kE×Unit)=>()
 fS:=fun(x:kE×Unit)=>(ou x.1,x.2)
abbrev SL:Ty:= .pair (.list .bool) (.pair .bool (.pair .bool (.pair .bool (.pair .bool (.pair .bool .bool)))))
abbrev kS:=List Bool×Bool×Bool×Bool×Bool×Bool×Bool
def aa8 (S:St) (b i:Nat) (c:C):c7:=
 match find S.bl b with
 |some (.cells cs)=> .cells (cs.set i c)
 |_=> .cells []
def I4:bg where
 args:=[.list .bool]
 out:= .row 4 .bool
 pre:=fun(x:List Bool×Unit)=>cR x.1
 fn:=fun(x:List Bool×Unit)=>(x.1,())
def C6 (v y:Bool):Bool:=y==v
def TM:bg where
 args:=[.list .bool,.bool]
 out:= .data [I]
 pre:=fun(x:List Bool×Bool×Unit)=>cR x.1
 fn:=fun(x:List Bool×Bool×Unit)=>(fp (C6 x.2.1) x.1,())
def abT (x:List Bool×Bool×Unit):eA:=bh [(2,fun _=>tU (C6 x.2.1) x.1 8 [0,1,7])]
def TO:bg where
 args:=[.list .bool,.bool]
 out:= .data [.bool]
 pre:=fun(x:List Bool×Bool×Unit)=>cR x.1
 fn:=fun(x:List Bool×Bool×Unit)=>(x.1.any (C6 x.2.1),())
def gr (a b:Int):List Int:=(List.range (b - a).toNat).map fun(k:Nat)=>a+(k:Int)
def Qm:bg where
 args:=[I,I]
 out:= .row 3 I
 pre:=fun(x:Int×Int×Unit)=>0<=x.1/\x.2.1<=1000
 fn:=fun(x:Int×Int×Unit)=>(gr x.1 x.2.1,())
def a116 (x:Int×Int×Unit):eA:=bh [(3,fun _=>{
 σ:=Nat
 ok:=fun k=>x.1+k<=x.2.1\/k=0
 mu:=fun k=>(x.2.1 - x.1).toNat - k
 sl:=fun k=>[(6,.one (.aG I (x.1+k:Int))),(5,.one (.row I 1000))]
 bl:=fun k=>[(1000,.row false 3 I (gr x.1 (x.1+k)))]
 keep:=[1]
 cv:=[]})]
@[irreducible] def we (iL:List Bool) (v:kS):Bool:= !iL.any (C6 true)&&(!v.2.2.2.2.1||v.2.2.2.2.2.1)
def Qn:bg where
 args:=[.list .bool,SL]
 out:= .data [.bool]
 pre:=fun(x:List Bool×kS×Unit)=>cR x.1
 fn:=fun(x:List Bool×kS×Unit)=>(we x.1 x.2.1,())
def mg (v:kS):List Bool:=bif v.2.1 then v.1.set (v.1.length - 1) false else v.1
def lr (seen iL:List Bool) (k:Nat):List Bool:=List.zipWith (fun a b=>a||b) (seen.take k) (iL.take k)++seen.drop k
def ng (seen iL:List Bool) (gate:Bool) (last:Nat):Nat->Nat->Nat
 |0,f=>f
 |k+1,f=>if seen.getD f false&&(!iL.getD f false&&(iL.getD (f+1) false||gate&&f+1==last)) then ng seen iL gate last k (f+1) else f
def tc (l:cI) (v:kS):Prop:=l.1<0\/l.1>3\/v.1.length=0\/l.2.2.2.length≠v.1.length\/l.2.1<0\/l.2.1>=v.1.length
instance (l:cI) (v:kS):Decidable (tc l v):=by unfold tc;infer_instance
def xG (st:Int) (fr:Nat) (off:Bool) (seen o:List Bool) (n:Nat) (v:kS):cI×List Int:=
 if st≠3/\o.getD 0 false=false then
  if off=true/\we (o.drop fr) v=true then(gk,gr fr n)
  else if off=false/\v.2.2.1=true/\v.2.2.2.1=true then((2,fr,off,seen),[])
  else((1,fr,off,seen),[])
 else
  let f:=ng seen o v.2.1 (n - 1) (n - 1 - fr) fr
  if(f=n - 1/\(v.2.1=true\/o.getD (n - 1) false=true))\/(off=true/\we (o.drop f) v=true) then(gk,gr fr n)
  else((3,f,off,seen),gr fr f)
@[irreducible] def dc (l:cI) (v:kS):cI×List Int:=
 if l.1=0 then(l,[]) else
 if tc l v then(gk,[]) else xG l.1 l.2.1.toNat (l.2.2.1||v.2.2.2.2.2.2) (lr l.2.2.2 (mg v) v.1.length) (mg v) v.1.length v
def V1:bg where
 args:=[kT,SL]
 out:= .data [kT,.list I]
 pre:=fun(x:cI×kS×Unit)=>cR x.1.2.2.2/\cR x.2.1.1
 fn:=fun(x:cI×kS×Unit)=>((dc x.1 x.2.1).1,(dc x.1 x.2.1).2,())
def a66 (x:cI×kS×Unit):eA:=bh [
 (13,fun S=>{
  σ:=Nat
  ok:=fun k=>k<=x.2.1.1.length
  mu:=fun k=>x.2.1.1.length - k
  sl:=fun k=>[(74,.one (.aG I (k:Int)))]
  bl:=fun k=>[(14,.row false 4 .bool (lr x.1.2.2.2 (mg x.2.1) k))]
  keep:=[2,3,4,5,6,7,8,73]
  cv:=[2,3,4,56]}),
 (27,fun S=>{
  σ:=Nat
  ok:=fun f=>x.1.2.1.toNat<=f/\f<=x.2.1.1.length - 1/\ng (lr x.1.2.2.2 (mg x.2.1) x.2.1.1.length) (mg x.2.1) x.2.1.2.1 (x.2.1.1.length - 1) (x.2.1.1.length - 1 - x.1.2.1.toNat) x.1.2.1.toNat=
   ng (lr x.1.2.2.2 (mg x.2.1) x.2.1.1.length) (mg x.2.1) x.2.1.2.1 (x.2.1.1.length - 1) (x.2.1.1.length - 1 - f) f
  mu:=fun f=>x.2.1.1.length - f
  sl:=fun _=>[]
  bl:=fun f=>[(2,aa8 S 2 1 (.aG I (f:Int)))]
  keep:=[2,3,4,5,6,7,8,10]
  cv:=[3,4,14,56]})]
abbrev di:=cu×Int×List (Int×Int)
def NF (f:di):List ba:=bif f.2.1==0 then[] else[(f.1.1,f.2.1)]
def bj (gs:List di):List cu:=gs.reverse.map fun f=>f.1
def wO (gs:List di):List ba:=gs.reverse.flatMap NF
def oL (b:Int) (gs:List di):List Int:=b::gs.reverse.map fun f=>f.1.1
def oY (s:Int) (gs:List di) (stop to:Int):af:=(s,to,stop,bj gs,wO gs,[],[],[],false)
def tg (s:Int) (gs:List di):af:=(s,bif gs.isEmpty then 0 else -1,0,bj gs,wO gs,[],[],[],false)
theorem jT (f:di) (gs:List di):bj (f::gs)=bj gs++[f.1]:=by
 unfold bj;rw[List.reverse_cons,List.map_append];rfl
theorem sj (f:di) (gs:List di):wO (f::gs)=wO gs++NF f:=by
 unfold wO;rw[List.reverse_cons,List.flatMap_append,List.flatMap_singleton]
theorem U0 (b:Int) (f:di) (gs:List di):oL b (f::gs)=oL b gs++[f.1.1]:=by
 unfold oL;rw[List.reverse_cons,List.map_append];rfl
theorem fK (gs:List di):(bj gs).length=gs.length:=by unfold bj;simp
theorem xg (s:Int) (gs:List di) (st:cu) (pos:Int) (l:List (Int×Int)) (stop to:Int):eO (tg s gs) st pos stop to=oY s ((st,pos,l)::gs) stop to:=by
 unfold eO oY
 rw[jT,sj]
 rfl
theorem QK (s:Int) (gs:List di) (st:cu) (pos:Int) (l:List (Int×Int)):eO (tg s gs) st pos 0 (-1)=tg s ((st,pos,l)::gs):=by
 rw[xg s gs st pos l]
 rfl
def uq (p:ab) (s b:Int) (gs:List di) (f:di):List af:=f.2.2.flatMap (qM p (na p (12 - gs.length)) (tg s gs) (f.1.1,f.1.2.1) (oL b gs++[f.1.1]))
def nE (p:ab) (s b:Int):List di->List af
 |[]=>[]
 |f::gs=>uq p s b gs f++nE p s b gs
def sr (p:ab) (s b:Int) (x:ak) (gs:List di):List af:=na p (13 - gs.length) (tg s gs) x (oL b gs)++nE p s b gs
def Bd (b:Int) (gs:List di) (x:ak):Bool:=decide (gs.length<12)&& !bN (oL b gs) x.1
theorem Q6 {p:ab} {e i:Int} (h:aK p e=4):bG p e i=[]:=by
 unfold bG
 cases !dC p (e,i) with
 |true=>rfl
 |false=>rw[h];rfl
theorem VI {p:ab} {s b:Int} {x:ak} {gs:List di} (hl:gs.length<=12) (h:Bd b gs x=false):sr p s b x gs=nE p s b gs:=by
 unfold sr
 have:na p (13 - gs.length) (tg s gs) x (oL b gs)=[]:=by
  obtain⟨n,hn⟩:∃n,13 - gs.length=n+1:=⟨12 - gs.length,by omega⟩
  rw[hn]
  show nG p (na p n) (tg s gs) x (oL b gs)=[]
  unfold nG
  have hc:(bN (oL b gs) x.1||decide ((tg s gs).2.2.2.1.length=12))=true:=by
   have e:(tg s gs).2.2.2.1.length=gs.length:=fK gs
   rw[e]
   unfold Bd at h
   rcases Bool.and_eq_false_iff.1 h with h|h
   ·have:=of_decide_eq_false h
    rw[decide_eq_true (show gs.length=12 by omega),Bool.or_true]
   ·have:bN (oL b gs) x.1=true:=by simpa using h
    rw[this,Bool.true_or]
  rw[hc]
  rfl
 rw[this,List.nil_append]
theorem P8 {p:ab} {s b:Int} {x:ak} {gs:List di} (h:Bd b gs x=true):
  sr p s b x gs=(bif aK p x.1==4 then[oY s (((x.1,x.2, -1),0,[])::gs) 2 (-1)] else[])++nE p s b (((x.1,x.2, -1),0,bG p x.1 x.2)::gs):=by
 unfold Bd at h
 rw[Bool.and_eq_true] at h
 have hl:=of_decide_eq_true h.1
 have hm:bN (oL b gs) x.1=false:=by simpa using h.2
 unfold sr
 obtain⟨n,hn⟩:∃n,13 - gs.length=n+1:=⟨12 - gs.length,by omega⟩
 have hn2:n=12 - gs.length:=by omega
 rw[hn]
 have e1:na p (n+1) (tg s gs) x (oL b gs)=nG p (na p n) (tg s gs) x (oL b gs):=rfl
 have e:(tg s gs).2.2.2.1.length=gs.length:=fK gs
 rw[e1]
 unfold nG
 rw[e,hm,decide_eq_false (show ¬gs.length=12 by omega)]
 cases hk:(aK p x.1==4) with
 |true=>
  rw[Q6 (eq_of_beq hk)]
  show[eO (tg s gs) (x.1,x.2, -1) 0 2 (-1)]++nE p s b gs=[_]++(uq p s b gs ((x.1,x.2, -1),0,[])++nE p s b gs)
  rw[xg s gs _ _ []]
  rfl
 |false=>
  show ji p (na p n) (tg s gs) x (oL b gs++[x.1]) (bG p x.1 x.2).length++nE p s b gs=[]++(uq p s b gs ((x.1,x.2, -1),0,bG p x.1 x.2)++nE p s b gs)
  rw[List.nil_append]
  congr 1
  unfold ji uq
  rw[List.take_length,hn2]
theorem El {p:ab} {s b:Int} {e i o pos:Int} {w:Int×Int} {ws:List (Int×Int)} {gs:List di}:
  nE p s b (((e,i,o),pos,w::ws)::gs)=qM p (na p (12 - gs.length)) (tg s gs) (e,i) (oL b gs++[e]) w++nE p s b (((e,i,w.1),w.2,ws)::gs):=by
 show uq p s b gs ((e,i,o),pos,w::ws)++nE p s b gs=_++(uq p s b gs ((e,i,w.1),w.2,ws)++nE p s b gs)
 unfold uq
 rw[List.flatMap_cons,List.append_assoc]
theorem Mu {p:ab} {s b:Int} {e i o pos:Int} {w:Int×Int} {ws:List (Int×Int)} {gs:List di} (h:decide (0<=cc p (e,w.1))=true):
  nE p s b (((e,i,o),pos,w::ws)::gs)=[oY s (((e,i,w.1),w.2,ws)::gs) 1 (cc p (e,w.1))]++nE p s b (((e,i,w.1),w.2,ws)::gs):=by
 rw[El]
 unfold qM
 rw[h,xg s gs _ _ ws]
 rfl
theorem Mv {p:ab} {s b:Int} {e i o pos:Int} {w:Int×Int} {ws:List (Int×Int)} {gs:List di} (h:decide (0<=cc p (e,w.1))=false) (hn:(bx p (e,w.1)).2=false):
  nE p s b (((e,i,o),pos,w::ws)::gs)=[oY s (((e,i,w.1),w.2,ws)::gs) 3 (-1)]++nE p s b (((e,i,w.1),w.2,ws)::gs):=by
 rw[El]
 unfold qM
 rw[h,hn]
 show[eO (tg s gs) (e,i,w.1) w.2 3 (-1)]++_=_
 rw[xg s gs _ _ ws]
theorem WM {p:ab} {s b:Int} {e i o pos:Int} {w:Int×Int} {ws:List (Int×Int)} {gs:List di} (h:decide (0<=cc p (e,w.1))=false) (hn:(bx p (e,w.1)).2=true):
  nE p s b (((e,i,o),pos,w::ws)::gs)=sr p s b (bx p (e,w.1)).1 (((e,i,w.1),w.2,ws)::gs):=by
 rw[El]
 unfold qM sr
 rw[h,hn,QK s gs _ _ ws,U0]
 show na p (12 - gs.length) _ _ _++_=na p (13 - (gs.length+1)) _ _ _++_
 rw[show 13 - (gs.length+1)=12 - gs.length by omega]
def wB:Nat->Nat
 |0=>1
 |n+1=>2+2*(1+wB n)
def wF:List di->Nat
 |[]=>0
 |f::gs=>1+f.2.2.length*(1+wB (12 - gs.length))+wF gs
def wE (gs:List di):Nat:=wB (13 - gs.length)+wF gs
theorem ZV (n:Nat):1<=wB n:=by cases n<;>simp only[wB]<;>omega
theorem UR (p:ab) (e i:Int):(bG p e i).length<=2:=by
 unfold bG
 cases !dC p (e,i) with
 |true=>exact Nat.zero_le _
 |false=>
  cases aK p e==1 with
  |true=>exact(by decide:1<=2)
  |false=>
   cases aK p e==3 with
   |true=>exact(by decide:1<=2)
   |false=>
    cases aK p e==2 with
    |true=>cases i==0<;>simp
    |false=>exact Nat.zero_le _
theorem ZU {p:ab} {e i:Int} {st:cu} {pos:Int} {gs:List di} (hl:gs.length<12):wF ((st,pos,bG p e i)::gs)<wE gs:=by
 have h2:=UR p e i
 unfold wE
 obtain⟨n,hn⟩:∃n,13 - gs.length=n+1:=⟨12 - gs.length,by omega⟩
 have hn2:12 - gs.length=n:=by omega
 rw[hn]
 show 1+(bG p e i).length*(1+wB (12 - gs.length))+wF gs<(2+2*(1+wB n))+wF gs
 rw[hn2]
 have:=Nat.mul_le_mul_right (1+wB n) h2
 omega
theorem afX (gs:List di):wF gs<wE gs:=by
 have:=ZV (13 - gs.length)
 unfold wE
 omega
theorem Ws (st:cu) (pos:Int) (l:List (Int×Int)) (gs:List di):wF gs<wF ((st,pos,l)::gs):=by
 show wF gs<1+_+wF gs
 omega
theorem ab7 (st st':cu) (pos pos':Int) (w:Int×Int) (ws:List (Int×Int)) (gs:List di):wF ((st',pos',ws)::gs)<wF ((st,pos,w::ws)::gs):=by
 show 1+ws.length*_+wF gs<1+(ws.length+1)*_+wF gs
 rw[Nat.succ_mul]
 omega
theorem afW (st st':cu) (pos pos':Int) (w:Int×Int) (ws:List (Int×Int)) (gs:List di):wE ((st',pos',ws)::gs)<wF ((st,pos,w::ws)::gs):=by
 show wB (13 - (gs.length+1))+(1+ws.length*(1+wB (12 - gs.length))+wF gs)<1+(ws.length+1)*(1+wB (12 - gs.length))+wF gs
 rw[Nat.succ_mul,show 13 - (gs.length+1)=12 - gs.length by omega]
 omega
def CC (n m:Nat):Prop:=∀y s,pg n y s->pg m y s->dP n y s=dP m y s
theorem CJ {n m:Nat} (ih:CC n m) (e stop:Int) {s:au} (h:gl n s) (k:gl m s):pB (dP n) e stop s=pB (dP m) e stop s:=by
 unfold pB
 cases hn:(bx s.1 (e,stop)).2 with
 |true=>exact ih _ _ ⟨h,o7 hn⟩ ⟨k,o7 hn⟩
 |false=>rfl
theorem Mz {n m:Nat} (ih:CC n m) {y:ak} {s:au} (h:lR n y s) (k:lR m y s):jn (dP n) y s=jn (dP m) y s:=by
 obtain⟨⟨h1,h2⟩,h3⟩:=h
 obtain⟨⟨k1,k2⟩,k3⟩:=k
 obtain⟨hz,_⟩:=nt h1.1 y.1
 unfold jn
 cases y.2==0 with
 |true=>
  cases (bK s y.1).1 with
  |true=>
   have e1:=CJ ih y.1 1 (hz.gl h1) (hz.gl k1)
   have q1:=qh (sP n) y.1 1 (hz.gl h1)
   have e2:=CJ ih y.1 2 (q1.gl (hz.gl h1)) (q1.gl (hz.gl k1))
   show pB (dP n) y.1 2 (pB (dP n) y.1 1 (bK s y.1).2)=pB (dP m) y.1 2 (pB (dP m) y.1 1 (bK s y.1).2)
   rw[e2,e1]
  |false=>rfl
 |false=>
  cases !bq (cX s) (y.1,y.2)&& !bq (aS s) (y.1,y.2) with
  |true=>rfl
  |false=>
   cases (bK s y.1).1 with
   |true=>exact CJ ih y.1 0 (hz.gl h1) (hz.gl k1)
   |false=>rfl
theorem UY {n m:Nat} (ih:CC n m) {y:ak} {s:au} (h:lR n y s) (k:lR m y s):vp (dP n) y s=vp (dP m) y s:=by
 have h1:=h.1.1
 have k1:=k.1.1
 obtain⟨hz,_⟩:=nt h1.1 y.1
 unfold vp
 cases decide (0<=cc s.1 y)&& !s.1.2.2.2.2.2.2.2.2 with
 |true=>rfl
 |false=>
  cases aK s.1 y.1==4 with
  |true=>rfl
  |false=>
   cases aK s.1 y.1==2 with
   |true=>exact Mz ih h k
   |false=>
    cases (bK s y.1).1 with
    |true=>exact CJ ih _ _ (hz.gl h1) (hz.gl k1)
    |false=>rfl
theorem IV:∀n m,CC n m
 |0,_=>fun y s h _=>absurd h x7
 |_+1,0=>fun y s _ k=>absurd k x7
 |n+1,m+1=>fun y s h k=>by
  show sT (dP n) y s=sT (dP m) y s
  unfold sT
  cases hc:kI (iZ s) y.1||fV (ct s) y with
  |true=>rfl
  |false=>
   rw[Bool.or_eq_false_iff] at hc
   exact UY (IV n m) (wQ h hc.2).1 (wQ k hc.2).1
def mT (p:ab) (e stop:Int):List ak:=bif(bx p (e,stop)).2 then[(bx p (e,stop)).1] else[]
def fin (ts:List ak) (s:au):au:=ts.foldl (fun s y=>dP 161 y s) s
theorem zI (a b:List ak) (s:au):fin (a++b) s=fin b (fin a s):=List.foldl_append
def jW (y:ak) (s:au):List ak×au:=
 bif y.2==0 then(bif(bK s y.1).1 then(mT s.1 y.1 1++mT s.1 y.1 2,(bK s y.1).2) else([],(bK s y.1).2)) else
 bif !bq (cX s) (y.1,y.2)&& !bq (aS s) (y.1,y.2) then([],bif bq (aS s) (y.1,3 - y.2) then s else An s (aS s++[(y.1,3 - y.2)])) else
 (bif(bK s y.1).1 then(mT s.1 y.1 0,(bK s y.1).2) else([],(bK s y.1).2))
def yk (y:ak) (s:au):List ak×au:=
 bif decide (0<=cc s.1 y)&& !s.1.2.2.2.2.2.2.2.2 then([],bif bN (cH s) (cc s.1 y) then s else BC s (cH s++[cc s.1 y])) else
 bif aK s.1 y.1==4 then([],uA s) else bif aK s.1 y.1==2 then jW y s else
 (bif(bK s y.1).1 then(mT s.1 y.1 (mw s.1 y.1 y.2 0).1,(bK s y.1).2) else([],(bK s y.1).2))
def jb (y:ak) (s:au):List ak×au:=
 bif kI (iZ s) y.1||fV (ct s) y then([],s) else yk y (eR s (ct s++[y]))
theorem GF {s:au} (e stop:Int) (h:gl 160 s):pB (dP 160) e stop s=fin (mT s.1 e stop) s:=by
 unfold pB mT
 cases hn:(bx s.1 (e,stop)).2 with
 |true=>exact IV 160 161 _ _ ⟨h,o7 hn⟩ ⟨⟨h.1,by have:=h.2;omega⟩,o7 hn⟩
 |false=>rfl
theorem HA {p:ab} {e stop:Int} {x:ak} (h:x∈mT p e stop):x∈bW p:=by
 unfold mT at h
 cases hn:(bx p (e,stop)).2 with
 |true=>
  rw[hn] at h
  have:x=(bx p (e,stop)).1:=List.mem_singleton.1 h
  rw[this]
  exact o7 hn
 |false=>rw[hn] at h;exact absurd h List.not_mem_nil
theorem yZ (p:ab) (e stop:Int):(mT p e stop).length<=1:=by
 unfold mT
 cases (bx p (e,stop)).2<;>simp
structure Stepped (s s':au) (ys:List ak) (out:au):Prop where
 keeps:lz s s'
 Q3:∀y∈ys,y∈bW s.1
 two:ys.length<=2
 same:out=fin ys s'
theorem Gq {y:ak} {s:au} (h:lR 160 y s):Stepped s (jW y s).2 (jW y s).1 (jn (dP 160) y s):=by
 obtain⟨⟨h1,h2⟩,h3⟩:=h
 obtain⟨hz,_⟩:=nt h1.1 y.1
 have none:∀{s':au},lz s s'->Stepped s s' [] s':=fun k=>⟨k,fun y hy=>absurd hy List.not_mem_nil,Nat.zero_le _,rfl⟩
 unfold jn jW
 cases y.2==0 with
 |true=>
  cases (bK s y.1).1 with
  |true=>
   refine⟨hz,fun x hx=> ?_,?_,?_⟩
   ·rcases List.mem_append.1 hx with hx|hx<;>exact HA hx
   ·show(mT s.1 y.1 1++mT s.1 y.1 2).length<=2
    rw[List.length_append]
    have:=yZ s.1 y.1 1
    have:=yZ s.1 y.1 2
    omega
   ·have q1:=qh (sP 160) y.1 1 (hz.gl h1)
    show pB (dP 160) y.1 2 (pB (dP 160) y.1 1 (bK s y.1).2)=fin (mT s.1 y.1 1++mT s.1 y.1 2) (bK s y.1).2
    rw[GF _ _ (q1.gl (hz.gl h1)),q1.qJ,GF _ _ (hz.gl h1),zI,hz.qJ]
  |false=>exact none hz
 |false=>
  cases !bq (cX s) (y.1,y.2)&& !bq (aS s) (y.1,y.2) with
  |true=>
   cases bq (aS s) (y.1,3 - y.2) with
   |true=>exact none (.refl h1.1)
   |false=>
    refine none ⟨⟨h1.1.vF,h1.1.zo,h1.1.nodup,h1.1.sub,?_,h1.1.holds,h1.1.nu,h1.1.steps⟩,rfl,Nat.le_refl _⟩
    show(aS s++[(y.1,3 - y.2)]).length<=(ct s).length
    rw[List.length_append]
    show(aS s).length+1<=_
    omega
  |false=>
   cases (bK s y.1).1 with
   |true=>
    refine⟨hz,fun x hx=>HA hx,?_,?_⟩
    ·show(mT s.1 y.1 0).length<=2
     have:=yZ s.1 y.1 0
     omega
    ·show pB (dP 160) y.1 0 (bK s y.1).2=fin (mT s.1 y.1 0) (bK s y.1).2
     rw[GF _ _ (hz.gl h1),hz.qJ]
   |false=>exact none hz
theorem ML {y:ak} {s:au} (h:lR 160 y s) (hh:(cH s).length<(ct s).length):Stepped s (yk y s).2 (yk y s).1 (vp (dP 160) y s):=by
 have h1:=h.1.1
 obtain⟨hz,_⟩:=nt h1.1 y.1
 have none:∀{s':au},lz s s'->Stepped s s' [] s':=fun k=>⟨k,fun y hy=>absurd hy List.not_mem_nil,Nat.zero_le _,rfl⟩
 unfold vp yk
 cases decide (0<=cc s.1 y)&& !s.1.2.2.2.2.2.2.2.2 with
 |true=>
  cases bN (cH s) (cc s.1 y) with
  |true=>exact none (.refl h1.1)
  |false=>
   refine none ⟨⟨h1.1.vF,h1.1.zo,h1.1.nodup,h1.1.sub,h1.1.guards,?_,h1.1.nu,h1.1.steps⟩,rfl,Nat.le_refl _⟩
   show(cH s++[cc s.1 y]).length<=(ct s).length
   rw[List.length_append]
   show(cH s).length+1<=_
   omega
 |false=>
  cases aK s.1 y.1==4 with
  |true=>exact none (z7 h1.1)
  |false=>
   cases aK s.1 y.1==2 with
   |true=>exact Gq h
   |false=>
    cases (bK s y.1).1 with
    |true=>
     refine⟨hz,fun x hx=>HA hx,?_,?_⟩
     ·show(mT s.1 y.1 _).length<=2
      have:=yZ s.1 y.1 (mw s.1 y.1 y.2 0).1
      omega
     ·show pB (dP 160) y.1 _ (bK s y.1).2=fin (mT s.1 y.1 _) (bK s y.1).2
      rw[GF _ _ (hz.gl h1),hz.qJ]
    |false=>exact none hz
def eY (ts:List ak) (s:au):Nat:=3*((bW s.1).length - (ct s).length)+ts.length
theorem Vz {y:ak} {ts:List ak} {s:au} (h:pg 161 y s):
  fin (y::ts) s=fin ((jb y s).1++ts) (jb y s).2/\lz s (jb y s).2/\(∀x∈(jb y s).1,x∈bW s.1)/\eY ((jb y s).1++ts) (jb y s).2<eY (y::ts) s:=by
 have e0:fin (y::ts) s=fin ts (sT (dP 160) y s):=rfl
 rw[e0]
 unfold sT jb
 cases hc:kI (iZ s) y.1||fV (ct s) y with
 |true=>
  refine⟨rfl,.refl h.1.1,fun x hx=>absurd hx List.not_mem_nil,?_⟩
  show eY ([]++ts) s<eY (y::ts) s
  unfold eY
  rw[List.nil_append,List.length_cons]
  omega
 |false=>
  rw[Bool.or_eq_false_iff] at hc
  obtain⟨m1,m2,m3⟩:=wQ h hc.2
  have k:=ML m1 m2
  refine⟨?_,m3.trans k.keeps,fun x hx=>k.Q3 x hx,?_⟩
  ·show fin ts (vp (dP 160) y (eR s (ct s++[y])))=fin ((yk y (eR s (ct s++[y]))).1++ts) (yk y (eR s (ct s++[y]))).2
   rw[k.same,zI]
  ·show eY ((yk y (eR s (ct s++[y]))).1++ts) (yk y (eR s (ct s++[y]))).2<eY (y::ts) s
   have h1:=k.keeps.met
   have h2:=k.keeps.qJ
   have h3:=pZ k.keeps.inv.nodup k.keeps.inv.sub
   have h4:=k.two
   have hl:(ct (eR s (ct s++[y]))).length=(ct s).length+1:=by
    show(ct s++[y]).length=_
    rw[List.length_append]
    rfl
   have h6:bW (yk y (eR s (ct s++[y]))).2.1=bW s.1:=by rw[h2];rfl
   rw[h6] at h3
   unfold eY
   rw[List.length_append,List.length_cons,h6]
   omega
theorem Bb {p:ab} {r:af} {x:ak} (h:x∈bE p r):(bx p x).2=true:=by
 unfold bE c8 at h
 obtain⟨s,_,hx⟩:=List.mem_flatMap.1 h
 unfold cF at hx
 exact(List.mem_filter.1 hx).2
theorem IC {p:ab} {r:af} (h:pc p r):∀k,k<=(bE p r).length->bF p r k=fin (((bE p r).take k).map fun x=>(bx p x).1) (s0 p r)
 |0,_=>rfl
 |k+1,hk=>by
  have ih:=IC h k (by omega)
  have hp:=(wZ h k).2
  have hj:=Bb (fJ zP (show k<(bE p r).length by omega))
  rw[List.take_succ_eq_append_getElem (by omega),List.map_append,zI,<-ih]
  show pB (dP 161) ((bE p r).getD k zP).1 ((bE p r).getD k zP).2 (bF p r k)=_
  have e:(bE p r)[k]'(by omega)=(bE p r).getD k zP:=by simp[List.getD_eq_getElem?_getD,show k<(bE p r).length by omega]
  unfold pB
  rw[hp,show(((bE p r).getD k zP).1,((bE p r).getD k zP).2)=(bE p r).getD k zP from rfl,hj,e]
  rfl
theorem agZ (n:bk) (x:Int×Int):ah (aj aA []) Tryz.f144 va ar (n,x,())=(
U (aW aO n.2.1 x) fun(y2:Option (Int×Int))=>y2.getD ((0:Int),(0:Int))=(fo n x).1/\y2.isSome=(fo n x).2/\True):=by kernel_rfl
theorem MF:aN Tryz.prog 144 va:=
 aN.b3 (l:=[]) (A:=fun _=>ar) aJ trivial Tryz.func144 (by kernel_rfl) (by kernel_rfl) fun x _ hp=>by
  obtain⟨n,y,u⟩:=x
  show ah (aj aA []) Tryz.f144 va ar (n,y,())
  rw[agZ]
  refine U.mk fun y2 e2=> ?_
  unfold fo
  rw[e2]
  exact⟨rfl,rfl,trivial⟩
theorem agY (n:bk) (x:Int×Int):ah (aj aA []) Tryz.f147 DG ar (n,x,())=(
U (aW aO n.2.2.1 x) fun(y2:Option Int)=>
(y2.isSome=true->y2.getD (0:Int)=kQ n x/\True)/\(y2.isSome=false->(-1:Int)=kQ n x/\True)):=by kernel_rfl
theorem Xd:aN Tryz.prog 147 DG:=
 aN.b3 (l:=[]) (A:=fun _=>ar) aJ trivial Tryz.func147 (by kernel_rfl) (by kernel_rfl) fun x _ hp=>by
  obtain⟨n,y,u⟩:=x
  show ah (aj aA []) Tryz.f147 DG ar (n,y,())
  rw[agY]
  refine U.mk fun y2 e2=> ?_
  unfold kQ
  have e2:y2=aW aO n.2.2.1 y:=e2
  rw[<-e2]
  refine⟨fun h=> ?_,fun h=> ?_⟩
  ·rw[h];exact⟨rfl,trivial⟩
  ·rw[h];exact⟨rfl,trivial⟩
theorem Sp (n:bk) (e:Int):(B5 n e).2.1=aK n.1 e:=by
 unfold B5 aK
 cases (decide (e<0)||decide ((n.1.1.length:Int)<=e))<;>rfl
theorem agq (n:bk) (e:Int):ah (aj aA []) Tryz.f221 Le ar (n,e,())=(
U (bif decide (e<(0:Int)) then true else decide (e>=(↑n.1.1.length:Int))) fun(y2:Bool)=>
(y2=true->([],(0:Int),(0:Int))=B5 n e/\True)/\(y2=false->aL e n.1.1.length/\n.1.1.getD e.toNat ([],(0:Int),(0:Int))=B5 n e/\True)):=by kernel_rfl
theorem ajX (n:bk) (e:Int):ah (aj aA []) Tryz.f221 Le ar (n,e,()):=by
 rw[agq]
 refine U.mk fun y2 e2=> ?_
 have key:y2=(decide (e<0)||decide ((n.1.1.length:Int)<=e)):=by
  rw[e2]
  cases decide (e<0)<;>rfl
 unfold B5
 rw[<-key]
 refine⟨fun h=> ?_,fun h=> ?_⟩
 ·rw[h];exact⟨rfl,trivial⟩
 ·rw[h]
  rw[h] at key
  have:=Bool.or_eq_false_iff.1 key.symm
  have h1:¬e<0:=of_decide_eq_false this.1
  have h2:¬(n.1.1.length:Int)<=e:=of_decide_eq_false this.2
  exact⟨⟨by omega,by omega⟩,rfl,trivial⟩
theorem acJ:aN Tryz.prog 221 Le:=
 aN.b3 (l:=[]) (A:=fun _=>ar) aJ trivial Tryz.func221 (by kernel_rfl) (by kernel_rfl) fun x _ hp=>ajX x.1 x.2.1
theorem v148 (n:bk) (e:Int):ah (aj aA [(221,Le)]) Tryz.f148 u9 ar (n,e,())=(
True/\(B5 n e).2.1=aK n.1 e/\True):=by kernel_rfl
theorem ME:aN Tryz.prog 148 u9:=
 aN.b3 (l:=[(221,Le)]) (A:=fun _=>ar) aJ ⟨acJ,trivial⟩ Tryz.func148 (by kernel_rfl) (by kernel_rfl) fun x _ hp=>by
  obtain⟨n,e,u⟩:=x
  show ah (aj aA [(221,Le)]) Tryz.f148 u9 ar (n,e,())
  rw[v148]
  exact⟨trivial,Sp n e,trivial⟩
theorem agd (n:bk) (e:Int) (i:Int):ah (aj aA [(148,u9),(235,yq)]) Tryz.f251 DC ar (n,e,i,())=(
U (bif decide (i<(0:Int)) then true else decide (i>=cQ (aK n.1 e))) fun(y3:Bool)=>
U (aK n.1 e==(1:Int)) fun(y4:Bool)=>
U (aK n.1 e==(3:Int)) fun(y5:Bool)=>
U [(1:Int),(0:Int),(3:Int),(2:Int)] fun(y6:List Int)=>
U (aK n.1 e==(2:Int)) fun(y7:Bool)=>
U [(0:Int),(1:Int),(2:Int)] fun(y8:List Int)=>
(decide (i<(0:Int))=false->True)/\
(decide (i<(0:Int))=false->True)/\
(y3=true->[]=bG n.1 e i/\True)/\
(y3=false->
True/\
(y4=true->bo IntKind.i64 ((1:Int) - i)/\(List.replicate (1:Nat) ((0:Int),(0:Int))).set (0:Nat) ((1:Int) - i,(0:Int))=bG n.1 e i/\True)/\
(y4=false->
(y5=true->
[(0:Int),(0:Int),(0:Int),(0:Int)].length=(4:Nat)/\
(aL i (4:Nat)/\y6.length=(4:Nat))/\
(List.replicate (1:Nat) ((0:Int),(0:Int))).set (0:Nat) (y6.getD i.toNat (0:Int),(0:Int))=bG n.1 e i/\True)/\
(y5=false->
(y7=true->
((i==(0:Int))=true->
((List.replicate (2:Nat) ((0:Int),(0:Int))).set (0:Nat) ((1:Int),(1:Int))).set (1:Nat) ((2:Int),(2:Int))=bG n.1 e i/\True)/\
((i==(0:Int))=false->
aL i y8.length/\(List.replicate (1:Nat) ((0:Int),(0:Int))).set (0:Nat) ((0:Int),y8.getD i.toNat (0:Int))=bG n.1 e i/\True))/\
(y7=false->[]=bG n.1 e i/\True))))):=by kernel_rfl
theorem UT {p:ab} {e i:Int} (h:(bif decide (i<0) then true else decide (i>=cQ (aK p e)))=true):bG p e i=[]:=by
 have hh:dC p (e,i)=false:=by
  cases hc:dC p (e,i) with
  |false=>rfl
  |true=>
   obtain⟨⟨h1,h2⟩,h3,h4⟩:=xQ hc
   have h3:0<=i:=h3
   have h4:i<cQ (aK p e):=h4
   rw[decide_eq_false (show ¬i<0 by omega),show decide (i>=cQ (aK p e))=false from decide_eq_false (by show ¬i>=_;omega)] at h
   cases h
 unfold bG
 rw[hh]
 rfl
theorem UQ {p:ab} {e i:Int} (h:(bif decide (i<0) then true else decide (i>=cQ (aK p e)))=false):dC p (e,i)=true/\0<=i/\i<cQ (aK p e):=by
 obtain⟨h1,h2⟩:=su h
 have h1:¬i<0:=of_decide_eq_false h1
 have h2:¬i>=cQ (aK p e):=of_decide_eq_false h2
 have hk:aK p e≠0:=fun h0=>by
  rw[h0] at h2
  exact h2 (by show i>=cQ 0;rw[show cQ 0=0 by unfold cQ;rfl];omega)
 have hr:=qk hk
 refine⟨?_,by omega,by omega⟩
 unfold dC
 rw[decide_eq_true (show 0<=(e,i).1 from hr.1),decide_eq_true (show(e,i).1<_ from hr.2),decide_eq_true (show 0<=(e,i).2 by show 0<=i;omega),decide_eq_true (show(e,i).2<_ by show i<cQ (aK p e);omega)]
 rfl
theorem ajK (n:bk) (e i:Int):ah (aj aA [(148,u9),(235,yq)]) Tryz.f251 DC ar (n,e,i,()):=by
 rw[agd]
 refine U.mk fun y3 e3=>U.mk fun y4 e4=>U.mk fun y5 e5=>U.mk fun y6 e6=>U.mk fun y7 e7=>U.mk fun y8 e8=>⟨fun _=>trivial,fun _=>trivial,fun h=>⟨?_,trivial⟩,fun h=> ?_⟩
 ·exact(UT (by rw[<-e3];exact h)).symm
 obtain⟨hh,h0,hE⟩:=UQ (by rw[<-e3];exact h)
 have e1:cQ 1=2:=by unfold cQ;rfl
 have e2:cQ 2=3:=by unfold cQ;rfl
 have e3':cQ 3=4:=by unfold cQ;rfl
 refine⟨trivial,fun h1=> ?_,fun h1=>⟨fun h3=> ?_,fun h3=>⟨fun h2=>⟨fun hi=> ?_,fun hi=> ?_⟩,fun h2=> ?_⟩⟩⟩
 ·rw[e4] at h1
  have hk:=eq_of_beq h1
  rw[hk,e1] at hE
  refine⟨aY (by omega) (by omega),?_,trivial⟩
  unfold bG
  rw[hh,h1]
  rfl
 ·rw[e4] at h1
  rw[e5] at h3
  have hk:=eq_of_beq h3
  rw[hk,e3'] at hE
  refine⟨rfl,⟨⟨by omega,by omega⟩,by rw[e6];rfl⟩,?_,trivial⟩
  unfold bG
  rw[hh,h1,h3,e6]
  have hi:i=0\/i=1\/i=2\/i=3:=by omega
  rcases hi with rfl|rfl|rfl|rfl<;>rfl
 ·rw[e4] at h1
  rw[e5] at h3
  rw[e7] at h2
  refine⟨?_,trivial⟩
  unfold bG
  rw[hh,h1,h3,h2,hi]
  rfl
 ·rw[e4] at h1
  rw[e5] at h3
  rw[e7] at h2
  have hk:=eq_of_beq h2
  rw[hk,e2] at hE
  have Vk:i≠0:=fun h=>by rw[h] at hi;cases hi
  refine⟨⟨by omega,by rw[e8];show i<3;omega⟩,?_,trivial⟩
  unfold bG
  rw[hh,h1,h3,h2,hi,e8]
  have hi:i=1\/i=2:=by omega
  rcases hi with rfl|rfl<;>rfl
 ·rw[e4] at h1
  rw[e5] at h3
  rw[e7] at h2
  refine⟨?_,trivial⟩
  unfold bG
  rw[hh,h1,h3,h2]
  rfl
theorem W6:aN Tryz.prog 251 DC:=
 aN.b3 (l:=[(148,u9),(235,yq)]) (A:=fun _=>ar) aJ ⟨ME,Re,trivial⟩ Tryz.func251 (by kernel_rfl) (by kernel_rfl) fun x hw hp=>ajK x.1 x.2.1 x.2.2.1
theorem agp (n:bk) (e:Int) (i:Int) (pos:Int):ah (aj aA [(251,DC)]) Tryz.f223 Lc (Zb (n,e,i,pos,())) (n,e,i,pos,())=(
U (bG n.1 e i).length fun(y4:Nat)=>
U (cx n.1 e i pos) fun(y5:Int×Bool)=>
True/\
(∃(gG:Nat),(gG<=y4/\kM (jm pos) (bG n.1 e i) gG)/\(↑gG:Int)=(0:Int)/\pos=pos/\bG n.1 e i=bG n.1 e i/\(↑y4:Int)=(↑y4:Int)/\True)/\
∀(s6:Nat),
U (decide ((↑s6:Int)<(↑y4:Int))) fun(y7:Bool)=>
U ((bG n.1 e i).getD (↑s6:Int).toNat ((0:Int),(0:Int))) fun(y8:Int×Int)=>
U (bif y8.2==(0:Int) then true else y8.2==pos) fun(y9:Bool)=>
s6<=y4/\kM (jm pos) (bG n.1 e i) s6->
(y7=true->
aL (↑s6:Int) y4/\
(y9=true->y8.1=y5.1/\true=y5.2/\True)/\
(y9=false->
bo IntKind.i64 ((↑s6:Int)+(1:Int))/\
∃(cU:Nat),
(cU<=y4/\kM (jm pos) (bG n.1 e i) cU)/\
y4 - cU<y4 - s6/\(↑cU:Int)=(↑s6:Int)+(1:Int)/\pos=pos/\bG n.1 e i=bG n.1 e i/\(↑y4:Int)=(↑y4:Int)/\True))/\
(y7=false->(0:Int)=y5.1/\false=y5.2/\True)):=by kernel_rfl
theorem ajV (n:bk) (e i pos:Int):ah (aj aA [(251,DC)]) Tryz.f223 Lc (Zb (n,e,i,pos,())) (n,e,i,pos,()):=by
 have hl:=Aq n.1 e i
 rw[agp]
 refine U.mk fun y4 e4=>U.mk fun y5 e5=> ?_
 simp only[true_and,and_true,eq_self,Int.toNat_natCast]
 refine⟨⟨0,⟨by omega,rfl⟩,rfl⟩,fun s=>U.mk fun y7 e7=>U.mk fun y8 e8=>U.mk fun y9 e9=> ?_⟩
 rintro⟨h1,h2⟩
 have h2:((bG n.1 e i).take s).any (jm pos)=false:=h2
 have e9:jm pos y8=y9:=by
  rw[e9]
  unfold jm
  have key:∀a b:Bool,(a||b)=(bif a then true else b):=by decide
  exact key _ _
 subst e4
 refine⟨fun hs=> ?_,fun hs=> ?_⟩
 ·have hs:=aZ e7 hs
  refine⟨⟨by omega,by omega⟩,fun h=> ?_,fun h=>⟨aY (by omega) (by omega),s+1,⟨by omega,?_⟩,by omega,by omega⟩⟩
  ·have hf:(bG n.1 e i).find? (jm pos)=some y8:=by
    rw[e8]
    exact Dk (0,0) hs h2 (by rw[<-e8,e9,h])
   have:cx n.1 e i pos=(y8.1,true):=by
    unfold cx
    exact congrArg G7 hf
   rw[e5,this]
   exact⟨rfl,rfl⟩
  ·exact any_succ (0,0) hs h2 (by rw[<-e8,e9,h])
 ·have hf:(bG n.1 e i).find? (jm pos)=none:=xU (bt e7 hs) h2
  have:cx n.1 e i pos=(0,false):=by
   unfold cx
   exact congrArg G7 hf
  rw[e5,this]
  exact⟨rfl,rfl⟩
theorem acH:aN Tryz.prog 223 Lc:=
 aN.b3 (l:=[(251,DC)]) (A:=Zb) aJ ⟨W6,trivial⟩ Tryz.func223 (by kernel_rfl) (by kernel_rfl) fun x _ _=>ajV x.1 x.2.1 x.2.2.1 x.2.2.2.1
theorem agU (n:bk) (e:Int) (i:Int) (pos:Int):ah (aj aA [(223,Lc)]) Tryz.f151 LP ar (n,e,i,pos,())=(
U (cx n.1 e i pos) fun(y4:Int×Bool)=>True/\y4.1=y4.1/\y4.2=y4.2/\True):=by kernel_rfl
theorem ads:aN Tryz.prog 151 LP:=
 aN.b3 (l:=[(223,Lc)]) (A:=fun _=>ar) aJ ⟨acH,trivial⟩ Tryz.func151 (by kernel_rfl) (by kernel_rfl) fun x _ hp=>by
  obtain⟨n,e,i,pos,u⟩:=x
  show ah (aj aA [(223,Lc)]) Tryz.f151 LP ar (n,e,i,pos,())
  rw[agU]
  simp only[U,true_and,and_true,eq_self]
theorem v54 (n:bk):ah (aj aA []) Tryz.f54 c54 ar (n,())=(
(↑n.1.2.2.1.length:Int)=(↑n.1.2.2.1.length:Int)/\True):=by kernel_rfl
theorem ahC:aN Tryz.prog 54 c54:=
 aN.b3 (l:=[]) (A:=fun _=>ar) aJ trivial Tryz.func54 (by kernel_rfl) (by kernel_rfl) fun x _ hp=>by
  obtain⟨n,u⟩:=x
  show ah (aj aA []) Tryz.f54 c54 ar (n,())
  rw[v54]
  simp only[true_and,and_true,eq_self]
theorem v99 (n:bk):ah (aj aA [(109,DK)]) Tryz.f99 VS ar (n,())=(
kK n.1/\n.1=n.1/\True):=by kernel_rfl
theorem abm:aN Tryz.prog 99 VS:=
 aN.b3 (l:=[(109,DK)]) (A:=fun _=>ar) aJ ⟨Xj,trivial⟩ Tryz.func99 (by kernel_rfl) (by kernel_rfl) fun x _ hp=>by
  obtain⟨n,u⟩:=x
  show ah (aj aA [(109,DK)]) Tryz.f99 VS ar (n,())
  rw[v99]
  exact⟨hp,rfl,trivial⟩
theorem age (s:Int×Int×Int) (e:Int):ah (aj aA []) Tryz.f250 I8 ar (s,e,())=(
(s.1==e)=(s.1==e)/\True):=by kernel_rfl
theorem acx:aN Tryz.prog 250 I8:=
 aN.b3 (l:=[]) (A:=fun _=>ar) aJ trivial Tryz.func250 (by kernel_rfl) (by kernel_rfl) fun x _ hp=>by
  obtain⟨s,e,u⟩:=x
  show ah (aj aA []) Tryz.f250 I8 ar (s,e,())
  rw[age]
  exact⟨rfl,trivial⟩
theorem agr (s:Int×Int×Int) (e:Int):ah (aj aA []) Tryz.f220 Lf ar (s,e,())=(
(s.1==e)=(s.1==e)/\True):=by kernel_rfl
theorem acK:aN Tryz.prog 220 Lf:=
 aN.b3 (l:=[]) (A:=fun _=>ar) aJ trivial Tryz.func220 (by kernel_rfl) (by kernel_rfl) fun x _ hp=>by
  obtain⟨s,e,u⟩:=x
  show ah (aj aA []) Tryz.f220 Lf ar (s,e,())
  rw[agr]
  exact⟨rfl,trivial⟩
theorem Uh (l:List (Int×Int×Int)) (v:Int×Unit):ah (aj aA [(250,I8)]) Tryz.f252 tV (EW (l,v,())) (l,v,())=(
(∃(dr:Nat),(dr<=l.length/\(List.take dr l).any (eG v.1)=false)/\(↑dr:Int)=(0:Int)/\l=l/\v=v/\(↑l.length:Int)=(↑l.length:Int)/\True)/\
∀(s2:Nat),
U (decide ((↑s2:Int)<(↑l.length:Int))) fun(y3:Bool)=>
U ((l.getD (↑s2:Int).toNat ((0:Int),(0:Int),(0:Int))).1==v.1) fun(y4:Bool)=>
s2<=l.length/\(List.take s2 l).any (eG v.1)=false->
(y3=true->
aL (↑s2:Int) l.length/\
True/\
(y4=true->(↑s2:Int)=fp (eG v.1) l/\True)/\
(y4=false->
bo IntKind.i64 ((↑s2:Int)+(1:Int))/\
∃(gO:Nat),
(gO<=l.length/\(List.take gO l).any (eG v.1)=false)/\
l.length - gO<l.length - s2/\(↑gO:Int)=(↑s2:Int)+(1:Int)/\l=l/\v=v/\(↑l.length:Int)=(↑l.length:Int)/\True))/\
(y3=false->(-1:Int)=fp (eG v.1) l/\True)):=by kernel_rfl
theorem Wc (l:List cu) (v:Int×Unit) (hw:l.length<=1000):ah (aj aA [(250,I8)]) Tryz.f252 tV (EW (l,v,())) (l,v,()):=by
 rw[Uh]
 simp only[true_and,and_true,eq_self]
 refine⟨⟨0,⟨by omega,by simp⟩,by omega⟩,fun s=>U.mk fun y4 e4=>U.mk fun y5 e5=> ?_⟩
 rintro⟨h1,h2⟩
 rw[Int.toNat_natCast] at e5
 refine⟨fun hs=> ?_,fun hs=> ?_⟩
 ·have hs:=aZ e4 hs
  refine⟨⟨by omega,by omega⟩,fun e=> ?_,fun e=>⟨aY (by omega) (by omega),s+1,⟨by omega,?_⟩,by omega,by omega⟩⟩
  ·exact rX iC hs h2 (by show((l.getD s iC).1==v.1)=true;rw[<-e];exact e5.symm)
  ·exact any_succ iC hs h2 (by show((l.getD s iC).1==v.1)=false;rw[<-e];exact e5.symm)
 ·exact qp (s:=s) (bt e4 hs) h2
theorem Rb:aN Tryz.prog 252 tV:=
 aN.b3 (l:=[(250,I8)]) (A:=EW) aJ ⟨acx,trivial⟩ Tryz.func252 (by kernel_rfl) (by kernel_rfl) fun x hw hp=>Wc x.1 x.2.1 hp
theorem Ui (l:List (Int×Int×Int)) (v:Int×Unit):ah (aj aA [(2510252,tV)]) Tryz.f219 tW ar (l,v,())=(
l.length<=(1000:Nat)/\decide (fp (eG v.1) l>=(0:Int))=l.any (eG v.1)/\True):=by kernel_rfl
theorem Rc:aN Tryz.prog 219 tW:=
 aN.b3 (l:=[(2510252,tV)]) (A:=fun _=>ar) aJ ⟨Rb,trivial⟩ Tryz.func219 (by kernel_rfl) (by kernel_rfl) fun x hw hp=>by
  obtain⟨l,v,u⟩:=x
  show ah (aj aA [(2510252,tV)]) Tryz.f219 tW ar (l,v,())
  rw[Ui]
  exact⟨hp,p9,trivial⟩
theorem Uj (l:List (Int×Int×Int)) (v:Int×Unit):ah (aj aA [(220,Lf)]) Tryz.f252 tX (EX (l,v,())) (l,v,())=(
(∃(dr:Nat),(dr<=l.length/\(List.take dr l).any (eG v.1)=false)/\(↑dr:Int)=(0:Int)/\l=l/\v=v/\(↑l.length:Int)=(↑l.length:Int)/\True)/\
∀(s2:Nat),
U (decide ((↑s2:Int)<(↑l.length:Int))) fun(y3:Bool)=>
U ((l.getD (↑s2:Int).toNat ((0:Int),(0:Int),(0:Int))).1==v.1) fun(y4:Bool)=>
s2<=l.length/\(List.take s2 l).any (eG v.1)=false->
(y3=true->
aL (↑s2:Int) l.length/\
True/\
(y4=true->(↑s2:Int)=fp (eG v.1) l/\True)/\
(y4=false->
bo IntKind.i64 ((↑s2:Int)+(1:Int))/\
∃(gO:Nat),
(gO<=l.length/\(List.take gO l).any (eG v.1)=false)/\
l.length - gO<l.length - s2/\(↑gO:Int)=(↑s2:Int)+(1:Int)/\l=l/\v=v/\(↑l.length:Int)=(↑l.length:Int)/\True))/\
(y3=false->(-1:Int)=fp (eG v.1) l/\True)):=by kernel_rfl
theorem Wd (l:List cu) (v:Int×Unit) (hw:l.length<=1000):ah (aj aA [(220,Lf)]) Tryz.f252 tX (EX (l,v,())) (l,v,()):=by
 rw[Uj]
 simp only[true_and,and_true,eq_self]
 refine⟨⟨0,⟨by omega,by simp⟩,by omega⟩,fun s=>U.mk fun y4 e4=>U.mk fun y5 e5=> ?_⟩
 rintro⟨h1,h2⟩
 rw[Int.toNat_natCast] at e5
 refine⟨fun hs=> ?_,fun hs=> ?_⟩
 ·have hs:=aZ e4 hs
  refine⟨⟨by omega,by omega⟩,fun e=> ?_,fun e=>⟨aY (by omega) (by omega),s+1,⟨by omega,?_⟩,by omega,by omega⟩⟩
  ·exact rX iC hs h2 (by show((l.getD s iC).1==v.1)=true;rw[<-e];exact e5.symm)
  ·exact any_succ iC hs h2 (by show((l.getD s iC).1==v.1)=false;rw[<-e];exact e5.symm)
 ·exact qp (s:=s) (bt e4 hs) h2
theorem Rh:aN Tryz.prog 252 tX:=
 aN.b3 (l:=[(220,Lf)]) (A:=EX) aJ ⟨acK,trivial⟩ Tryz.func252 (by kernel_rfl) (by kernel_rfl) fun x hw hp=>Wd x.1 x.2.1 hp
theorem Uk (l:List (Int×Int×Int)) (v:Int×Unit):ah (aj aA [(2210252,tX)]) Tryz.f219 tY ar (l,v,())=(
l.length<=(1000:Nat)/\decide (fp (eG v.1) l>=(0:Int))=l.any (eG v.1)/\True):=by kernel_rfl
theorem Ri:aN Tryz.prog 219 tY:=
 aN.b3 (l:=[(2210252,tX)]) (A:=fun _=>ar) aJ ⟨Rh,trivial⟩ Tryz.func219 (by kernel_rfl) (by kernel_rfl) fun x hw hp=>by
  obtain⟨l,v,u⟩:=x
  show ah (aj aA [(2210252,tX)]) Tryz.f219 tY ar (l,v,())
  rw[Uk]
  exact⟨hp,p9,trivial⟩
theorem Q5 (r:af) (e:Int):r.2.2.2.1.any (eG e)=kI r e:=by
 unfold kI bN cw
 rw[List.any_map]
 rfl
theorem v146 (r:af) (e:Int):ah (aj aA [(2210219,tY)] [] [(220,.pair (.ref I) .unit)]) Tryz.f146 LS ar (r,e,())=(
r.2.2.2.1.length<=(1000:Nat)/\r.2.2.2.1.any (eG e)=kI r e/\True):=by kernel_rfl
theorem adw:aN Tryz.prog 146 LS:=
 aN.b3 (l:=[(2210219,tY)]) (wraps:=[]) (clos:=[(220,.pair (.ref I) .unit)]) (A:=fun _=>ar) aJ ⟨Ri,trivial⟩ Tryz.func146 (by kernel_rfl) (by kernel_rfl) fun x hw hp=>by
  obtain⟨r,e,u⟩:=x
  show ah (aj aA [(2210219,tY)] [] [(220,.pair (.ref I) .unit)]) Tryz.f146 LS ar (r,e,())
  rw[v146]
  exact⟨hp,Q5 r e,trivial⟩
theorem ag0 (l:List (Int×Int×Int)):ah (aj aA []) Tryz.f142 DH ar (l,())=(
U (List.replicate (0:Nat) ((0:Int),(0:Int),(0:Int))) fun(y1:List (Int×Int×Int))=>
∀(b2:Bool),(b2=true->l=[])->(b2=true->[]=l/\True)/\(b2=false->roomFor (y1.length+l.length) (24:Nat)/\y1++l=l/\True)):=by kernel_rfl
theorem Xe:aN Tryz.prog 142 DH:=
 aN.b3 (l:=[]) (A:=fun _=>ar) aJ trivial Tryz.func142 (by kernel_rfl) (by kernel_rfl) fun x _ hp=>by
  obtain⟨l,u⟩:=x
  show ah (aj aA []) Tryz.f142 DH ar (l,())
  rw[ag0]
  refine U.mk fun y1 e1=>fun b hb=>⟨fun h=>⟨(hb h).symm,trivial⟩,fun h=>⟨r7 hp (by rw[e1];rfl) (by decide),by rw[e1];rfl,trivial⟩⟩
theorem agu (p:Int×List (Int×Int×Int)×List Int×List (List (Int×Int))) (e:Int):ah (aj aA [(2510219,tW)] [] [(250,.pair (.ref I) .unit)]) Tryz.f215 Lj ar (p,e,())=(
U (bif decide ((↑p.2.1.length:Int)<(12:Int)) then e !=p.1 else false) fun(y2:Bool)=>
(y2=true->p.2.1.length<=(1000:Nat))/\(bif y2 then !p.2.1.any (eG e) else false)=KS p e/\True):=by kernel_rfl
theorem acO:aN Tryz.prog 215 Lj:=
 aN.b3 (l:=[(2510219,tW)]) (wraps:=[]) (clos:=[(250,.pair (.ref I) .unit)]) (A:=fun _=>ar) aJ ⟨Rc,trivial⟩ Tryz.func215 (by kernel_rfl) (by kernel_rfl) fun x hw hp=>by
  obtain⟨p,e,u⟩:=x
  show ah (aj aA [(2510219,tW)] [] [(250,.pair (.ref I) .unit)]) Tryz.f215 Lj ar (p,e,())
  rw[agu]
  refine U.mk fun y2 e2=>⟨fun _=>hp,?_,trivial⟩
  rw[e2,ltN _ 12 12 rfl]
  unfold KS
  rw[show decide (p.2.1.length<12)= !decide (12<=p.2.1.length) by by_cases h:12<=p.2.1.length<;>simp[h]<;>omega]
  rw[iy]
  cases decide (12<=p.2.1.length)<;>cases (e==p.1)<;>cases (p.2.1.any (eG e))<;>rfl
theorem agt (p:Int×List (Int×Int×Int)×List Int×List (List (Int×Int))) (n:bk) (x:Int×Int):bS (aj aA [(251,DC)]) Tryz.f216 Li ar (p,n,x,())=(
U ((List.replicate (1:Nat) ((0:Int),(0:Int),(0:Int))).set (0:Nat) (x.1,x.2,(-1:Int))) fun(y3:List (Int×Int×Int))=>
U ((List.replicate (1:Nat) (0:Int)).set (0:Nat) (0:Int)) fun(y4:List Int)=>
U ((List.replicate (1:Nat) []).set (0:Nat) (bG n.1 x.1 x.2)) fun(y5:List (List (Int×Int)))=>
U (zQ p n x).2.2 fun(y6:List Int×List (List (Int×Int)))=>
roomFor (p.2.1.length+y3.length) (24:Nat)/\
roomFor (p.2.2.1.length+y4.length) (8:Nat)/\
True/\
roomFor (p.2.2.2.length+y5.length) (24:Nat)/\
p.1=(zQ p n x).1/\p.2.1++y3=(zQ p n x).2.1/\p.2.2.1++y4=y6.1/\p.2.2.2++y5=y6.2/\True):=by kernel_rfl
theorem acN:fq Tryz.prog 216 Li:=
 fq.b3 (l:=[(251,DC)]) (A:=fun _=>ar) aJ ⟨W6,trivial⟩ Tryz.func216 (by kernel_rfl) (by kernel_rfl) fun x hw hp=>by
  obtain⟨p,n,y,u⟩:=x
  show bS (aj aA [(251,DC)]) Tryz.f216 Li ar (p,n,y,())
  obtain⟨h1,h2,h3⟩:=hp
  have h1:p.2.1.length<=1000:=h1
  have h2:p.2.2.1.length=p.2.1.length:=h2
  have h3:p.2.2.2.length=p.2.1.length:=h3
  rw[agt]
  refine U.mk fun y3 e3=>U.mk fun y4 e4=>U.mk fun y5 e5=>U.mk fun y6 e6=> ?_
  have l3:y3.length=1:=by rw[e3];rfl
  have l4:y4.length=1:=by rw[e4];rfl
  have l5:y5.length=1:=by rw[e5];rfl
  refine⟨cT (by omega) (by decide),cT (by omega) (by decide),trivial,cT (by omega) (by decide),?_⟩
  rw[e6,e3,e4,e5]
  unfold zQ
  exact⟨rfl,rfl,rfl,rfl,trivial⟩
theorem HL (p:kE):∀k,(fU p k).length<=k
 |0=>Nat.le_refl _
 |k+1=>by
  have:=HL p k
  show(fU p k++mW p k).length<=_
  rw[List.length_append]
  have:(mW p k).length<=1:=by unfold mW;cases (p.2.2.1.getD k 0 !=0)<;>simp
  omega
theorem ags (p:Int×List (Int×Int×Int)×List Int×List (List (Int×Int))) (s:Int) (to:Int) (stop:Int):bS (aj aA [(142,DH)]) Tryz.f217 Lh (Zc (p,s,to,stop,())) (p,s,to,stop,())=(
cR p.2.1/\
(∃(wz:Nat),
wz<=p.2.1.length/\
(↑wz:Int)=(0:Int)/\
(↑p.2.1.length:Int)=(↑p.2.1.length:Int)/\
s=s/\
to=to/\
stop=stop/\
false=false/\
p.2.1=p.2.1/\
fU p wz=[]/\
(0:Int)=(0:Int)/\
(0:Int)=(0:Int)/\
(0:Int)=(0:Int)/\false=false/\p.1=p.1/\p.2.1=p.2.1/\p.2.2.1=p.2.2.1/\p.2.2.2=p.2.2.2/\True)/\
∀(s4:Nat),
U (decide ((↑s4:Int)<(↑p.2.1.length:Int))) fun(y5:Bool)=>
U (p.2.2.1.getD (↑s4:Int).toNat (0:Int)) fun(y6:Int)=>
U ((List.replicate (1:Nat) ((0:Int),(0:Int))).set (0:Nat) ((p.2.1.getD (↑s4:Int).toNat ((0:Int),(0:Int),(0:Int))).1,y6)) fun(y7:List (Int×Int))=>
s4<=p.2.1.length->
(y5=true->
aL (↑s4:Int) p.2.1.length/\
aL (↑s4:Int) p.2.2.1.length/\
((y6 !=(0:Int))=true->
aL (↑s4:Int) p.2.2.1.length/\
roomFor ((fU p s4).length+y7.length) (16:Nat)/\
bo IntKind.i64 ((↑s4:Int)+(1:Int))/\
∃(jq:Nat),
jq<=p.2.1.length/\
p.2.1.length - jq<p.2.1.length - s4/\
(↑jq:Int)=(↑s4:Int)+(1:Int)/\
(↑p.2.1.length:Int)=(↑p.2.1.length:Int)/\
s=s/\
to=to/\
stop=stop/\
false=false/\
p.2.1=p.2.1/\
fU p jq=fU p s4++y7/\
(0:Int)=(0:Int)/\
(0:Int)=(0:Int)/\
(0:Int)=(0:Int)/\
false=false/\p.1=p.1/\p.2.1=p.2.1/\p.2.2.1=p.2.2.1/\p.2.2.2=p.2.2.2/\True)/\
((y6 !=(0:Int))=false->
bo IntKind.i64 ((↑s4:Int)+(1:Int))/\
∃(jq:Nat),
jq<=p.2.1.length/\
p.2.1.length - jq<p.2.1.length - s4/\
(↑jq:Int)=(↑s4:Int)+(1:Int)/\
(↑p.2.1.length:Int)=(↑p.2.1.length:Int)/\
s=s/\
to=to/\
stop=stop/\
false=false/\
p.2.1=p.2.1/\
fU p jq=fU p s4/\
(0:Int)=(0:Int)/\
(0:Int)=(0:Int)/\
(0:Int)=(0:Int)/\
false=false/\p.1=p.1/\p.2.1=p.2.1/\p.2.2.1=p.2.2.1/\p.2.2.2=p.2.2.2/\True))/\
(y5=false->
(s,to,stop,p.2.1,fU p s4,[],[],[],false)=iO p s to stop/\
p.1=p.1/\p.2.1=p.2.1/\p.2.2.1=p.2.2.1/\p.2.2.2=p.2.2.2/\True)):=by kernel_rfl
theorem ajY (p:kE) (s to stop:Int) (hp:kd p):bS (aj aA [(142,DH)]) Tryz.f217 Lh (Zc (p,s,to,stop,())) (p,s,to,stop,()):=by
 obtain⟨h1,h2,h3⟩:=hp
 rw[ags]
 simp only[true_and,and_true,eq_self]
 refine⟨h1,⟨0,by omega,rfl,rfl⟩,fun k=>U.mk fun y5 e5=>U.mk fun y6 e6=>U.mk fun y7 e7=>fun hk=>⟨fun h=> ?_,fun h=> ?_⟩⟩
 ·have vk:=aZ e5 h
  have hn:=HL p k
  have l7:y7.length=1:=by rw[e7];rfl
  rw[Int.toNat_natCast] at e6 e7
  refine⟨⟨by omega,by omega⟩,⟨by omega,by omega⟩,fun h6=>⟨⟨by omega,by omega⟩,cT (by omega) (by decide),aY (by omega) (by omega),k+1,by omega,by omega,by omega,?_⟩,fun h6=>⟨aY (by omega) (by omega),k+1,by omega,by omega,by omega,?_⟩⟩
  ·show fU p k++mW p k=_
   unfold mW
   rw[<-e6,h6,e7]
   rfl
  ·show fU p k++mW p k=_
   unfold mW
   rw[<-e6,h6]
   exact List.append_nil _
 ·have vk:=bt e5 h
  have:k=p.2.1.length:=by omega
  subst this
  unfold iO
  rfl
theorem acM:fq Tryz.prog 217 Lh:=
 fq.b3 (l:=[(142,DH)]) (A:=Zc) aJ ⟨Xe,trivial⟩ Tryz.func217 (by kernel_rfl) (by kernel_rfl) fun x hw hp=>ajY x.1 x.2.1 x.2.2.1 x.2.2.2.1 hp
theorem v218 (p:Int×List (Int×Int×Int)×List Int×List (List (Int×Int))):bS (aj aA []) Tryz.f218 Lg ar (p,())=(
U ((↑p.2.1.length:Int) - (1:Int)) fun(y1:Int)=>
bo IntKind.i64 y1/\
((0:Int)<=y1/\y1<=(↑p.2.1.length:Int))/\
((0:Int)<=y1/\y1<=(↑p.2.2.1.length:Int))/\
((0:Int)<=y1/\y1<=(↑p.2.2.2.length:Int))/\
(0:Nat)<p.2.1.length/\
(0:Nat)<p.2.2.1.length/\
(0:Nat)<p.2.2.2.length/\
p.1=(ou p).1/\
List.take y1.toNat p.2.1=(ou p).2.1/\List.take y1.toNat p.2.2.1=(ou p).2.2.1/\List.take y1.toNat p.2.2.2=(ou p).2.2.2/\True):=by kernel_rfl
theorem acL:fq Tryz.prog 218 Lg:=
 fq.b3 (l:=[]) (A:=fun _=>ar) aJ trivial Tryz.func218 (by kernel_rfl) (by kernel_rfl) fun x hw hp=>by
  obtain⟨p,u⟩:=x
  show bS (aj aA []) Tryz.f218 Lg ar (p,())
  obtain⟨⟨h1,h2,h3⟩,h4⟩:=hp
  have h1:p.2.1.length<=1000:=h1
  have h2:p.2.2.1.length=p.2.1.length:=h2
  have h3:p.2.2.2.length=p.2.1.length:=h3
  have h4:0<p.2.1.length:=h4
  rw[v218]
  refine U.mk fun y1 e1=> ?_
  have e:y1.toNat=p.2.1.length - 1:=by omega
  refine⟨aY (by omega) (by omega),⟨by omega,by omega⟩,⟨by omega,by omega⟩,⟨by omega,by omega⟩,by omega,by omega,by omega,?_⟩
  rw[e]
  unfold ou
  exact⟨rfl,rfl,rfl,rfl,trivial⟩
def dJ (gs:List di):List Int:=gs.reverse.map fun f=>f.2.1
def bU (gs:List di):List (List (Int×Int)):=gs.reverse.map fun f=>f.2.2
def wL:List Nat->Nat
 |[]=>0
 |n::ns=>1+n*(1+wB (12 - ns.length))+wL ns
def YU (S:St):List Nat:=
 match find S.bl 35 with
 |some (.cells [_,_,_,.row _ id])=>(match find S.bl id with
  |some (.row _ _ (.list _) xs)=>(xs.map fun l=>(Ty.L l).length).reverse
  |_=>[])
 |_=>[]
def pq (n:bk):Prop:=n=nf n.1/\bX n.1=0
def YP:bg where
 args:=[.ref jx,I]
 out:= .data [.list eH]
 pre:=fun(x:bk×Int×Unit)=>pq x.1
 fn:=fun(x:bk×Int×Unit)=>(py x.1.1 x.2.1,())
def cd (n:bk) (s:Int):Int:=(lL n.1 s).1.1
def zV (n:bk) (s:Int) (g:(List di×ak)×List af):Prop:=g.2++sr n.1 s (cd n s) g.1.2 g.1.1=py n.1 s/\g.1.1.length<=12
def jM (n:bk) (s:Int) (w:Nat) (g:List di×List af):Prop:=g.2++nE n.1 s (cd n s) g.1=py n.1 s/\g.1.length<=12/\wF g.1<=w
def a141 (x:bk×Int×Unit):eA:=bh [
 (9,fun _=>{
  σ:=(List di×ak)×List af
  ok:=fun g=>zV x.1 x.2.1 g
  mu:=fun g=>wE g.1.1
  sl:=fun g=>[(8,.one (.row eH 1000)),(9,.one (.ptr 35 0))]
  bl:=fun g=>[(7,.cells [.aG I g.1.2.1,.aG I g.1.2.2]),(35,.cells [.aG I (cd x.1 x.2.1),.row kD 1001,.row I 1002,.row (.list Gg) 1003]),
   (1001,.row false 76 kD (bj g.1.1)),(1002,.row false 3 I (dJ g.1.1)),(1003,.row false 289 (.list Gg) (bU g.1.1)),(1000,.row false 49 eH g.2)]
  keep:=[0,1,5,7]
  cv:=[5]}),
 (13,fun S=>{
  σ:=List di×List af
  ok:=fun g=>jM x.1 x.2.1 (wL (YU S)) g
  mu:=fun g=>wF g.1
  sl:=fun g=>[(8,.one (.row eH 1000)),(9,.one (.ptr 35 0))]
  bl:=fun g=>[(35,.cells [.aG I (cd x.1 x.2.1),.row kD 1001,.row I 1002,.row (.list Gg) 1003]),
   (1001,.row false 76 kD (bj g.1)),(1002,.row false 3 I (dJ g.1)),(1003,.row false 289 (.list Gg) (bU g.1)),(1000,.row false 49 eH g.2)]
  keep:=[0,1,5,7]
  cv:=[5,7]})]
theorem Xm {p:ab} {x:ak} (h:(bx p x).2=false):(bx p x).1=(0,0):=by
 unfold bx at *
 generalize (p.2.1.find? fun j=>j.1==x||j.2==x)=o at *
 cases o with
 |none=>rfl
 |some j=>unfold xF at h;revert h;cases (j.1==x)<;>intro h<;>cases h
theorem tP {n:bk} (h:pq n) (x:ak):fo n x=bx n.1 x:=by
 have e:n.2.1=dU n.1:=(congrArg (fun m:bk=>m.2.1) h.1).trans (by unfold nf;rfl)
 unfold fo
 rw[e,mU]
 cases hb:(bx n.1 x).2 with
 |true=>
  show((bx n.1 x).1,true)=bx n.1 x
  rw[<-hb]
 |false=>
  show((0,0),false)=bx n.1 x
  rw[<-hb,<-Xm hb]
theorem CT (a:Ty) {β:Type} (k:a.den):∀(l m:List (a.den×β)),aW a (l++m) k=(aW a l k).or (aW a m k)
 |[],m=>by rfl
 |(x,v)::l,m=>by
  have ih:=CT a k l m
  show(bif a.jc k x then some v else aW a (l++m) k)=(bif a.jc k x then some v else aW a l k).or (aW a m k)
  cases a.jc k x with
  |true=>rfl
  |false=>exact ih
theorem Hy (p:ab) (x:ak):∀k,aW aO (gH p k) x=Option.map (fun(i:Nat)=>(i:Int)) (gI (fF p x) k)
 |0=>rfl
 |k+1=>by
  show aW aO (gH p k++[((p.2.2.1.getD k zS).2.1,(k:Int))]) x=_
  rw[CT,Hy p x k]
  unfold gI
  rw[List.range_succ,List.find?_append]
  cases (List.range k).find? (fF p x) with
  |some i=>rfl
  |none=>
   show(bif Ty.jc aO x (p.2.2.1.getD k zS).2.1 then some (k:Int) else none)=Option.map _ ([k].find? (fF p x))
   rw[FL,fI]
   show(bif fF p x k then some (k:Int) else none)=Option.map _ ([k].find? (fF p x))
   rw[List.find?_singleton]
   cases fF p x k<;>rfl
theorem HK {n:bk} (h:pq n) (x:ak):kQ n x=cc n.1 x:=by
 have e:n.2.2.1=gH n.1 n.1.2.2.1.length:=(congrArg (fun m:bk=>m.2.2.1) h.1).trans (by unfold nf;show zO n.1=_;unfold zO;rfl)
 have e2:cc n.1 x=wa (gI (fF n.1 x) n.1.2.2.1.length):=by unfold cc;rfl
 unfold kQ
 rw[e,Hy,e2]
 cases gI (fF n.1 x) n.1.2.2.1.length<;>rfl
theorem tN (f:di) (gs:List di):dJ (f::gs)=dJ gs++[f.2.1]:=by
 unfold dJ;rw[List.reverse_cons,List.map_append];rfl
theorem rO (f:di) (gs:List di):bU (f::gs)=bU gs++[f.2.2]:=by
 unfold bU;rw[List.reverse_cons,List.map_append];rfl
theorem wM (gs:List di):(dJ gs).length=gs.length:=by unfold dJ;simp
theorem tR (gs:List di):(bU gs).length=gs.length:=by unfold bU;simp
theorem rV {α:Type} (d x:α) (l:List α) {n:Nat} (h:n=l.length):(l++[x]).getD n d=x:=by
 subst h;simp[List.getD_eq_getElem?_getD]
theorem Eg {α:Type} (x y:α) (l:List α) {n:Nat} (h:n=l.length):(l++[x]).set n y=l++[y]:=by
 subst h;rw[List.set_append_right _ _ (Nat.le_refl _),Nat.sub_self];rfl
def mf (b:Int) (gs:List di):kE:=(b,bj gs,dJ gs,bU gs)
theorem ND (b:Int) {gs:List di} (h:gs.length<=1000):kd (mf b gs):=⟨by show(bj gs).length<=1000;rw[fK];exact h,by show(dJ gs).length=(bj gs).length;rw[wM,fK],by show(bU gs).length=(bj gs).length;rw[tR,fK]⟩
theorem aaW (b:Int) (f:di) (gs:List di):ou (mf b (f::gs))=mf b gs:=by
 unfold ou
 show(b,(bj (f::gs)).take ((bj (f::gs)).length - 1),(dJ (f::gs)).take ((bj (f::gs)).length - 1),(bU (f::gs)).take ((bj (f::gs)).length - 1))=(b,bj gs,dJ gs,bU gs)
 rw[fK,jT,tN,rO]
 have t:∀{α:Type} (l:List α) (x:α),l.length=gs.length->(l++[x]).take ((f::gs).length - 1)=l:=fun l x h=>by
  rw[show(f::gs).length - 1=l.length by rw[h];rfl]
  exact List.take_left' rfl
 rw[t _ _ (fK gs),t _ _ (wM gs),t _ _ (tR gs)]
theorem Yr (b:Int) (n:bk) (x:ak) (gs:List di):zQ (mf b gs) n x=mf b (((x.1,x.2, -1),0,bG n.1 x.1 x.2)::gs):=by
 unfold zQ
 show _=(b,bj (_::gs),dJ (_::gs),bU (_::gs))
 rw[jT,tN,rO]
 rfl
theorem Ks (b:Int):∀(gs:List di),fU (mf b gs) gs.length=wO gs
 |[]=>rfl
 |f::gs=>by
  have ih:=Ks b gs
  rw[sj,<-ih]
  show fU (mf b (f::gs)) gs.length++mW (mf b (f::gs)) gs.length=_
  congr 1
  ·have:∀k,k<=gs.length->fU (mf b (f::gs)) k=fU (mf b gs) k:=fun k=>by
    induction k with
    |zero=>intro _;rfl
    |succ k ih=>
     intro hk
     show fU _ k++mW _ k=fU _ k++mW _ k
     rw[ih (by omega)]
     congr 1
     unfold mW
     show(bif(dJ (f::gs)).getD k 0 !=0 then[(((bj (f::gs)).getD k iC).1,(dJ (f::gs)).getD k 0)] else[])=(bif(dJ gs).getD k 0 !=0 then[(((bj gs).getD k iC).1,(dJ gs).getD k 0)] else[])
     have g:∀{α:Type} (l:List α) (x d:α),l.length=gs.length->(l++[x]).getD k d=l.getD k d:=fun l x d h=>by
      simp[List.getD_eq_getElem?_getD,List.getElem?_append_left (show k<l.length by omega)]
     rw[tN,jT,g _ _ _ (wM gs),g _ _ _ (fK gs)]
   exact this gs.length (Nat.le_refl _)
  ·unfold mW
   show(bif(dJ (f::gs)).getD gs.length 0 !=0 then[(((bj (f::gs)).getD gs.length iC).1,(dJ (f::gs)).getD gs.length 0)] else[])=_
   rw[tN,jT,rV 0 _ _ (wM gs).symm,rV iC _ _ (fK gs).symm]
   unfold NF
   rw[iy]
   cases (f.2.1==0)<;>rfl
theorem IB (b s to stop:Int) (gs:List di):iO (mf b gs) s to stop=oY s gs stop to:=by
 unfold iO oY
 show(s,to,stop,bj gs,fU (mf b gs) (bj gs).length,_,_,_,_)=_
 rw[fK,Ks]
theorem QX (s stop to:Int) (st:cu) (pos:Int) (l l':List (Int×Int)) (gs:List di):oY s ((st,pos,l)::gs) stop to=oY s ((st,pos,l')::gs) stop to:=by
 unfold oY
 rw[jT,jT,sj,sj]
 rfl
theorem aaX (b:Int) (gs:List di) (x:ak):KS (mf b gs) x.1=Bd b gs x:=by
 unfold KS Bd
 show(decide ((bj gs).length<12)&&(!(x.1==b)&& !(bj gs).any (eG x.1)))=_
 rw[fK]
 congr 1
 have:bN (oL b gs) x.1=((x.1==b)||(bj gs).any (eG x.1)):=by
  unfold bN oL bj
  rw[List.any_cons,List.any_map,List.any_map,fI b]
  rfl
 rw[this]
 cases (x.1==b)<;>rfl
theorem xh:∀(gs:List di),wF gs=wL ((bU gs).map fun l=>l.length).reverse
 |[]=>rfl
 |f::gs=>by
  have ih:=xh gs
  rw[rO,List.map_append,List.reverse_append]
  show 1+f.2.2.length*(1+wB (12 - gs.length))+wF gs=1+f.2.2.length*(1+wB (12 - (((bU gs).map fun l=>l.length).reverse).length))+wL (((bU gs).map fun l=>l.length).reverse)
  rw[<-ih,List.length_reverse,List.length_map,tR]
theorem UI {n:bk} {s:Int} {w:Nat} {g:List di×List af} (h:jM n s w g):g.2.length<=8192:=by
 have h1:=congrArg List.length h.1
 rw[List.length_append] at h1
 have:=CK n.1 s
 omega
theorem VK {n:bk} {s:Int} {g:(List di×ak)×List af} (h:zV n s g):g.2.length<=8192:=by
 have h1:=congrArg List.length h.1
 rw[List.length_append] at h1
 have:=CK n.1 s
 omega
theorem EA (n:bk) (s:Int) (W:Nat) (y4 y5:Int) (y6:List af) (s7:(List di×ak)×List af) (hn:pq n) (hW:W<wE s7.fst.fst) (e6:y6=List.replicate 1 (0,0,0,[],[],[],[],[],false)):
(∀(bM:List di×List af),
U (decide ((↑(bj bM.fst).length:Int)>(0:Int))) fun(cL:Bool)=>
U ((↑(bj bM.fst).length:Int) - (1:Int)) fun(bC:Int)=>
U ((bU bM.fst).getD bC.toNat []) fun(cC:List (Int×Int))=>
U (cd n s,bj bM.fst,dJ bM.fst,bU bM.fst)
fun(cy:Int×List (Int×Int×Int)×List Int×List (List (Int×Int)))=>
U ((bj bM.fst).getD bC.toNat ((0:Int),(0:Int),(0:Int))) fun(dN:Int×Int×Int)=>
U (cC.getD (Int.toNat (0:Int)) ((0:Int),(0:Int))) fun(fw:Int×Int)=>
U ((bj bM.fst).set bC.toNat (dN.fst,dN.snd.fst,fw.fst)) fun(du:List (Int×Int×Int))=>
U ((du.getD bC.toNat ((0:Int),(0:Int),(0:Int))).fst,fw.fst) fun(eL:Int×Int)=>
U (decide (kQ n eL>=(0:Int))) fun(dt:Bool)=>
U ((dJ bM.fst).set bC.toNat fw.snd) fun(eC:List Int)=>
U ((bU bM.fst).set bC.toNat (List.drop (Int.toNat (1:Int)) cC)) fun(im:List (List (Int×Int)))=>
U (cd n s,du,eC,im) fun(iY:Int×List (Int×Int×Int)×List Int×List (List (Int×Int)))=>
U (y6.set (0:Nat) (iO iY s (kQ n eL) (1:Int)))
fun
(jQ:
List (Int×Int×Int×List (Int×Int×Int)×List (Int×Int)×List (Int×Int)×List Int×List Int×Bool))=>
U (y6.set (0:Nat) (iO iY s (-1:Int) (3:Int)))
fun
(lF:
List (Int×Int×Int×List (Int×Int×Int)×List (Int×Int)×List (Int×Int)×List Int×List Int×Bool))=>
jM n s W bM->
(cL=true->
bo IntKind.i64 bC/\
aL bC (bU bM.fst).length/\
(((↑cC.length:Int)==(0:Int))=true->
(kd cy/\(0:Nat)<(bj bM.fst).length)/\
∃(aq:List di×List af),
jM n s W aq/\
wF aq.fst<wF bM.fst/\
[n]=[n]/\
(0:Nat)=(0:Nat)/\
s=s/\
cd n s=(ou cy).fst/\
bj aq.fst=(ou cy).snd.fst/\
dJ aq.fst=(ou cy).snd.snd.fst/\
bU aq.fst=(ou cy).snd.snd.snd/\
aq.snd=bM.snd/\
y4=y4/\
y5=y5/\
s7.fst.snd.fst=s7.fst.snd.fst/\s7.fst.snd.snd=s7.fst.snd.snd/\True)/\
(((↑cC.length:Int)==(0:Int))=false->
aL bC (bU bM.fst).length/\
aL (0:Int) cC.length/\
aL bC (bU bM.fst).length/\
((0:Int)<=(1:Int)/\(1:Int)<=(↑cC.length:Int))/\
aL bC (bU bM.fst).length/\
aL bC (bj bM.fst).length/\
aL bC (dJ bM.fst).length/\
aL bC du.length/\
True/\
(dt=true->
kd iY/\
roomFor (bM.snd.length+jQ.length) (152:Nat)/\
∃(aq:List di×List af),
jM n s
W
aq/\
wF aq.fst<wF bM.fst/\
[n]=[n]/\
(0:Nat)=(0:Nat)/\
s=s/\
cd n s=cd n s/\
bj aq.fst=du/\
dJ aq.fst=eC/\
bU aq.fst=im/\
aq.snd=bM.snd++jQ/\
y4=y4/\
y5=y5/\
s7.fst.snd.fst=s7.fst.snd.fst/\
s7.fst.snd.snd=s7.fst.snd.snd/\True)/\
(dt=false->
True/\
((!(fo n eL).snd)=true->
kd iY/\
roomFor (bM.snd.length+lF.length) (152:Nat)/\
∃(aq:List di×List af),
jM n s
W
aq/\
wF aq.fst<wF bM.fst/\
[n]=[n]/\
(0:Nat)=(0:Nat)/\
s=s/\
cd n s=cd n s/\
bj aq.fst=du/\
dJ aq.fst=eC/\
bU aq.fst=im/\
aq.snd=bM.snd++lF/\
y4=y4/\
y5=y5/\
s7.fst.snd.fst=s7.fst.snd.fst/\
s7.fst.snd.snd=s7.fst.snd.snd/\True)/\
((!(fo n eL).snd)=false->
∃(aq:(List di×ak)×List af),
zV n s aq/\
wE aq.fst.fst<wE s7.fst.fst/\
[n]=[n]/\
(0:Nat)=(0:Nat)/\
s=s/\
aq.fst.snd.fst=(fo n eL).fst.fst/\
aq.fst.snd.snd=(fo n eL).fst.snd/\
cd n s=cd n s/\
bj aq.fst.fst=du/\
dJ aq.fst.fst=eC/\
bU aq.fst.fst=im/\
aq.snd=bM.snd/\y4=y4/\y5=y5/\True))))/\
(cL=false->bM.snd=py n.fst s/\True)):=by
 intro bM
 refine U.mk fun cL j5=>U.mk fun bC iJ=>U.mk fun cC k7=>U.mk fun cy jF=>U.mk fun dN oh=>U.mk fun fw mH=>U.mk fun du og=>U.mk fun eL rr=>U.mk fun dt q9=>U.mk fun eC wh=>U.mk fun im yA=>U.mk fun iY w5=>U.mk fun jQ x5=>U.mk fun lF EO=>fun mY=> ?_
 have hlen:=UI mY
 obtain⟨gs,out⟩:=bM
 obtain⟨h1,h2,h3⟩:=mY
 have h1:out++nE n.1 s (cd n s) gs=py n.1 s:=h1
 have h2:gs.length<=12:=h2
 have h3:wF gs<=W:=h3
 have hlen:out.length<=8192:=hlen
 cases gs with
 |nil=>
  have:cL=false:=by rw[j5];rfl
  refine⟨fun h=>(by rw[this] at h;cases h),fun _=>⟨?_,trivial⟩⟩
  rw[<-h1]
  exact(List.append_nil out).symm
 |cons f gs=>
  obtain⟨⟨e,i,o⟩,pos,l⟩:=f
  have h2:gs.length+1<=12:=h2
  have aih:cL=true:=by
   rw[j5]
   show decide (((bj (_::gs)).length:Int)>0)=true
   rw[fK]
   exact decide_eq_true (by simp)
  have aif:bC=(gs.length:Int):=by
   rw[iJ]
   show((bj (_::gs)).length:Int) - 1=_
   rw[fK]
   simp
  have hk:bC.toNat=gs.length:=by rw[aif];rfl
  have KH:cC=l:=by
   rw[k7,hk]
   show(bU (_::gs)).getD gs.length []=l
   rw[rO]
   exact rV _ _ _ (tR gs).symm
  have abC:cy=mf (cd n s) (((e,i,o),pos,l)::gs):=jF
  have zu:(bj (((e,i,o),pos,l)::gs)).length=gs.length+1:=fK _
  have nW:(dJ (((e,i,o),pos,l)::gs)).length=gs.length+1:=wM _
  have X2:(bU (((e,i,o),pos,l)::gs)).length=gs.length+1:=tR _
  have RR:∀m,m=gs.length+1->aL bC m:=fun m hm=>⟨by omega,by omega⟩
  refine⟨fun _=>⟨aY (by omega) (by omega),RR _ X2,fun hz=> ?_,fun hz=> ?_⟩,fun h=>(by rw[aih] at h;cases h)⟩
  ·have BW:l=[]:=by
    rw[KH] at hz
    have:=eq_of_beq hz
    exact List.length_eq_zero_iff.1 (by omega)
   subst BW
   refine⟨⟨by rw[abC];exact ND _ (by show gs.length+1<=1000;omega),by show 0<(bj (_::gs)).length;omega⟩,(gs,out),⟨h1,by show gs.length<=12;omega,?_⟩,Ws _ _ _ gs,rfl,rfl,rfl,?_⟩
   ·have:=Ws (e,i,o) pos [] gs
    show wF gs<=W
    omega
   ·rw[abC,aaW]
    exact⟨rfl,rfl,rfl,rfl,rfl,rfl,rfl,rfl,rfl,trivial⟩
  ·cases l with
   |nil=>rw[KH] at hz;cases hz
   |cons w ws=>
    have XF:fw=w:=by rw[mH,KH];rfl
    have aie:dN=(e,i,o):=by
     rw[oh,hk]
     show(bj (_::gs)).getD gs.length _=_
     rw[jT]
     exact rV _ _ _ (fK gs).symm
    have KG:du=bj (((e,i,w.1),w.2,ws)::gs):=by
     rw[og,hk,aie,XF]
     show(bj (_::gs)).set gs.length _=_
     rw[jT,jT]
     exact Eg _ _ _ (fK gs).symm
    have abB:eL=(e,w.1):=by
     rw[rr,hk,KG,XF,jT,rV _ _ _ (fK gs).symm]
    have KD:eC=dJ (((e,i,w.1),w.2,ws)::gs):=by
     rw[wh,hk,XF]
     show(dJ (_::gs)).set gs.length _=_
     rw[tN,tN]
     exact Eg _ _ _ (wM gs).symm
    have To:im=bU (((e,i,w.1),w.2,ws)::gs):=by
     rw[yA,hk,KH]
     show(bU (_::gs)).set gs.length _=_
     rw[rO,rO]
     exact Eg _ _ _ (tR gs).symm
    have XE:iY=mf (cd n s) (((e,i,w.1),w.2,ws)::gs):=by rw[w5,KG,KD,To];rfl
    have hR:kQ n eL=cc n.1 (e,w.1):=by rw[abB];exact HK hn _
    have hN:fo n eL=bx n.1 (e,w.1):=by rw[abB];exact tP hn _
    have abA:jQ=[oY s (((e,i,w.1),w.2,ws)::gs) 1 (cc n.1 (e,w.1))]:=by rw[x5,e6,XE,IB,hR];rfl
    have abz:lF=[oY s (((e,i,w.1),w.2,ws)::gs) 3 (-1)]:=by rw[EO,e6,XE,IB];rfl
    have XV:kd iY:=by rw[XE];exact ND _ (by show gs.length+1<=1000;omega)
    have Ve:=ab7 (e,i,o) (e,i,w.1) pos w.2 w ws gs
    have aiD:du.length=gs.length+1:=by rw[KG];exact fK _
    refine⟨RR _ X2,⟨by omega,by rw[KH];simp⟩,RR _ X2,⟨by omega,by rw[KH];show 1<=((ws.length+1:Nat):Int);omega⟩,RR _ X2,RR _ zu,RR _ nW,RR _ aiD,trivial,fun B4=> ?_,fun B4=>⟨trivial,fun hx=> ?_,fun hx=> ?_⟩⟩
    ·have B4:decide (0<=cc n.1 (e,w.1))=true:=by rw[<-hR,<-B4,q9]
     refine⟨XV,cT (by rw[abA];show out.length+1<=_;omega) (by decide),(((e,i,w.1),w.2,ws)::gs,out++jQ),⟨?_,h2,Nat.le_trans (Nat.le_of_lt Ve) h3⟩,Ve,rfl,rfl,rfl,rfl,KG.symm,KD.symm,To.symm,rfl,rfl,rfl,rfl,rfl,trivial⟩
     rw[<-h1,Mu B4,abA]
     exact List.append_assoc _ _ _
    ·have B4:decide (0<=cc n.1 (e,w.1))=false:=by rw[<-hR,<-B4,q9]
     have hx:(bx n.1 (e,w.1)).2=false:=by rw[<-hN];simpa using hx
     refine⟨XV,cT (by rw[abz];show out.length+1<=_;omega) (by decide),(((e,i,w.1),w.2,ws)::gs,out++lF),⟨?_,h2,Nat.le_trans (Nat.le_of_lt Ve) h3⟩,Ve,rfl,rfl,rfl,rfl,KG.symm,KD.symm,To.symm,rfl,rfl,rfl,rfl,rfl,trivial⟩
     rw[<-h1,Mv B4 hx,abz]
     exact List.append_assoc _ _ _
    ·have B4:decide (0<=cc n.1 (e,w.1))=false:=by rw[<-hR,<-B4,q9]
     have hx:(bx n.1 (e,w.1)).2=true:=by rw[<-hN];simpa using hx
     have hwo:=afW (e,i,o) (e,i,w.1) pos w.2 w ws gs
     refine⟨((((e,i,w.1),w.2,ws)::gs,(fo n eL).1),out),⟨?_,h2⟩,by show wE (_::gs)<_;omega,rfl,rfl,rfl,rfl,rfl,rfl,KG.symm,KD.symm,To.symm,rfl,rfl,rfl,trivial⟩
     show out++sr n.1 s (cd n s) (fo n eL).1 (((e,i,w.1),w.2,ws)::gs)=_
     rw[hN,<-h1,WM B4 hx]
theorem v141 (n:bk) (s:Int):ah (aj aA [(197,Lp),(144,va),(147,DG),(148,u9),(215,Lj),(216,Li),(217,Lh),(218,Lg)]) Tryz.f141 YP (a141 (n,s,())) (n,s,())=(
U (!(lL n.1 s).2) fun(y2:Bool)=>
U (fo n (lL n.1 s).1) fun(y3:ak×Bool)=>
U (lL n.1 s).1.1 fun(y4:Int)=>
U (lL n.1 s).1.2 fun(y5:Int)=>
U (List.replicate (1:Nat) ((0:Int),(0:Int),(0:Int),[],[],[],[],[],false))
fun(y6:List (af))=>
True/\
(y2=true->[]=py n.1 s/\True)/\
(y2=false->
True/\
((!y3.2)=true->[]=py n.1 s/\True)/\
((!y3.2)=false->
(∃(lf:(List di×ak)×List af),
zV n s lf/\
[n]=[n]/\
(0:Nat)=(0:Nat)/\
s=s/\
lf.1.2.1=y3.1.1/\
lf.1.2.2=y3.1.2/\
cd n s=y4/\bj lf.1.1=[]/\dJ lf.1.1=[]/\bU lf.1.1=[]/\lf.2=[]/\y4=y4/\y5=y5/\True)/\
∀(s7:(List di×ak)×List af),
U (cd n s,bj s7.1.1,dJ s7.1.1,bU s7.1.1) fun(y8:Int×List (Int×Int×Int)×List Int×List (List (Int×Int)))=>
U (KS y8 s7.1.2.1) fun(y9:Bool)=>
U (aK n.1 s7.1.2.1==(4:Int)) fun(bu:Bool)=>
U (zQ y8 n s7.1.2) fun(bH:kE)=>
U (y6.set (0:Nat) (iO bH s (-1:Int) (2:Int)))
fun(aw:List (af))=>
zV n s s7->
(bj s7.1.1).length<=(1000:Nat)/\
(y9=true->
kd y8/\
True/\
(bu=true->
kd bH/\
roomFor (s7.2.length+aw.length) (152:Nat)/\
(∃(iG:List di×List af),
jM n s (wL (List.map (fun(l:List (Int×Int))=>l.length) bH.2.2.2).reverse) iG/\
[n]=[n]/\
(0:Nat)=(0:Nat)/\
s=s/\
cd n s=bH.1/\
bj iG.1=bH.2.1/\
dJ iG.1=bH.2.2.1/\
bU iG.1=bH.2.2.2/\
iG.2=s7.2++aw/\y4=y4/\y5=y5/\s7.1.2.1=s7.1.2.1/\s7.1.2.2=s7.1.2.2/\True)/\
∀(bM:List di×List af),
U (decide ((↑(bj bM.1).length:Int)>(0:Int))) fun(cL:Bool)=>
U ((↑(bj bM.1).length:Int) - (1:Int)) fun(bC:Int)=>
U ((bU bM.1).getD bC.toNat []) fun(cC:List (Int×Int))=>
U (cd n s,bj bM.1,dJ bM.1,bU bM.1)
fun(cy:Int×List (Int×Int×Int)×List Int×List (List (Int×Int)))=>
U ((bj bM.1).getD bC.toNat ((0:Int),(0:Int),(0:Int))) fun(dN:Int×Int×Int)=>
U (cC.getD (Int.toNat (0:Int)) ((0:Int),(0:Int))) fun(fw:Int×Int)=>
U ((bj bM.1).set bC.toNat (dN.1,dN.2.1,fw.1)) fun(du:List (Int×Int×Int))=>
U ((du.getD bC.toNat ((0:Int),(0:Int),(0:Int))).1,fw.1) fun(eL:Int×Int)=>
U (decide (kQ n eL>=(0:Int))) fun(dt:Bool)=>
U ((dJ bM.1).set bC.toNat fw.2) fun(eC:List Int)=>
U ((bU bM.1).set bC.toNat (List.drop (Int.toNat (1:Int)) cC)) fun(im:List (List (Int×Int)))=>
U (cd n s,du,eC,im) fun(iY:Int×List (Int×Int×Int)×List Int×List (List (Int×Int)))=>
U (y6.set (0:Nat) (iO iY s (kQ n eL) (1:Int)))
fun
(jQ:
List
(af))=>
U (y6.set (0:Nat) (iO iY s (-1:Int) (3:Int)))
fun
(lF:
List
(af))=>
jM n s (wL (List.map (fun(l:List (Int×Int))=>l.length) bH.2.2.2).reverse) bM->
(cL=true->
bo IntKind.i64 bC/\
aL bC (bU bM.1).length/\
(((↑cC.length:Int)==(0:Int))=true->
(kd cy/\(0:Nat)<(bj bM.1).length)/\
∃(aq:List di×List af),
jM n s (wL (List.map (fun(l:List (Int×Int))=>l.length) bH.2.2.2).reverse)
aq/\
wF aq.1<wF bM.1/\
[n]=[n]/\
(0:Nat)=(0:Nat)/\
s=s/\
cd n s=(ou cy).1/\
bj aq.1=(ou cy).2.1/\
dJ aq.1=(ou cy).2.2.1/\
bU aq.1=(ou cy).2.2.2/\
aq.2=bM.2/\
y4=y4/\
y5=y5/\
s7.1.2.1=s7.1.2.1/\
s7.1.2.2=s7.1.2.2/\True)/\
(((↑cC.length:Int)==(0:Int))=false->
aL bC (bU bM.1).length/\
aL (0:Int) cC.length/\
aL bC (bU bM.1).length/\
((0:Int)<=(1:Int)/\(1:Int)<=(↑cC.length:Int))/\
aL bC (bU bM.1).length/\
aL bC (bj bM.1).length/\
aL bC (dJ bM.1).length/\
aL bC du.length/\
True/\
(dt=true->
kd iY/\
roomFor (bM.2.length+jQ.length) (152:Nat)/\
∃(aq:List di×List af),
jM n s
(wL
(List.map (fun(l:List (Int×Int))=>l.length)
bH.2.2.2).reverse)
aq/\
wF aq.1<wF bM.1/\
[n]=[n]/\
(0:Nat)=(0:Nat)/\
s=s/\
cd n s=cd n s/\
bj aq.1=du/\
dJ aq.1=eC/\
bU aq.1=im/\
aq.2=bM.2++jQ/\
y4=y4/\
y5=y5/\
s7.1.2.1=s7.1.2.1/\
s7.1.2.2=s7.1.2.2/\True)/\
(dt=false->
True/\
((!(fo n eL).2)=true->
kd iY/\
roomFor (bM.2.length+lF.length) (152:Nat)/\
∃(aq:List di×List af),
jM n s
(wL
(List.map (fun(l:List (Int×Int))=>l.length)
bH.2.2.2).reverse)
aq/\
wF aq.1<wF bM.1/\
[n]=[n]/\
(0:Nat)=(0:Nat)/\
s=s/\
cd n s=cd n s/\
bj aq.1=du/\
dJ aq.1=eC/\
bU aq.1=im/\
aq.2=bM.2++lF/\
y4=y4/\
y5=y5/\
s7.1.2.1=s7.1.2.1/\
s7.1.2.2=s7.1.2.2/\
True)/\
((!(fo n eL).2)=false->
∃(aq:(List di×ak)×List af),
zV n s aq/\
wE aq.1.1<wE s7.1.1/\
[n]=[n]/\
(0:Nat)=(0:Nat)/\
s=s/\
aq.1.2.1=(fo n eL).1.1/\
aq.1.2.2=(fo n eL).1.2/\
cd n s=cd n s/\
bj aq.1.1=du/\
dJ aq.1.1=eC/\
bU aq.1.1=im/\
aq.2=bM.2/\
y4=y4/\y5=y5/\True))))/\
(cL=false->bM.2=py n.1 s/\True))/\
(bu=false->
(∃(iG:List di×List af),
jM n s (wL (List.map (fun(l:List (Int×Int))=>l.length) bH.2.2.2).reverse) iG/\
[n]=[n]/\
(0:Nat)=(0:Nat)/\
s=s/\
cd n s=bH.1/\
bj iG.1=bH.2.1/\
dJ iG.1=bH.2.2.1/\
bU iG.1=bH.2.2.2/\
iG.2=s7.2/\y4=y4/\y5=y5/\s7.1.2.1=s7.1.2.1/\s7.1.2.2=s7.1.2.2/\True)/\
∀(bM:List di×List af),
U (decide ((↑(bj bM.1).length:Int)>(0:Int))) fun(cL:Bool)=>
U ((↑(bj bM.1).length:Int) - (1:Int)) fun(bC:Int)=>
U ((bU bM.1).getD bC.toNat []) fun(cC:List (Int×Int))=>
U (cd n s,bj bM.1,dJ bM.1,bU bM.1)
fun(cy:Int×List (Int×Int×Int)×List Int×List (List (Int×Int)))=>
U ((bj bM.1).getD bC.toNat ((0:Int),(0:Int),(0:Int))) fun(dN:Int×Int×Int)=>
U (cC.getD (Int.toNat (0:Int)) ((0:Int),(0:Int))) fun(fw:Int×Int)=>
U ((bj bM.1).set bC.toNat (dN.1,dN.2.1,fw.1)) fun(du:List (Int×Int×Int))=>
U ((du.getD bC.toNat ((0:Int),(0:Int),(0:Int))).1,fw.1) fun(eL:Int×Int)=>
U (decide (kQ n eL>=(0:Int))) fun(dt:Bool)=>
U ((dJ bM.1).set bC.toNat fw.2) fun(eC:List Int)=>
U ((bU bM.1).set bC.toNat (List.drop (Int.toNat (1:Int)) cC)) fun(im:List (List (Int×Int)))=>
U (cd n s,du,eC,im) fun(iY:Int×List (Int×Int×Int)×List Int×List (List (Int×Int)))=>
U (y6.set (0:Nat) (iO iY s (kQ n eL) (1:Int)))
fun
(jQ:
List
(af))=>
U (y6.set (0:Nat) (iO iY s (-1:Int) (3:Int)))
fun
(lF:
List
(af))=>
jM n s (wL (List.map (fun(l:List (Int×Int))=>l.length) bH.2.2.2).reverse) bM->
(cL=true->
bo IntKind.i64 bC/\
aL bC (bU bM.1).length/\
(((↑cC.length:Int)==(0:Int))=true->
(kd cy/\(0:Nat)<(bj bM.1).length)/\
∃(aq:List di×List af),
jM n s (wL (List.map (fun(l:List (Int×Int))=>l.length) bH.2.2.2).reverse) aq/\
wF aq.1<wF bM.1/\
[n]=[n]/\
(0:Nat)=(0:Nat)/\
s=s/\
cd n s=(ou cy).1/\
bj aq.1=(ou cy).2.1/\
dJ aq.1=(ou cy).2.2.1/\
bU aq.1=(ou cy).2.2.2/\
aq.2=bM.2/\
y4=y4/\
y5=y5/\
s7.1.2.1=s7.1.2.1/\
s7.1.2.2=s7.1.2.2/\True)/\
(((↑cC.length:Int)==(0:Int))=false->
aL bC (bU bM.1).length/\
aL (0:Int) cC.length/\
aL bC (bU bM.1).length/\
((0:Int)<=(1:Int)/\(1:Int)<=(↑cC.length:Int))/\
aL bC (bU bM.1).length/\
aL bC (bj bM.1).length/\
aL bC (dJ bM.1).length/\
aL bC du.length/\
True/\
(dt=true->
kd iY/\
roomFor (bM.2.length+jQ.length) (152:Nat)/\
∃(aq:List di×List af),
jM n s
(wL
(List.map (fun(l:List (Int×Int))=>l.length)
bH.2.2.2).reverse)
aq/\
wF aq.1<wF bM.1/\
[n]=[n]/\
(0:Nat)=(0:Nat)/\
s=s/\
cd n s=cd n s/\
bj aq.1=du/\
dJ aq.1=eC/\
bU aq.1=im/\
aq.2=bM.2++jQ/\
y4=y4/\
y5=y5/\
s7.1.2.1=s7.1.2.1/\
s7.1.2.2=s7.1.2.2/\True)/\
(dt=false->
True/\
((!(fo n eL).2)=true->
kd iY/\
roomFor (bM.2.length+lF.length) (152:Nat)/\
∃(aq:List di×List af),
jM n s
(wL
(List.map (fun(l:List (Int×Int))=>l.length)
bH.2.2.2).reverse)
aq/\
wF aq.1<wF bM.1/\
[n]=[n]/\
(0:Nat)=(0:Nat)/\
s=s/\
cd n s=cd n s/\
bj aq.1=du/\
dJ aq.1=eC/\
bU aq.1=im/\
aq.2=bM.2++lF/\
y4=y4/\
y5=y5/\
s7.1.2.1=s7.1.2.1/\
s7.1.2.2=s7.1.2.2/\True)/\
((!(fo n eL).2)=false->
∃(aq:(List di×ak)×List af),
zV n s aq/\
wE aq.1.1<wE s7.1.1/\
[n]=[n]/\
(0:Nat)=(0:Nat)/\
s=s/\
aq.1.2.1=(fo n eL).1.1/\
aq.1.2.2=(fo n eL).1.2/\
cd n s=cd n s/\
bj aq.1.1=du/\
dJ aq.1.1=eC/\
bU aq.1.1=im/\
aq.2=bM.2/\
y4=y4/\y5=y5/\True))))/\
(cL=false->bM.2=py n.1 s/\True)))/\
(y9=false->
(∃(iG:List di×List af),
jM n s (wL (List.map (fun(l:List (Int×Int))=>l.length) (bU s7.1.1)).reverse) iG/\
[n]=[n]/\
(0:Nat)=(0:Nat)/\
s=s/\
cd n s=cd n s/\
bj iG.1=bj s7.1.1/\
dJ iG.1=dJ s7.1.1/\
bU iG.1=bU s7.1.1/\
iG.2=s7.2/\y4=y4/\y5=y5/\s7.1.2.1=s7.1.2.1/\s7.1.2.2=s7.1.2.2/\True)/\
∀(bM:List di×List af),
U (decide ((↑(bj bM.1).length:Int)>(0:Int))) fun(cL:Bool)=>
U ((↑(bj bM.1).length:Int) - (1:Int)) fun(bC:Int)=>
U ((bU bM.1).getD bC.toNat []) fun(cC:List (Int×Int))=>
U (cd n s,bj bM.1,dJ bM.1,bU bM.1)
fun(cy:Int×List (Int×Int×Int)×List Int×List (List (Int×Int)))=>
U ((bj bM.1).getD bC.toNat ((0:Int),(0:Int),(0:Int))) fun(dN:Int×Int×Int)=>
U (cC.getD (Int.toNat (0:Int)) ((0:Int),(0:Int))) fun(fw:Int×Int)=>
U ((bj bM.1).set bC.toNat (dN.1,dN.2.1,fw.1)) fun(du:List (Int×Int×Int))=>
U ((du.getD bC.toNat ((0:Int),(0:Int),(0:Int))).1,fw.1) fun(eL:Int×Int)=>
U (decide (kQ n eL>=(0:Int))) fun(dt:Bool)=>
U ((dJ bM.1).set bC.toNat fw.2) fun(eC:List Int)=>
U ((bU bM.1).set bC.toNat (List.drop (Int.toNat (1:Int)) cC)) fun(im:List (List (Int×Int)))=>
U (cd n s,du,eC,im) fun(iY:Int×List (Int×Int×Int)×List Int×List (List (Int×Int)))=>
U (y6.set (0:Nat) (iO iY s (kQ n eL) (1:Int)))
fun
(jQ:
List (af))=>
U (y6.set (0:Nat) (iO iY s (-1:Int) (3:Int)))
fun
(lF:
List (af))=>
jM n s (wL (List.map (fun(l:List (Int×Int))=>l.length) (bU s7.1.1)).reverse) bM->
(cL=true->
bo IntKind.i64 bC/\
aL bC (bU bM.1).length/\
(((↑cC.length:Int)==(0:Int))=true->
(kd cy/\(0:Nat)<(bj bM.1).length)/\
∃(aq:List di×List af),
jM n s (wL (List.map (fun(l:List (Int×Int))=>l.length) (bU s7.1.1)).reverse) aq/\
wF aq.1<wF bM.1/\
[n]=[n]/\
(0:Nat)=(0:Nat)/\
s=s/\
cd n s=(ou cy).1/\
bj aq.1=(ou cy).2.1/\
dJ aq.1=(ou cy).2.2.1/\
bU aq.1=(ou cy).2.2.2/\
aq.2=bM.2/\
y4=y4/\
y5=y5/\
s7.1.2.1=s7.1.2.1/\s7.1.2.2=s7.1.2.2/\True)/\
(((↑cC.length:Int)==(0:Int))=false->
aL bC (bU bM.1).length/\
aL (0:Int) cC.length/\
aL bC (bU bM.1).length/\
((0:Int)<=(1:Int)/\(1:Int)<=(↑cC.length:Int))/\
aL bC (bU bM.1).length/\
aL bC (bj bM.1).length/\
aL bC (dJ bM.1).length/\
aL bC du.length/\
True/\
(dt=true->
kd iY/\
roomFor (bM.2.length+jQ.length) (152:Nat)/\
∃(aq:List di×List af),
jM n s
(wL
(List.map (fun(l:List (Int×Int))=>l.length)
(bU s7.1.1)).reverse)
aq/\
wF aq.1<wF bM.1/\
[n]=[n]/\
(0:Nat)=(0:Nat)/\
s=s/\
cd n s=cd n s/\
bj aq.1=du/\
dJ aq.1=eC/\
bU aq.1=im/\
aq.2=bM.2++jQ/\
y4=y4/\
y5=y5/\
s7.1.2.1=s7.1.2.1/\
s7.1.2.2=s7.1.2.2/\True)/\
(dt=false->
True/\
((!(fo n eL).2)=true->
kd iY/\
roomFor (bM.2.length+lF.length) (152:Nat)/\
∃(aq:List di×List af),
jM n s
(wL
(List.map (fun(l:List (Int×Int))=>l.length)
(bU s7.1.1)).reverse)
aq/\
wF aq.1<wF bM.1/\
[n]=[n]/\
(0:Nat)=(0:Nat)/\
s=s/\
cd n s=cd n s/\
bj aq.1=du/\
dJ aq.1=eC/\
bU aq.1=im/\
aq.2=bM.2++lF/\
y4=y4/\
y5=y5/\
s7.1.2.1=s7.1.2.1/\
s7.1.2.2=s7.1.2.2/\True)/\
((!(fo n eL).2)=false->
∃(aq:(List di×ak)×List af),
zV n s aq/\
wE aq.1.1<wE s7.1.1/\
[n]=[n]/\
(0:Nat)=(0:Nat)/\
s=s/\
aq.1.2.1=(fo n eL).1.1/\
aq.1.2.2=(fo n eL).1.2/\
cd n s=cd n s/\
bj aq.1.1=du/\
dJ aq.1.1=eC/\
bU aq.1.1=im/\
aq.2=bM.2/\y4=y4/\y5=y5/\True))))/\
(cL=false->bM.2=py n.1 s/\True))))):=by kernel_rfl
theorem akp (n:bk) (s:Int) (hn:pq n):ah (aj aA [(197,Lp),(144,va),(147,DG),(148,u9),(215,Lj),(216,Li),(217,Lh),(218,Lg)]) Tryz.f141 YP (a141 (n,s,())) (n,s,()):=by
 rw[v141]
 refine U.mk fun y2 e2=>U.mk fun y3 e3=>U.mk fun y4 e4=>U.mk fun y5 e5=>U.mk fun y6 e6=>⟨trivial,fun h=>⟨?_,trivial⟩,fun h=>⟨trivial,fun h3=>⟨?_,trivial⟩,fun h3=>⟨?_,?_⟩⟩⟩
 ·unfold py
  rw[<-e2,h]
  rfl
 ·unfold py
  rw[<-e2,h,<-tP hn,<-e3,h3]
  rfl
 ·refine⟨(([],y3.1),[]),⟨?_,Nat.zero_le _⟩,rfl,rfl,rfl,rfl,rfl,e4.symm,rfl,rfl,rfl,rfl,rfl,rfl,trivial⟩
  show[]++sr n.1 s (cd n s) y3.1 []=py n.1 s
  unfold py
  rw[<-e2,h,<-tP hn,<-e3,h3]
  exact List.append_nil _
 ·intro s7
  refine U.mk fun y8 e8=>U.mk fun y9 e9=>U.mk fun bu dy=>U.mk fun bH eK=>U.mk fun aw dW=>fun mY=> ?_
  have hlen:=VK mY
  obtain⟨⟨gs,x⟩,out⟩:=s7
  obtain⟨h1,h2⟩:=mY
  have h1:out++sr n.1 s (cd n s) x gs=py n.1 s:=h1
  have h2:gs.length<=12:=h2
  have hlen:out.length<=8192:=hlen
  have hy8:y8=mf (cd n s) gs:=e8
  have hy9:y9=Bd (cd n s) gs x:=by rw[e9,hy8];exact aaX _ gs x
  have Da:bH=mf (cd n s) (((x.1,x.2, -1),0,bG n.1 x.1 x.2)::gs):=by rw[eK,hy8];exact Yr _ n x gs
  have hL:(List.map (fun(l:List (Int×Int))=>l.length) bH.snd.snd.snd).reverse=(List.map (fun(l:List (Int×Int))=>l.length) (bU (((x.1,x.2, -1),0,bG n.1 x.1 x.2)::gs))).reverse:=by rw[Da];rfl
  refine⟨by show(bj gs).length<=1000;rw[fK];omega,fun h9=> ?_,fun h9=> ?_⟩
  ·have hm:Bd (cd n s) gs x=true:=by rw[<-hy9];exact h9
   have dQ:gs.length<12:=by
    unfold Bd at hm
    rw[Bool.and_eq_true] at hm
    exact of_decide_eq_true hm.1
   have jD:=P8 (p:=n.1) (s:=s) hm
   have RT:wF (((x.1,x.2, -1),0,bG n.1 x.1 x.2)::gs)<wE gs:=ZU dQ
   refine⟨by rw[hy8];exact ND _ (by omega),trivial,fun lp=> ?_,fun lp=> ?_⟩
   ·have lp:(aK n.1 x.1==4)=true:=by rw[<-lp,dy]
    have ym:aw=[oY s (((x.1,x.2, -1),0,[])::gs) 2 (-1)]:=by
     rw[dW,e6,Da,IB,QX s 2 (-1) (x.1,x.2, -1) 0 (bG n.1 x.1 x.2) []]
     rfl
    refine⟨by rw[Da];exact ND _ (by show gs.length+1<=1000;omega),cT (by rw[ym];show out.length+1<=_;omega) (by decide),⟨(((x.1,x.2, -1),0,bG n.1 x.1 x.2)::gs,out++aw),⟨?_,by show gs.length+1<=12;omega,?_⟩,?_⟩,?_⟩
    ·rw[<-h1,jD,lp,ym]
     exact List.append_assoc _ _ _
    ·rw[hL,<-xh]
     exact Nat.le_refl _
    ·rw[Da]
     exact⟨rfl,rfl,rfl,rfl,rfl,rfl,rfl,rfl,rfl,rfl,rfl,rfl,trivial⟩
    ·refine EA n s _ y4 y5 y6 ((gs,x),out) hn ?_ e6
     rw[hL,<-xh]
     exact RT
   ·have lp:(aK n.1 x.1==4)=false:=by rw[<-lp,dy]
    refine⟨⟨(((x.1,x.2, -1),0,bG n.1 x.1 x.2)::gs,out),⟨?_,by show gs.length+1<=12;omega,?_⟩,?_⟩,?_⟩
    ·rw[<-h1,jD,lp]
     rfl
    ·rw[hL,<-xh]
     exact Nat.le_refl _
    ·rw[Da]
     exact⟨rfl,rfl,rfl,rfl,rfl,rfl,rfl,rfl,rfl,rfl,rfl,rfl,trivial⟩
    ·refine EA n s _ y4 y5 y6 ((gs,x),out) hn ?_ e6
     rw[hL,<-xh]
     exact RT
  ·have hm:Bd (cd n s) gs x=false:=by rw[<-hy9];exact h9
   have o9:=VI (p:=n.1) (s:=s) h2 hm
   refine⟨⟨(gs,out),⟨?_,h2,?_⟩,rfl,rfl,rfl,rfl,rfl,rfl,rfl,rfl,rfl,rfl,rfl,rfl,trivial⟩,?_⟩
   ·rw[<-h1,o9]
   ·show wF gs<=_
    rw[xh gs]
    exact Nat.le_refl _
   ·refine EA n s _ y4 y5 y6 ((gs,x),out) hn ?_ e6
    show wL _<wE gs
    rw[<-xh gs]
    exact afX gs
theorem adz:aN Tryz.prog 141 YP:=
 aN.b3 (l:=[(197,Lp),(144,va),(147,DG),(148,u9),(215,Lj),(216,Li),(217,Lh),(218,Lg)]) (A:=a141) aJ ⟨Xb,MF,Xd,ME,acO,acN,acM,acL,trivial⟩ Tryz.func141 (by kernel_rfl) (by kernel_rfl) fun x _ hp=>akp x.1 x.2.1 hp
theorem Wn (p:ab) {j k:Nat} (h:j<=k):(fP p j).length<=(fP p k).length:=by
 induction k with
 |zero=>
  have:j=0:=by omega
  subst this
  exact Nat.le_refl _
 |succ k ih=>
  by_cases hj:j=k+1
  ·subst hj;exact Nat.le_refl _
  ·have:=ih (by omega)
   rw[tF,List.length_append]
   omega
theorem all_eq (p:ab):cZ p=bif decide (64<(fP p p.2.2.1.length).length) then([],3) else(fP p p.2.2.1.length,0):=by
 have hA:cZ p=bif cj (j7 p) p.2.2.1.length then([],3) else(fP p p.2.2.1.length,0):=by unfold cZ;rfl
 rw[hA]
 congr 1
 by_cases h:64<(fP p p.2.2.1.length).length
 ·rw[decide_eq_true h]
  cases hc:cj (j7 p) p.2.2.1.length with
  |true=>rfl
  |false=>have:=Aa hc;omega
 ·rw[decide_eq_false h]
  refine iX.2 fun i hi=> ?_
  unfold j7
  have:=Wn p (show i+1<=p.2.2.1.length by omega)
  exact decide_eq_false (by omega)
theorem DS (p:ab):∀k,(fP p k).length<=k*8192
 |0=>by unfold fP;simp
 |k+1=>by
  rw[tF,List.length_append]
  have:=DS p k
  have:=CK p k
  omega
def pf (p:ab) (s:cu):List Int:=bif aK p s.1==2 then[3 - max s.2.1 s.2.2] else bif aK p s.1==3 then(bif decide (s.2.1>1) then[0,1] else[2,3]) else[]
def LV:bg where
 args:=[.ref jx,eH]
 out:= .row 156 aO
 pre:=fun(x:bk×af×Unit)=>pq x.1/\qB x.2.1
 fn:=fun(x:bk×af×Unit)=>(bE x.1.1 x.2.1,())
def stepOf (x:af) (i:Int):cu:=x.2.2.2.1.getD i.toNat iC
def a143 (x:bk×af×Unit):eA:=bh [(3,fun _=>mS x.2.1.2.2.2.1.length 18 5 1000 156 aO (fun k=>c8 x.1.1 x.2.1 k) [0,3,16,17] [3]),
 (15,fun S=>{
 σ:=Nat
 ok:=fun j=>j<=(pf x.1.1 (stepOf x.2.1 (da S 18))).length
 mu:=fun j=>(pf x.1.1 (stepOf x.2.1 (da S 18))).length - j
 sl:=fun j=>[(45,.one (.aG I (j:Int))),(5,.one (.row aO 1001)),(43,.one (.row I 1002)),(44,.one (.aG I ((pf x.1.1 (stepOf x.2.1 (da S 18))).length:Int)))]
 bl:=fun j=>[(1001,.row false 156 aO (c8 x.1.1 x.2.1 (da S 18).toNat++cF x.1.1 ((js x.1.1 (stepOf x.2.1 (da S 18))).take j))),(1002,.row false 3 I (pf x.1.1 (stepOf x.2.1 (da S 18))))]
 keep:=[0,3,7,16,17,18]
 cv:=[3,7]})] [26,36,41,59]
abbrev afw:eU:= .cells true (.pair (.aG I) (.pair (.aG I) (.pair (.aG I) (.pair (.row 76 kD) (.pair (.row 90 eB) (.pair (.row 90 eB) (.pair (.row 3 I) (.pair (.row 3 I) (.aG .bool)))))))))
def WU (r:af):af:=(r.1,r.2.1,r.2.2.1,r.2.2.2.1,r.2.2.2.2.1,r.2.2.2.2.2.1,r.2.2.2.2.2.2.1,r.2.2.2.2.2.2.2.1,true)
def WT (r:af) (z:List Int):af:=(r.1,r.2.1,r.2.2.1,r.2.2.2.1,r.2.2.2.2.1,r.2.2.2.2.2.1,z,r.2.2.2.2.2.2.2)
@[irreducible] def dG (r:af) (e:Int):Bool×af:=
 bif bN r.2.2.2.2.2.2.1 e then(true,r) else bif decide (12<=r.2.2.2.2.2.2.1.length) then(false,WU r) else(true,WT r (r.2.2.2.2.2.2.1++[e]))
def LR:fG where
 args:=[afw,.aG I]
 outs:=[.aG .bool]
 pre:=fun(x:af×Int×Unit)=>x.1.2.2.2.2.2.2.1.length<=1000
 fn:=fun(x:af×Int×Unit)=>((dG x.1 x.2.1).1,())
 fS:=fun(x:af×Int×Unit)=>((dG x.1 x.2.1).2,x.2)
@[irreducible] def pw (n:bk) (e stop:Int) (todo:List ak):List ak:=todo++bif(fo n (e,stop)).2 then[(fo n (e,stop)).1] else[]
def LU:fG where
 args:=[.aG I,.aG I,.cells true (.aG (.ref jx)),.cells true (.row 156 aO)]
 outs:=[]
 pre:=fun(x:Int×Int×bk×List ak×Unit)=>x.2.2.2.1.length<=1000000
 fn:=fun _=>()
 fS:=fun(x:Int×Int×bk×List ak×Unit)=>(x.1,x.2.1,x.2.2.1,pw x.2.2.1 x.1 x.2.1 x.2.2.2.1,())
def Ld:bg where
 args:=[.list eB,eB]
 out:= .data [I]
 pre:=fun(x:List ba×ba×Unit)=>True
 fn:=fun(x:List ba×ba×Unit)=>(fp (fun y=>x.2.1==y) x.1,())
def a222 (x:List ba×ba×Unit):eA:=bh [(2,fun _=>{tU (fun y=>x.2.1==y) x.1 8 [0,3,7] with cv:=[3]})]
def LQ:bg where
 args:=[.list eB,eB]
 out:= .data [.bool]
 pre:=fun(x:List ba×ba×Unit)=>True
 fn:=fun(x:List ba×ba×Unit)=>(bq x.1 x.2.1,())
def kZ (p:ab) (r:af) (j:Nat):List ak:=((bE p r).reverse.take j).map fun x=>(bx p x).1
def dI (s:au):List (ak×Bool):=(ct s).map fun y=>(y,true)
structure iR (n:bk) (r:af) (g:List ak×au):Prop where
 same:fin g.1 g.2=bF n.1 r (bE n.1 r).length
 inv:gl 161 g.2
 qJ:g.2.1=n.1
 Q3:∀y∈g.1,y∈bW n.1
 small:eY g.1 g.2<=100000
def c98:bg where
 args:=[.ref jx,eH]
 out:= .data [eH]
 pre:=fun(x:bk×af×Unit)=>pq x.1/\pc x.1.1 x.2.1
 fn:=fun(x:bk×af×Unit)=>(dV x.1.1 x.2.1,())
def a98 (x:bk×af×Unit):eA:=bh [
 (8,fun _=>{
  σ:=Nat
  ok:=fun j=>j<=(bE x.1.1 x.2.1).length
  mu:=fun j=>(bE x.1.1 x.2.1).length - j
  sl:=fun j=>[(9,.one (.aG I (((bE x.1.1 x.2.1).length:Int) - 1 - j)))]
  bl:=fun j=>[(7,.cells [.row aO 1000]),(1000,.row false 156 aO (kZ x.1.1 x.2.1 j))]
  keep:=[2,3,4,5,6,7,8]
  cv:=[2,3,4,21,24,34,37]}),
 (13,fun _=>{
  σ:=List ak×au
  ok:=fun g=>iR x.1 x.2.1 g
  mu:=fun g=>eY g.1 g.2
  sl:=fun g=>[(6,.one (.map aO .bool 1007))]
  bl:=fun g=>[(2,.cells [.aG (.ref jx) x.1]),
   (3,.cells [.aG I g.2.2.1,.aG I g.2.2.2.1,.aG I g.2.2.2.2.1,.row kD 1001,.row eB 1002,.row eB 1003,.row I 1004,.row I 1005,.aG .bool g.2.2.2.2.2.2.2.2.2.2.1]),
   (1001,.row false 76 kD (eP g.2)),(1002,.row false 90 eB (cX g.2)),(1003,.row false 90 eB (aS g.2)),(1004,.row false 3 I (cP g.2)),(1005,.row false 3 I (cH g.2)),
   (7,.cells [.row aO 1006]),(1006,.row false 156 aO g.1.reverse),
   (1007,.map false aO .bool (dI g.2) none)]
  keep:=[2,3,4,5,7,12]
  cv:=[4]})]
def I5:bg where
 args:=[.ptr jx]
 out:= .data [I]
 pre:=fun(x:Option bk×Unit)=>iS x.1
 fn:=fun(x:Option bk×Unit)=>(((bI x.1).1.2.2.1.length:Int),())
def tm (o:Option bk):Prop:=∃n,o=some n/\pq n
def NT:bg where
 args:=[.ptr jx,I]
 out:= .data [.list eH]
 pre:=fun(x:Option bk×Int×Unit)=>tm x.1
 fn:=fun(x:Option bk×Int×Unit)=>(py (bI x.1).1 x.2.1,())
def KY:fG where
 args:=[.aG (.ptr jx)]
 outs:=[.row 49 eH,.aG I]
 pre:=fun(x:Option bk×Unit)=>tm x.1
 fn:=fun(x:Option bk×Unit)=>((cZ (bI x.1).1).1,(cZ (bI x.1).1).2,())
def Y2 (x:Option bk×Unit):eA:=bh [(3,fun _=>mS (bI x.1).1.2.2.1.length 8 4 1000 49 eH (fun k=>fP (bI x.1).1 k) [0,7] [])]
def TJ:bg where
 args:=[.ptr jx,eH]
 out:= .data [eH]
 pre:=fun(x:Option bk×af×Unit)=>tm x.1/\pc (bI x.1).1 x.2.1
 fn:=fun(x:Option bk×af×Unit)=>(dV (bI x.1).1 x.2.1,())
def TH:bg where
 args:=[.ptr jx]
 out:= .data [PlanT]
 pre:=fun(x:Option bk×Unit)=>iS x.1/\kK (bI x.1).1
 fn:=fun(x:Option bk×Unit)=>((bI x.1).1,())
def V6:bg where
 args:=[PlanT]
 out:= .data [mN,I]
 pre:=fun(x:ab×Unit)=>cY x.1
 fn:=fun(x:ab×Unit)=>((cK x.1).1,(cK x.1).2,())
def gn (p:ab) (k:Nat):List af:=((cZ p).1.take k).map (dV p)++(cZ p).1.drop k
def a44 (x:ab×Unit):eA:=bh [(8,fun _=>mS (cZ x.1).1.length 28 6 1000 49 eH (fun k=>gn x.1 k) [2,4,27] [2])]
theorem Fx (p:ab) (s:cu):js p s=(pf p s).map fun e=>(s.1,e):=by
 unfold js pf ra
 cases aK p s.1==2 with
 |true=>rfl
 |false=>
  cases aK p s.1==3 with
  |true=>
   by_cases h:(2:Int)<=s.2.1
   ·rw[decide_eq_true h,decide_eq_true (show s.2.1>1 by omega)];rfl
   ·rw[decide_eq_false h,decide_eq_false (show ¬s.2.1>1 by omega)];rfl
  |false=>rfl
theorem U8 (n:bk) (r:af) (s4:Nat) (y6:cu) (y9:List Int) (bH aw:List ak) (hn:pq n) (hr:qB r) (h4:s4<r.2.2.2.1.length) (h6:y6=r.2.2.2.1.getD s4 iC)
  (h9:y9=pf n.1 y6) (mG:bH=c8 n.1 r s4) (nX:aw=js n.1 y6):
(∀(eM:Nat),
U (decide ((↑eM:Int)<(↑y9.length:Int))) fun(cC:Bool)=>
U (y6.fst,y9.getD (↑eM:Int).toNat (0:Int)) fun(cy:Int×Int)=>
U (bH++cF n.fst (List.take eM aw)) fun(dN:List ak)=>
U ((List.replicate (1:Nat) ((0:Int),(0:Int))).set (0:Nat) cy) fun(fw:List (Int×Int))=>
eM<=y9.length->
(cC=true->
aL (↑eM:Int) y9.length/\
True/\
((fo n cy).snd=true->
roomFor (dN.length+fw.length) (16:Nat)/\
bo IntKind.i64 ((↑eM:Int)+(1:Int))/\
∃(dv:Nat),
dv<=y9.length/\
y9.length - dv<y9.length - eM/\
(↑dv:Int)=(↑eM:Int)+(1:Int)/\
(↑y9.length:Int)=(↑y9.length:Int)/\
[n]=[n]/\
(0:Nat)=(0:Nat)/\
r.snd.snd.snd.fst=r.snd.snd.snd.fst/\
(↑r.snd.snd.snd.fst.length:Int)=(↑r.snd.snd.snd.fst.length:Int)/\
(↑s4:Int)=(↑s4:Int)/\
bH++cF n.fst (List.take dv aw)=dN++fw/\
y9=y9/\
r.fst=r.fst/\
r.snd.fst=r.snd.fst/\
r.snd.snd.fst=r.snd.snd.fst/\
r.snd.snd.snd.fst=r.snd.snd.snd.fst/\
r.snd.snd.snd.snd.fst=r.snd.snd.snd.snd.fst/\
r.snd.snd.snd.snd.snd.fst=r.snd.snd.snd.snd.snd.fst/\
r.snd.snd.snd.snd.snd.snd.fst=r.snd.snd.snd.snd.snd.snd.fst/\
r.snd.snd.snd.snd.snd.snd.snd.fst=r.snd.snd.snd.snd.snd.snd.snd.fst/\
r.snd.snd.snd.snd.snd.snd.snd.snd=r.snd.snd.snd.snd.snd.snd.snd.snd/\
y6.fst=y6.fst/\y6.snd.fst=y6.snd.fst/\y6.snd.snd=y6.snd.snd/\True)/\
((fo n cy).snd=false->
bo IntKind.i64 ((↑eM:Int)+(1:Int))/\
∃(dv:Nat),
dv<=y9.length/\
y9.length - dv<y9.length - eM/\
(↑dv:Int)=(↑eM:Int)+(1:Int)/\
(↑y9.length:Int)=(↑y9.length:Int)/\
[n]=[n]/\
(0:Nat)=(0:Nat)/\
r.snd.snd.snd.fst=r.snd.snd.snd.fst/\
(↑r.snd.snd.snd.fst.length:Int)=(↑r.snd.snd.snd.fst.length:Int)/\
(↑s4:Int)=(↑s4:Int)/\
bH++cF n.fst (List.take dv aw)=dN/\
y9=y9/\
r.fst=r.fst/\
r.snd.fst=r.snd.fst/\
r.snd.snd.fst=r.snd.snd.fst/\
r.snd.snd.snd.fst=r.snd.snd.snd.fst/\
r.snd.snd.snd.snd.fst=r.snd.snd.snd.snd.fst/\
r.snd.snd.snd.snd.snd.fst=r.snd.snd.snd.snd.snd.fst/\
r.snd.snd.snd.snd.snd.snd.fst=r.snd.snd.snd.snd.snd.snd.fst/\
r.snd.snd.snd.snd.snd.snd.snd.fst=r.snd.snd.snd.snd.snd.snd.snd.fst/\
r.snd.snd.snd.snd.snd.snd.snd.snd=r.snd.snd.snd.snd.snd.snd.snd.snd/\
y6.fst=y6.fst/\y6.snd.fst=y6.snd.fst/\y6.snd.snd=y6.snd.snd/\True))/\
(cC=false->
bo IntKind.i64 ((↑s4:Int)+(1:Int))/\
∃(dv:Nat),
dv<=r.snd.snd.snd.fst.length/\
r.snd.snd.snd.fst.length - dv<r.snd.snd.snd.fst.length - s4/\
(↑dv:Int)=(↑s4:Int)+(1:Int)/\
[n]=[n]/\
(0:Nat)=(0:Nat)/\
r.snd.snd.snd.fst=r.snd.snd.snd.fst/\
(↑r.snd.snd.snd.fst.length:Int)=(↑r.snd.snd.snd.fst.length:Int)/\
c8 n.fst r dv=dN/\
r.fst=r.fst/\
r.snd.fst=r.snd.fst/\
r.snd.snd.fst=r.snd.snd.fst/\
r.snd.snd.snd.fst=r.snd.snd.snd.fst/\
r.snd.snd.snd.snd.fst=r.snd.snd.snd.snd.fst/\
r.snd.snd.snd.snd.snd.fst=r.snd.snd.snd.snd.snd.fst/\
r.snd.snd.snd.snd.snd.snd.fst=r.snd.snd.snd.snd.snd.snd.fst/\
r.snd.snd.snd.snd.snd.snd.snd.fst=r.snd.snd.snd.snd.snd.snd.snd.fst/\
r.snd.snd.snd.snd.snd.snd.snd.snd=r.snd.snd.snd.snd.snd.snd.snd.snd/\True)):=by
 intro k
 have an6:aw.length=y9.length:=by rw[nX,h9,Fx,List.length_map]
 have zy:aw.length<=2:=by rw[nX];exact vW _ _
 have hup:=pC n.1 r s4 (by omega)
 have Vg:=hr.1
 simp only[true_and,and_true,eq_self]
 refine U.mk fun cC k7=>U.mk fun cy jF=>U.mk fun dN oh=>U.mk fun fw mH=>fun hk=>⟨fun h=> ?_,fun h=> ?_⟩
 ·have hk:=aZ k7 h
  have hp:cy=aw.getD k (0,0):=by
   rw[jF,nX,Fx,<-h9,Int.toNat_natCast]
   rw[eW _ (show k<(y9.map fun e=>(y6.1,e)).length by rw[List.length_map];exact hk),List.getElem_map,eW _ hk]
  have hs:=zb (p:=n.1) (l:=aw) (s:=k) (by omega)
  have nW:=vV n.1 (aw.take k)
  have hN:(fo n cy).2=(bx n.1 (aw.getD k (0,0))).2:=by rw[tP hn,hp]
  have H6:(aw.take k).length<=2:=by rw[List.length_take];omega
  have zG:dN.length<=4000:=by rw[oh,mG,List.length_append];omega
  refine⟨⟨by omega,by omega⟩,fun hx=>⟨cT (by rw[mH];show dN.length+1<=_;omega) (by decide),aY (by omega) (by omega),k+1,by omega,by omega,by omega,?_⟩,fun hx=>⟨aY (by omega) (by omega),k+1,by omega,by omega,by omega,?_⟩⟩
  ·rw[hs,<-hN,hx,oh,mH,hp]
   exact(List.append_assoc _ _ _).symm
  ·rw[hs,<-hN,hx,oh]
   show bH++(cF n.1 (aw.take k)++[])=_
   rw[List.append_nil]
 ·have vk:=bt k7 h
  have X3:k=aw.length:=by omega
  refine⟨aY (by omega) (by omega),s4+1,by omega,by omega,by omega,?_⟩
  rw[uG h4,oh,X3,List.take_length,nX,h6,mG]
theorem v143 (n:bk) (r:af):ah (aj aA [(148,u9),(144,va)]) Tryz.f143 LV (a143 (n,r,())) (n,r,())=(
U (((List.replicate (2:Nat) (0:Int)).set (0:Nat) (0:Int)).set (1:Nat) (1:Int)) fun(y2:List Int)=>
U (((List.replicate (2:Nat) (0:Int)).set (0:Nat) (2:Int)).set (1:Nat) (3:Int)) fun(y3:List Int)=>
(∃(wz:Nat),
wz<=r.2.2.2.1.length/\
(↑wz:Int)=(0:Int)/\
[n]=[n]/\
(0:Nat)=(0:Nat)/\
r.2.2.2.1=r.2.2.2.1/\
(↑r.2.2.2.1.length:Int)=(↑r.2.2.2.1.length:Int)/\
c8 n.1 r wz=[]/\
ay r (True))/\
∀(s4:Nat),
U (decide ((↑s4:Int)<(↑r.2.2.2.1.length:Int))) fun(y5:Bool)=>
U (r.2.2.2.1.getD (↑s4:Int).toNat ((0:Int),(0:Int),(0:Int))) fun(y6:Int×Int×Int)=>
U (aK n.1 y6.1==(2:Int)) fun(y7:Bool)=>
U ((3:Int) - max y6.2.1 y6.2.2) fun(y8:Int)=>
U (pf n.1 (stepOf r (↑s4:Int))) fun(y9:List Int)=>
U ((List.replicate (1:Nat) (0:Int)).set (0:Nat) y8) fun(bu:List Int)=>
U (c8 n.1 r (↑s4:Int).toNat) fun(bH:List ak)=>
U (js n.1 (stepOf r (↑s4:Int))) fun(aw:List ak)=>
U (aK n.1 y6.1==(3:Int)) fun(aB:Bool)=>
U (decide (y6.2.1>(1:Int))) fun(cL:Bool)=>
s4<=r.2.2.2.1.length->
(y5=true->
aL (↑s4:Int) r.2.2.2.1.length/\
True/\
(y7=true->
bo IntKind.i64 y8/\
(∃(mR:Nat),
mR<=y9.length/\
(↑mR:Int)=(0:Int)/\
(↑y9.length:Int)=(↑bu.length:Int)/\
[n]=[n]/\
(0:Nat)=(0:Nat)/\
r.2.2.2.1=r.2.2.2.1/\
(↑r.2.2.2.1.length:Int)=(↑r.2.2.2.1.length:Int)/\
(↑s4:Int)=(↑s4:Int)/\
bH++cF n.1 (List.take mR aw)=c8 n.1 r s4/\
y9=bu/\
ay r (y6.1=y6.1/\y6.2.1=y6.2.1/\y6.2.2=y6.2.2/\True))/\
∀(eM:Nat),
U (decide ((↑eM:Int)<(↑y9.length:Int))) fun(cC:Bool)=>
U (y6.1,y9.getD (↑eM:Int).toNat (0:Int)) fun(cy:Int×Int)=>
U (bH++cF n.1 (List.take eM aw)) fun(dN:List ak)=>
U ((List.replicate (1:Nat) ((0:Int),(0:Int))).set (0:Nat) cy) fun(fw:List (Int×Int))=>
eM<=y9.length->
(cC=true->
aL (↑eM:Int) y9.length/\
True/\
((fo n cy).2=true->
roomFor (dN.length+fw.length) (16:Nat)/\
bo IntKind.i64 ((↑eM:Int)+(1:Int))/\
∃(dv:Nat),
dv<=y9.length/\
y9.length - dv<y9.length - eM/\
(↑dv:Int)=(↑eM:Int)+(1:Int)/\
(↑y9.length:Int)=(↑y9.length:Int)/\
[n]=[n]/\
(0:Nat)=(0:Nat)/\
r.2.2.2.1=r.2.2.2.1/\
(↑r.2.2.2.1.length:Int)=(↑r.2.2.2.1.length:Int)/\
(↑s4:Int)=(↑s4:Int)/\
bH++cF n.1 (List.take dv aw)=dN++fw/\
y9=y9/\
ay r (y6.1=y6.1/\y6.2.1=y6.2.1/\y6.2.2=y6.2.2/\True))/\
((fo n cy).2=false->
bo IntKind.i64 ((↑eM:Int)+(1:Int))/\
∃(dv:Nat),
dv<=y9.length/\
y9.length - dv<y9.length - eM/\
(↑dv:Int)=(↑eM:Int)+(1:Int)/\
(↑y9.length:Int)=(↑y9.length:Int)/\
[n]=[n]/\
(0:Nat)=(0:Nat)/\
r.2.2.2.1=r.2.2.2.1/\
(↑r.2.2.2.1.length:Int)=(↑r.2.2.2.1.length:Int)/\
(↑s4:Int)=(↑s4:Int)/\
bH++cF n.1 (List.take dv aw)=dN/\
y9=y9/\
ay r (y6.1=y6.1/\y6.2.1=y6.2.1/\y6.2.2=y6.2.2/\True)))/\
(cC=false->
bo IntKind.i64 ((↑s4:Int)+(1:Int))/\
∃(dv:Nat),
dv<=r.2.2.2.1.length/\
r.2.2.2.1.length - dv<r.2.2.2.1.length - s4/\
(↑dv:Int)=(↑s4:Int)+(1:Int)/\
[n]=[n]/\
(0:Nat)=(0:Nat)/\
r.2.2.2.1=r.2.2.2.1/\
(↑r.2.2.2.1.length:Int)=(↑r.2.2.2.1.length:Int)/\
c8 n.1 r dv=dN/\
ay r (True)))/\
(y7=false->
(aB=true->
(cL=true->
(∃(mR:Nat),
mR<=y9.length/\
(↑mR:Int)=(0:Int)/\
(↑y9.length:Int)=(↑y2.length:Int)/\
[n]=[n]/\
(0:Nat)=(0:Nat)/\
r.2.2.2.1=r.2.2.2.1/\
(↑r.2.2.2.1.length:Int)=(↑r.2.2.2.1.length:Int)/\
(↑s4:Int)=(↑s4:Int)/\
bH++cF n.1 (List.take mR aw)=c8 n.1 r s4/\
y9=y2/\
ay r (y6.1=y6.1/\y6.2.1=y6.2.1/\y6.2.2=y6.2.2/\True))/\
∀(eM:Nat),
U (decide ((↑eM:Int)<(↑y9.length:Int))) fun(cC:Bool)=>
U (y6.1,y9.getD (↑eM:Int).toNat (0:Int)) fun(cy:Int×Int)=>
U (bH++cF n.1 (List.take eM aw)) fun(dN:List ak)=>
U ((List.replicate (1:Nat) ((0:Int),(0:Int))).set (0:Nat) cy) fun(fw:List (Int×Int))=>
eM<=y9.length->
(cC=true->
aL (↑eM:Int) y9.length/\
True/\
((fo n cy).2=true->
roomFor (dN.length+fw.length) (16:Nat)/\
bo IntKind.i64 ((↑eM:Int)+(1:Int))/\
∃(dv:Nat),
dv<=y9.length/\
y9.length - dv<y9.length - eM/\
(↑dv:Int)=(↑eM:Int)+(1:Int)/\
(↑y9.length:Int)=(↑y9.length:Int)/\
[n]=[n]/\
(0:Nat)=(0:Nat)/\
r.2.2.2.1=r.2.2.2.1/\
(↑r.2.2.2.1.length:Int)=(↑r.2.2.2.1.length:Int)/\
(↑s4:Int)=(↑s4:Int)/\
bH++cF n.1 (List.take dv aw)=dN++fw/\
y9=y9/\
ay r (y6.1=y6.1/\y6.2.1=y6.2.1/\y6.2.2=y6.2.2/\True))/\
((fo n cy).2=false->
bo IntKind.i64 ((↑eM:Int)+(1:Int))/\
∃(dv:Nat),
dv<=y9.length/\
y9.length - dv<y9.length - eM/\
(↑dv:Int)=(↑eM:Int)+(1:Int)/\
(↑y9.length:Int)=(↑y9.length:Int)/\
[n]=[n]/\
(0:Nat)=(0:Nat)/\
r.2.2.2.1=r.2.2.2.1/\
(↑r.2.2.2.1.length:Int)=(↑r.2.2.2.1.length:Int)/\
(↑s4:Int)=(↑s4:Int)/\
bH++cF n.1 (List.take dv aw)=dN/\
y9=y9/\
ay r (y6.1=y6.1/\y6.2.1=y6.2.1/\y6.2.2=y6.2.2/\True)))/\
(cC=false->
bo IntKind.i64 ((↑s4:Int)+(1:Int))/\
∃(dv:Nat),
dv<=r.2.2.2.1.length/\
r.2.2.2.1.length - dv<r.2.2.2.1.length - s4/\
(↑dv:Int)=(↑s4:Int)+(1:Int)/\
[n]=[n]/\
(0:Nat)=(0:Nat)/\
r.2.2.2.1=r.2.2.2.1/\
(↑r.2.2.2.1.length:Int)=(↑r.2.2.2.1.length:Int)/\
c8 n.1 r dv=dN/\
ay r (True)))/\
(cL=false->
(∃(mR:Nat),
mR<=y9.length/\
(↑mR:Int)=(0:Int)/\
(↑y9.length:Int)=(↑y3.length:Int)/\
[n]=[n]/\
(0:Nat)=(0:Nat)/\
r.2.2.2.1=r.2.2.2.1/\
(↑r.2.2.2.1.length:Int)=(↑r.2.2.2.1.length:Int)/\
(↑s4:Int)=(↑s4:Int)/\
bH++cF n.1 (List.take mR aw)=c8 n.1 r s4/\
y9=y3/\
ay r (y6.1=y6.1/\y6.2.1=y6.2.1/\y6.2.2=y6.2.2/\True))/\
∀(eM:Nat),
U (decide ((↑eM:Int)<(↑y9.length:Int))) fun(cC:Bool)=>
U (y6.1,y9.getD (↑eM:Int).toNat (0:Int)) fun(cy:Int×Int)=>
U (bH++cF n.1 (List.take eM aw)) fun(dN:List ak)=>
U ((List.replicate (1:Nat) ((0:Int),(0:Int))).set (0:Nat) cy) fun(fw:List (Int×Int))=>
eM<=y9.length->
(cC=true->
aL (↑eM:Int) y9.length/\
True/\
((fo n cy).2=true->
roomFor (dN.length+fw.length) (16:Nat)/\
bo IntKind.i64 ((↑eM:Int)+(1:Int))/\
∃(dv:Nat),
dv<=y9.length/\
y9.length - dv<y9.length - eM/\
(↑dv:Int)=(↑eM:Int)+(1:Int)/\
(↑y9.length:Int)=(↑y9.length:Int)/\
[n]=[n]/\
(0:Nat)=(0:Nat)/\
r.2.2.2.1=r.2.2.2.1/\
(↑r.2.2.2.1.length:Int)=(↑r.2.2.2.1.length:Int)/\
(↑s4:Int)=(↑s4:Int)/\
bH++cF n.1 (List.take dv aw)=dN++fw/\
y9=y9/\
ay r (y6.1=y6.1/\y6.2.1=y6.2.1/\y6.2.2=y6.2.2/\True))/\
((fo n cy).2=false->
bo IntKind.i64 ((↑eM:Int)+(1:Int))/\
∃(dv:Nat),
dv<=y9.length/\
y9.length - dv<y9.length - eM/\
(↑dv:Int)=(↑eM:Int)+(1:Int)/\
(↑y9.length:Int)=(↑y9.length:Int)/\
[n]=[n]/\
(0:Nat)=(0:Nat)/\
r.2.2.2.1=r.2.2.2.1/\
(↑r.2.2.2.1.length:Int)=(↑r.2.2.2.1.length:Int)/\
(↑s4:Int)=(↑s4:Int)/\
bH++cF n.1 (List.take dv aw)=dN/\
y9=y9/\
ay r (y6.1=y6.1/\y6.2.1=y6.2.1/\y6.2.2=y6.2.2/\True)))/\
(cC=false->
bo IntKind.i64 ((↑s4:Int)+(1:Int))/\
∃(dv:Nat),
dv<=r.2.2.2.1.length/\
r.2.2.2.1.length - dv<r.2.2.2.1.length - s4/\
(↑dv:Int)=(↑s4:Int)+(1:Int)/\
[n]=[n]/\
(0:Nat)=(0:Nat)/\
r.2.2.2.1=r.2.2.2.1/\
(↑r.2.2.2.1.length:Int)=(↑r.2.2.2.1.length:Int)/\
c8 n.1 r dv=dN/\
ay r (True))))/\
(aB=false->
(∃(mR:Nat),
mR<=y9.length/\
(↑mR:Int)=(0:Int)/\
(↑y9.length:Int)=(0:Int)/\
[n]=[n]/\
(0:Nat)=(0:Nat)/\
r.2.2.2.1=r.2.2.2.1/\
(↑r.2.2.2.1.length:Int)=(↑r.2.2.2.1.length:Int)/\
(↑s4:Int)=(↑s4:Int)/\
bH++cF n.1 (List.take mR aw)=c8 n.1 r s4/\
y9=[]/\
ay r (y6.1=y6.1/\y6.2.1=y6.2.1/\y6.2.2=y6.2.2/\True))/\
∀(eM:Nat),
U (decide ((↑eM:Int)<(↑y9.length:Int))) fun(cC:Bool)=>
U (y6.1,y9.getD (↑eM:Int).toNat (0:Int)) fun(cy:Int×Int)=>
U (bH++cF n.1 (List.take eM aw)) fun(dN:List ak)=>
U ((List.replicate (1:Nat) ((0:Int),(0:Int))).set (0:Nat) cy) fun(fw:List (Int×Int))=>
eM<=y9.length->
(cC=true->
aL (↑eM:Int) y9.length/\
True/\
((fo n cy).2=true->
roomFor (dN.length+fw.length) (16:Nat)/\
bo IntKind.i64 ((↑eM:Int)+(1:Int))/\
∃(dv:Nat),
dv<=y9.length/\
y9.length - dv<y9.length - eM/\
(↑dv:Int)=(↑eM:Int)+(1:Int)/\
(↑y9.length:Int)=(↑y9.length:Int)/\
[n]=[n]/\
(0:Nat)=(0:Nat)/\
r.2.2.2.1=r.2.2.2.1/\
(↑r.2.2.2.1.length:Int)=(↑r.2.2.2.1.length:Int)/\
(↑s4:Int)=(↑s4:Int)/\
bH++cF n.1 (List.take dv aw)=dN++fw/\
y9=y9/\
ay r (y6.1=y6.1/\y6.2.1=y6.2.1/\y6.2.2=y6.2.2/\True))/\
((fo n cy).2=false->
bo IntKind.i64 ((↑eM:Int)+(1:Int))/\
∃(dv:Nat),
dv<=y9.length/\
y9.length - dv<y9.length - eM/\
(↑dv:Int)=(↑eM:Int)+(1:Int)/\
(↑y9.length:Int)=(↑y9.length:Int)/\
[n]=[n]/\
(0:Nat)=(0:Nat)/\
r.2.2.2.1=r.2.2.2.1/\
(↑r.2.2.2.1.length:Int)=(↑r.2.2.2.1.length:Int)/\
(↑s4:Int)=(↑s4:Int)/\
bH++cF n.1 (List.take dv aw)=dN/\
y9=y9/\
ay r (y6.1=y6.1/\y6.2.1=y6.2.1/\y6.2.2=y6.2.2/\True)))/\
(cC=false->
bo IntKind.i64 ((↑s4:Int)+(1:Int))/\
∃(dv:Nat),
dv<=r.2.2.2.1.length/\
r.2.2.2.1.length - dv<r.2.2.2.1.length - s4/\
(↑dv:Int)=(↑s4:Int)+(1:Int)/\
[n]=[n]/\
(0:Nat)=(0:Nat)/\
r.2.2.2.1=r.2.2.2.1/\
(↑r.2.2.2.1.length:Int)=(↑r.2.2.2.1.length:Int)/\
c8 n.1 r dv=dN/\
ay r (True)))))/\
(y5=false->c8 n.1 r s4=bE n.1 r/\True)):=by kernel_rfl
theorem ako (n:bk) (r:af) (hn:pq n) (hr:qB r):ah (aj aA [(148,u9),(144,va)]) Tryz.f143 LV (a143 (n,r,())) (n,r,()):=by
 have Vg:=hr.1
 rw[v143]
 refine U.mk fun y2 e2=>U.mk fun y3 e3=>⟨?_,?_⟩
 ·refine⟨0,by omega,rfl,rfl,rfl,rfl,rfl,?_,rfl,rfl,rfl,rfl,rfl,rfl,rfl,rfl,rfl,trivial⟩
  unfold c8
  rfl
 ·intro k
  refine U.mk fun y5 e5=>U.mk fun y6 e6=>U.mk fun y7 e7=>U.mk fun y8 e8=>U.mk fun y9 e9=>U.mk fun bu dy=>U.mk fun bH eK=>U.mk fun aw dW=>U.mk fun aB gE=>U.mk fun cL j5=>fun hk=>⟨fun h=> ?_,fun h=> ?_⟩
  ·have hk:=aZ e5 h
   have h6:y6=r.2.2.2.1.getD k iC:=e6
   have jD:stepOf r (k:Int)=y6:=h6.symm
   have h9:y9=pf n.1 y6:=by rw[e9,jD]
   have mG:bH=c8 n.1 r k:=eK
   have nX:aw=js n.1 y6:=by rw[dW,jD]
   have hm:xn y6:=hr.2 y6 (by rw[h6];exact fJ iC hk)
   obtain⟨⟨m1,m2⟩,m3,m4⟩:=hm
   have h0:bH++cF n.1 (aw.take 0)=c8 n.1 r k:=by
    rw[mG]
    show c8 n.1 r k++cF n.1 []=_
    unfold cF
    exact List.append_nil _
   have fin:∀(z:List Int),y9=z->(∃(mR:Nat),mR<=y9.length/\(↑mR:Int)=(0:Int)/\(↑y9.length:Int)=(↑z.length:Int)/\bH++cF n.1 (List.take mR aw)=c8 n.1 r k/\y9=z):=fun z hz=>⟨0,by omega,rfl,by rw[hz],h0,hz⟩
   have inn:=U8 n r k y6 y9 bH aw hn hr hk h6 h9 mG nX
   refine⟨⟨by omega,by omega⟩,trivial,fun h7=> ?_,fun h7=>⟨fun kP=>⟨fun qW=> ?_,fun qW=> ?_⟩,fun kP=> ?_⟩⟩
   ·have hz:y9=bu:=by
     rw[h9,dy,e8]
     unfold pf
     rw[<-e7,h7]
     rfl
    obtain⟨j,q1,q2,q3,q4,q5⟩:=fin _ hz
    exact⟨aY (by omega) (by omega),⟨j,q1,q2,q3,rfl,rfl,rfl,rfl,rfl,q4,q5,rfl,rfl,rfl,rfl,rfl,rfl,rfl,rfl,rfl,rfl,rfl,rfl,trivial⟩,inn⟩
   ·have hz:y9=y2:=by
     rw[h9,e2]
     unfold pf
     rw[<-e7,h7,<-gE,kP,<-j5,qW]
     rfl
    obtain⟨j,q1,q2,q3,q4,q5⟩:=fin _ hz
    exact⟨⟨j,q1,q2,q3,rfl,rfl,rfl,rfl,rfl,q4,q5,rfl,rfl,rfl,rfl,rfl,rfl,rfl,rfl,rfl,rfl,rfl,rfl,trivial⟩,inn⟩
   ·have hz:y9=y3:=by
     rw[h9,e3]
     unfold pf
     rw[<-e7,h7,<-gE,kP,<-j5,qW]
     rfl
    obtain⟨j,q1,q2,q3,q4,q5⟩:=fin _ hz
    exact⟨⟨j,q1,q2,q3,rfl,rfl,rfl,rfl,rfl,q4,q5,rfl,rfl,rfl,rfl,rfl,rfl,rfl,rfl,rfl,rfl,rfl,rfl,trivial⟩,inn⟩
   ·have hz:y9=[]:=by
     rw[h9]
     unfold pf
     rw[<-e7,h7,<-gE,kP]
     rfl
    obtain⟨j,q1,q2,q3,q4,q5⟩:=fin _ hz
    exact⟨⟨j,q1,q2,q3,rfl,rfl,rfl,rfl,rfl,q4,q5,rfl,rfl,rfl,rfl,rfl,rfl,rfl,rfl,rfl,rfl,rfl,rfl,trivial⟩,inn⟩
  ·have vk:=bt e5 h
   have:k=r.2.2.2.1.length:=by omega
   subst this
   refine⟨?_,trivial⟩
   unfold bE
   rfl
theorem ady:aN Tryz.prog 143 LV:=
 aN.b3 (l:=[(148,u9),(144,va)]) (A:=a143) aJ ⟨ME,MF,trivial⟩ Tryz.func143 (by kernel_rfl) (by kernel_rfl) fun x _ hp=>ako x.1 x.2.1 hp.1 hp.2
theorem agX (r:af) (e:Int):bS (aj aA [(74,Ce)]) Tryz.f149 LR ar (r,e,())=(
U (bN r.2.2.2.2.2.2.1 e) fun(y2:Bool)=>
U (dG r e).2.2.2 fun(y3:Int×List (Int×Int×Int)×List (Int×Int)×List (Int×Int)×List Int×List Int×Bool)=>
U (decide ((↑r.2.2.2.2.2.2.1.length:Int)>=(12:Int))) fun(y4:Bool)=>
U ((List.replicate (1:Nat) (0:Int)).set (0:Nat) e) fun(y5:List Int)=>
True/\
(y2=true->
true=(dG r e).1/\
r.1=(dG r e).2.1/\
r.2.1=(dG r e).2.2.1/\
r.2.2.1=y3.1/\
r.2.2.2.1=y3.2.1/\
r.2.2.2.2.1=y3.2.2.1/\
r.2.2.2.2.2.1=y3.2.2.2.1/\
r.2.2.2.2.2.2.1=y3.2.2.2.2.1/\
r.2.2.2.2.2.2.2.1=y3.2.2.2.2.2.1/\r.2.2.2.2.2.2.2.2=y3.2.2.2.2.2.2/\True)/\
(y2=false->
(y4=true->
false=(dG r e).1/\
r.1=(dG r e).2.1/\
r.2.1=(dG r e).2.2.1/\
r.2.2.1=y3.1/\
r.2.2.2.1=y3.2.1/\
r.2.2.2.2.1=y3.2.2.1/\
r.2.2.2.2.2.1=y3.2.2.2.1/\
r.2.2.2.2.2.2.1=y3.2.2.2.2.1/\r.2.2.2.2.2.2.2.1=y3.2.2.2.2.2.1/\true=y3.2.2.2.2.2.2/\True)/\
(y4=false->
roomFor (r.2.2.2.2.2.2.1.length+y5.length) (8:Nat)/\
true=(dG r e).1/\
r.1=(dG r e).2.1/\
r.2.1=(dG r e).2.2.1/\
r.2.2.1=y3.1/\
r.2.2.2.1=y3.2.1/\
r.2.2.2.2.1=y3.2.2.1/\
r.2.2.2.2.2.1=y3.2.2.2.1/\
r.2.2.2.2.2.2.1++y5=y3.2.2.2.2.1/\
r.2.2.2.2.2.2.2.1=y3.2.2.2.2.2.1/\r.2.2.2.2.2.2.2.2=y3.2.2.2.2.2.2/\True))):=by kernel_rfl
theorem akm (r:af) (e:Int) (hl:r.2.2.2.2.2.2.1.length<=1000):bS (aj aA [(74,Ce)]) Tryz.f149 LR ar (r,e,()):=by
 rw[agX]
 refine U.mk fun y2 e2=>U.mk fun y3 e3=>U.mk fun y4 e4=>U.mk fun y5 e5=>⟨trivial,fun h=> ?_,fun h=>⟨fun h4=> ?_,fun h4=> ?_⟩⟩
 ·have hz:dG r e=(true,r):=by unfold dG;rw[<-e2,h];rfl
  rw[e3,hz]
  exact⟨rfl,rfl,rfl,rfl,rfl,rfl,rfl,rfl,rfl,rfl,trivial⟩
 ·have h4:decide (12<=r.2.2.2.2.2.2.1.length)=true:=by rw[<-Sd _ 12 12 rfl,<-e4];exact h4
  have hz:dG r e=(false,WU r):=by unfold dG;rw[<-e2,h,h4];rfl
  rw[e3,hz]
  exact⟨rfl,rfl,rfl,rfl,rfl,rfl,rfl,rfl,rfl,rfl,trivial⟩
 ·have h4:decide (12<=r.2.2.2.2.2.2.1.length)=false:=by rw[<-Sd _ 12 12 rfl,<-e4];exact h4
  have hz:dG r e=(true,WT r (r.2.2.2.2.2.2.1++[e])):=by unfold dG;rw[<-e2,h,h4];rfl
  rw[e3,hz,e5]
  exact⟨cT (by show _+1<=_;omega) (by decide),rfl,rfl,rfl,rfl,rfl,rfl,rfl,rfl,rfl,rfl,trivial⟩
theorem adv:fq Tryz.prog 149 LR:=
 fq.b3 (l:=[(74,Ce)]) (A:=fun _=>ar) aJ ⟨Te,trivial⟩ Tryz.func149 (by kernel_rfl) (by kernel_rfl) fun x hw hp=>akm x.1 x.2.1 hp
theorem v145 (e:Int) (stop:Int) (n:bk) (todo:List (Int×Int)):bS (aj aA [(144,va)]) Tryz.f145 LU ar (e,stop,n,todo,())=(
U (fo n (e,stop)).2 fun(y4:Bool)=>
U ((List.replicate (1:Nat) ((0:Int),(0:Int))).set (0:Nat) (fo n (e,stop)).1) fun(y5:List (Int×Int))=>
True/\(y4=true->roomFor (todo.length+y5.length) (16:Nat)/\n=n/\todo++y5=pw n e stop todo/\True)/\(y4=false->n=n/\todo=pw n e stop todo/\True)):=by kernel_rfl
theorem akn (e stop:Int) (n:bk) (todo:List ak) (hl:todo.length<=1000000):bS (aj aA [(144,va)]) Tryz.f145 LU ar (e,stop,n,todo,()):=by
 rw[v145]
 refine U.mk fun y4 e4=>U.mk fun y5 e5=>⟨trivial,fun h=> ?_,fun h=> ?_⟩
 ·refine⟨cT (by rw[e5];show _+1<=_;omega) (by decide),rfl,?_,trivial⟩
  unfold pw
  rw[<-e4,h,e5]
  rfl
 ·refine⟨rfl,?_,trivial⟩
  unfold pw
  rw[<-e4,h]
  exact(List.append_nil _).symm
theorem adx:fq Tryz.prog 145 LU:=
 fq.b3 (l:=[(144,va)]) (A:=fun _=>ar) aJ ⟨MF,trivial⟩ Tryz.func145 (by kernel_rfl) (by kernel_rfl) fun x hw hp=>akn x.1 x.2.1 x.2.2.1 x.2.2.2.1 hp
theorem v222 (l:List (Int×Int)) (x:Int×Int):ah (aj aA []) Tryz.f222 Ld (a222 (l,x,())) (l,x,())=(
U (fp (fun(y:ba)=>x==y) l) fun(y2:Int)=>
(∃(fB:Nat),
(fB<=l.length/\((List.take fB l).any fun(y:ba)=>x==y)=false)/\(↑fB:Int)=(0:Int)/\l=l/\(↑l.length:Int)=(↑l.length:Int)/\x.1=x.1/\x.2=x.2/\True)/\
∀(s3:Nat),
U (decide ((↑s3:Int)<(↑l.length:Int))) fun(y4:Bool)=>
U (l.getD (↑s3:Int).toNat ((0:Int),(0:Int))) fun(y5:Int×Int)=>
U (x.1==y5.1&&(x.2==y5.2&&true)) fun(y6:Bool)=>
s3<=l.length/\((List.take s3 l).any fun(y:ba)=>x==y)=false->
(y4=true->
aL (↑s3:Int) l.length/\
(y6=true->(↑s3:Int)=y2/\True)/\
(y6=false->
bo IntKind.i64 ((↑s3:Int)+(1:Int))/\
∃(nD:Nat),
(nD<=l.length/\((List.take nD l).any fun(y:ba)=>x==y)=false)/\
l.length - nD<l.length - s3/\(↑nD:Int)=(↑s3:Int)+(1:Int)/\l=l/\(↑l.length:Int)=(↑l.length:Int)/\x.1=x.1/\x.2=x.2/\True))/\
(y4=false->(-1:Int)=y2/\True)):=by kernel_rfl
theorem ajW (l:List ba) (x:ba) (hw:l.length<=aM):ah (aj aA []) Tryz.f222 Ld (a222 (l,x,())) (l,x,()):=by
 rw[v222]
 refine U.mk fun y2 e2=> ?_
 simp only[true_and,and_true,eq_self]
 refine⟨⟨0,⟨by omega,by simp⟩,by omega⟩,fun s=>U.mk fun y4 e4=>U.mk fun y5 e5=>U.mk fun y6 e6=> ?_⟩
 rintro⟨h1,h2⟩
 rw[Int.toNat_natCast] at e5
 have e6:y6=(x==y5):=by rw[e6];exact sH _ _
 refine⟨fun hs=> ?_,fun hs=> ?_⟩
 ·have hs:=aZ e4 hs
  refine⟨⟨by omega,by omega⟩,fun e=> ?_,fun e=>⟨dw hs hw,s+1,⟨by omega,?_⟩,by omega,by omega⟩⟩
  ·rw[e2]
   exact rX ((0,0):ba) hs h2 (by rw[<-e5,<-e6];exact e)
  ·exact any_succ ((0,0):ba) hs h2 (by rw[<-e5,<-e6];exact e)
 ·rw[e2]
  exact qp (s:=s) (bt e4 hs) h2
theorem acI:aN Tryz.prog 222 Ld:=
 aN.b3 (l:=[]) (A:=a222) aJ trivial Tryz.func222 (by kernel_rfl) (by kernel_rfl) fun x hw hp=>ajW x.1 x.2.1 hw.1.1
theorem agV (l:List (Int×Int)) (x:Int×Int):ah (aj aA [(222,Ld)]) Tryz.f150 LQ ar (l,x,())=(
U (fp (fun(y:ba)=>x==y) l) fun(y2:Int)=>True/\decide (y2>=(0:Int))=bq l x/\True):=by kernel_rfl
theorem akk (l:List ba) (x:ba):ah (aj aA [(222,Ld)]) Tryz.f150 LQ ar (l,x,()):=by
 rw[agV]
 refine U.mk fun y2 e2=>⟨trivial,?_,trivial⟩
 rw[e2,p9]
 unfold bq
 congr 1
 funext y
 rw[fI]
theorem adt:aN Tryz.prog 150 LQ:=
 aN.b3 (l:=[(222,Ld)]) (A:=fun _=>ar) aJ ⟨acI,trivial⟩ Tryz.func150 (by kernel_rfl) (by kernel_rfl) fun x hw hp=>akk x.1 x.2.1
theorem W1:aN Tryz.prog 54 I5:=ahC.ptr fun x h=>by
 obtain⟨n,h1⟩:=h
 exact⟨n,h1,trivial⟩
theorem Z7:aN Tryz.prog 141 NT:=adz.ptr fun x h=>by
 obtain⟨n,h1,h2⟩:=h
 exact⟨n,h1,h2⟩
theorem Ry {o:Option bk} (h:tm o):pq (bI o)/\o=some (bI o):=by
 obtain⟨n,rfl,h⟩:=h
 exact⟨h,rfl⟩
theorem af0 (o:Option (bk)):bS (aj aA [(54,I5),(141,NT)]) Tryz.f97 KY (Y2 (o,())) (o,())=(
U (bI o).1.2.2.1.length fun(y1:Nat)=>
iS o/\
(∃(dr:Nat),dr<=y1/\(↑dr:Int)=(0:Int)/\o=o/\(↑y1:Int)=(↑y1:Int)/\fP (bI o).1 dr=[]/\True)/\
∀(s2:Nat),
U (decide ((↑s2:Int)<(↑y1:Int))) fun(y3:Bool)=>
U (fP (bI o).1 s2).length fun(y4:Nat)=>
U (py (bI o).1 (↑s2:Int)) fun(y5:List af)=>
s2<=y1->
(y3=true->
tm o/\
roomFor (y4+y5.length) (152:Nat)/\
bo IntKind.i64 ((↑s2:Int)+(1:Int))/\
∃(eV:Nat),
eV<=y1/\
y1 - eV<y1 - s2/\(↑eV:Int)=(↑s2:Int)+(1:Int)/\o=o/\(↑y1:Int)=(↑y1:Int)/\fP (bI o).1 eV=fP (bI o).1 s2++y5/\True)/\
(y3=false->
(decide ((↑y4:Int)>(64:Int))=true->[]=(cZ (bI o).1).1/\(3:Int)=(cZ (bI o).1).2/\True)/\
(decide ((↑y4:Int)>(64:Int))=false->fP (bI o).1 s2=(cZ (bI o).1).1/\(0:Int)=(cZ (bI o).1).2/\True))):=by kernel_rfl
theorem ajB (o:Option bk) (ho:tm o):bS (aj aA [(54,I5),(141,NT)]) Tryz.f97 KY (Y2 (o,())) (o,()):=by
 obtain⟨hn,PC⟩:=Ry ho
 have hs:=(jL (gw hn.2).1).2.1
 rw[af0]
 refine U.mk fun y1 e1=>⟨⟨_,PC⟩,⟨0,by omega,rfl,rfl,rfl,by unfold fP;rfl,trivial⟩,fun k=>U.mk fun y3 e3=>U.mk fun y4 e4=>U.mk fun y5 e5=>fun hk=>⟨fun h=> ?_,fun h=> ?_⟩⟩
 ·have hk:=aZ e3 h
  have h1:=DS (bI o).1 k
  have h2:=CK (bI o).1 k
  exact⟨ho,cT (by rw[e4,e5];omega) (by decide),aY (by omega) (by omega),k+1,by omega,by omega,by omega,rfl,rfl,by rw[e5];exact tF _ _,trivial⟩
 ·have hk:=bt e3 h
  have:k=y1:=by omega
  subst this
  have e4:decide ((y4:Int)>64)=decide (64<(fP (bI o).1 (bI o).1.2.2.1.length).length):=by
   rw[<-e1,<-e4,wc _ 64 64 rfl]
   by_cases h:y4<=64
   ·rw[decide_eq_true h,decide_eq_false (by omega)];rfl
   ·rw[decide_eq_false h,decide_eq_true (by omega)];rfl
  rw[all_eq,e4,e1]
  refine⟨fun h=> ?_,fun h=> ?_⟩
  ·rw[h];exact⟨rfl,rfl,trivial⟩
  ·rw[h];exact⟨rfl,rfl,trivial⟩
theorem acj:fq Tryz.prog 97 KY:=
 fq.b3 (l:=[(54,I5),(141,NT)]) (A:=Y2) aJ ⟨W1,Z7,trivial⟩ Tryz.func97 (by kernel_rfl) (by kernel_rfl) fun x _ hp=>ajB x.1 hp
theorem ach:aN Tryz.prog 99 TH:=abm.ptr fun x h=>by
 obtain⟨⟨n,h1⟩,h2⟩:=h
 refine⟨n,h1,?_⟩
 rw[h1] at h2
 exact h2
theorem HG {l:List Int}:∀{k:Nat},k<=l.length->(∀j,j<k->(l.getD j 0)∉l.take j)->(l.take k).Nodup
 |0,_,_=>by simp
 |k+1,hk,h=>by
  rw[eQ 0 (by omega),List.nodup_append]
  refine⟨HG (by omega) fun j hj=>h j (by omega),by simp,fun a ha b hb=> ?_⟩
  rw[List.mem_singleton] at hb
  intro e
  subst e
  exact h k (by omega) (hb▸ha)
theorem MN {l:List Int} {e:Int} (h:e∈l):bN l e=true:=by
 unfold bN
 exact List.any_eq_true.2 ⟨e,h,beq_self_eq_true e⟩
theorem MT {p:ab} (h:bX p=0):cY p:=fun l hl=>by
 obtain⟨hS,_,_,_,hL⟩:=gw h
 have hs:=(jL hS).1
 obtain⟨i,hi,rfl⟩:=List.getElem_of_mem hl
 have hg:p.2.2.2.1[i]=p.2.2.2.1.getD i zL:=(eW zL hi).symm
 rw[hg]
 have he:=MU hL hi
 unfold fO at hL
 have mY:=gx.1 hL i hi
 unfold jk at mY
 rw[Bool.and_eq_true] at mY
 generalize zy:(p.2.2.2.1.getD i zL).2=l at *
 have hn:l.Nodup:=by
  have:=HG (l:=l) (Nat.le_refl _) fun j hj hm=>by
   have:=gx.1 mY.1 j hj
   unfold ma at this
   rw[zy] at this
   have h2:bN (kN p i++l.take j) (l.getD j 0)=false:=by simpa using this
   rw[MN (List.mem_append_right _ hm)] at h2
   cases h2
  rwa [List.take_length] at this
 have hr:∀e∈l,e∈(List.range p.1.length).map fun(k:Nat)=>(k:Int):=fun e Vm=>by
  obtain⟨k,hk,rfl⟩:=List.getElem_of_mem Vm
  have R3:=(NK he hk).2
  rw[eW 0 hk] at R3
  have hr:=qk (p:=p) (e:=l[k]) (by rw[R3];decide)
  exact List.mem_map.2 ⟨l[k].toNat,List.mem_range.2 (by omega),by omega⟩
 have:=pZ hn hr
 rw[List.length_map,List.length_range] at this
 omega
theorem HJ {n:bk} (h:pq n):kK n.1:=by
 have hs:=jL (gw h.2).1
 exact⟨by show _<=1000;omega,by show _<=1000;omega,by show _<=1000;omega,by show _<=1000;omega,MT h.2⟩
theorem A4 {p:ab} {y:ak} (hh:dC p y=true) (h4:(aK p y.1==4)=false) (h2:(aK p y.1==2)=false):cx p y.1 y.2 0=((mw p y.1 y.2 0).1,true):=by
 obtain⟨e,i⟩:=y
 obtain⟨_,h0,hE⟩:=xQ hh
 have h0:0<=i:=h0
 have hE:i<cQ (aK p e):=hE
 have h4:(aK p e==4)=false:=h4
 have h2:(aK p e==2)=false:=h2
 have e1:cQ 1=2:=by unfold cQ;rfl
 have e3:cQ 3=4:=by unfold cQ;rfl
 have hk:aK p e=1\/aK p e=3:=by
  by_cases k1:aK p e=1
  ·exact .inl k1
  ·by_cases k3:aK p e=3
   ·exact .inr k3
   ·exfalso
    have k1:(aK p e==1)=false:=by simpa using k1
    have k3:(aK p e==3)=false:=by simpa using k3
    unfold cQ at hE
    rw[k1,h2,k3,h4] at hE
    have:i<0:=hE
    omega
 have has:∀j,0<=j->j<cQ (aK p e)->dC p (e,j)=true:=fun j j0 j1=>by
  unfold dC at hh ⊢
  simp only[Bool.and_eq_true,decide_eq_true_eq] at hh ⊢
  exact⟨hh.1,hh.2.1,j0,j1⟩
 rcases hk with hk|hk
 ·have kk:(aK p e==1)=true:=by rw[hk];rfl
  have Mk:∀j,0<=j->j<2->cx p e j 0=(1 - j,true):=fun j j0 j1=>by
   unfold cx bG
   rw[has j j0 (by rw[hk,e1];exact j1),kk]
   rfl
  rw[hk,e1] at hE
  show cx p e i 0=((mw p e i 0).1,true)
  rw[Mk i h0 hE]
  unfold mw
  rw[hk,e1]
  have hi:i=0\/i=1:=by omega
  have t0:=Mk 0 (by decide) (by decide)
  have t1:=Mk 1 (by decide) (by decide)
  rcases hi with rfl|rfl
  ·show _=((FR ((List.range 2).find? fun i=>(cx p e (i:Int) 0).2&&(cx p e (i:Int) 0).1==0)).1,true)
   simp only[List.range_succ,List.range_zero,List.nil_append,List.cons_append,List.find?_cons]
   rw[show cx p e ((0:Nat):Int) 0=(1 - 0,true) from t0,show cx p e ((1:Nat):Int) 0=(1 - 1,true) from t1]
   rfl
  ·show _=((FR ((List.range 2).find? fun i=>(cx p e (i:Int) 0).2&&(cx p e (i:Int) 0).1==1)).1,true)
   simp only[List.range_succ,List.range_zero,List.nil_append,List.cons_append,List.find?_cons]
   rw[show cx p e ((0:Nat):Int) 0=(1 - 0,true) from t0]
   rfl
 ·have k1:(aK p e==1)=false:=by rw[hk];rfl
  have k3:(aK p e==3)=true:=by rw[hk];rfl
  have Mk:∀j,0<=j->j<4->cx p e j 0=(tD j,true):=fun j j0 j1=>by
   unfold cx bG
   rw[has j j0 (by rw[hk,e3];exact j1),k1,k3]
   rfl
  rw[hk,e3] at hE
  show cx p e i 0=((mw p e i 0).1,true)
  rw[Mk i h0 hE]
  unfold mw
  rw[hk,e3]
  have hi:i=0\/i=1\/i=2\/i=3:=by omega
  have t0:cx p e ((0:Nat):Int) 0=(1,true):=Mk 0 (by decide) (by decide)
  have t1:cx p e ((1:Nat):Int) 0=(0,true):=Mk 1 (by decide) (by decide)
  have t2:cx p e ((2:Nat):Int) 0=(3,true):=Mk 2 (by decide) (by decide)
  have t3:cx p e ((3:Nat):Int) 0=(2,true):=Mk 3 (by decide) (by decide)
  have go:∀q,(FR ((List.range 4).find? fun i=>(cx p e (i:Int) 0).2&&(cx p e (i:Int) 0).1==q)).1=(FR (bif(1:Int)==q then some 0 else bif(0:Int)==q then some 1 else bif(3:Int)==q then some 2 else bif(2:Int)==q then some 3 else none)).1:=fun q=>by
   simp only[List.range_succ,List.range_zero,List.nil_append,List.cons_append,List.find?_cons,List.find?_nil]
   rw[t0,t1,t2,t3]
   show(FR (match(1:Int)==q with |true=>some 0|false=>match(0:Int)==q with |true=>some 1|false=>match(3:Int)==q with |true=>some 2|false=>match(2:Int)==q with |true=>some 3|false=>none)).1=_
   cases (1:Int)==q<;>cases (0:Int)==q<;>cases (3:Int)==q<;>cases (2:Int)==q<;>rfl
  rcases hi with rfl|rfl|rfl|rfl
  ·exact Prod.ext (go 0).symm rfl
  ·exact Prod.ext (go 1).symm rfl
  ·exact Prod.ext (go 2).symm rfl
  ·exact Prod.ext (go 3).symm rfl
theorem Vx {n:bk} {r:af} {y:ak} {ts:List ak} {s:au} (h:iR n r (y::ts,s)):
  iR n r ((jb y s).1++ts,(jb y s).2)/\eY ((jb y s).1++ts) (jb y s).2<eY (y::ts) s:=by
 obtain⟨h1,h2,h3,h4,h5⟩:=h
 have h1:fin (y::ts) s=_:=h1
 have h3:s.1=n.1:=h3
 have h5:eY (y::ts) s<=100000:=h5
 have hy:y∈bW s.1:=by rw[h3];exact h4 y List.mem_cons_self
 obtain⟨k1,k2,k3,k4⟩:=Vz (y:=y) (ts:=ts) (s:=s) ⟨h2,hy⟩
 refine⟨⟨by show fin ((jb y s).1++ts) (jb y s).2=_;rw[<-k1];exact h1,k2.gl h2,k2.qJ.trans h3,fun x hx=> ?_,Nat.le_trans (Nat.le_of_lt k4) h5⟩,k4⟩
 rcases List.mem_append.1 hx with hx|hx
 ·rw[<-h3];exact k3 x hx
 ·exact h4 x (List.mem_cons_of_mem _ hx)
def uE (s:au):af:=(s.2.1,s.2.2.1,s.2.2.2.1,eP s,cX s,aS s,cP s,cH s,s.2.2.2.2.2.2.2.2.2.1)
theorem Ta (s:au):iZ s=uE s:=by unfold iZ;rfl
theorem QD (s:au) (e:Int):(dG (uE s) e).1=(bK s e).1/\(dG (uE s) e).2=uE (bK s e).2/\ct (bK s e).2=ct s/\(bK s e).2.1=s.1:=by
 unfold dG bK
 show(bif bN (cP s) e then _ else bif decide (12<=(cP s).length) then _ else _:Bool×af).1=_/\(bif bN (cP s) e then _ else bif decide (12<=(cP s).length) then _ else _:Bool×af).2=_/\_
 cases bN (cP s) e with
 |true=>exact⟨rfl,rfl,rfl,rfl⟩
 |false=>cases decide (12<=(cP s).length)<;>exact⟨rfl,rfl,rfl,rfl⟩
theorem OQ (p:ab) (e stop:Int):(mT p e stop).reverse=mT p e stop:=by
 unfold mT
 cases (bx p (e,stop)).2<;>rfl
theorem Kp {n:bk} (hn:pq n) (e stop:Int) (l:List ak):pw n e stop l=l++mT n.1 e stop:=by
 unfold pw mT
 rw[tP hn]
theorem UF (s:au) (y:ak):(aW aO (dI s) y).getD false=fV (ct s) y:=by
 have:=p6 aO (fun x:ak=>x) (ct s) y
 unfold dI
 rw[this]
 unfold fV
 congr 1
 funext x
 rw[FL,fI]
theorem Ox {s:au} {y:ak} (h:fV (ct s) y=false):df aO (dI s) y true=dI (eR s (ct s++[y])):=by
 have hn:(aW aO (dI s) y).isSome=false:=by
  rw[gZ]
  unfold dI
  rw[List.any_map]
  unfold fV at h
  rw[<-h]
  congr 1
  funext x
  show Ty.jc aO y x=_
  rw[FL,fI]
 rw[n9 pD hn]
 show dI s++[(y,true)]=(ct s++[y]).map _
 rw[List.map_append]
 rfl
theorem v98 (n:bk) (r:af):ah (aj aA [(142,DH),(76,Cd),(99,VS),(143,LV),(144,va),(146,LS),(147,DG),(148,u9),(149,LR),(74,Ce),(150,LQ),(151,LP),(145,LU)] [] [] [145]) Tryz.f98 c98 (a98 (n,r,())) (n,r,())=(
U (r.1,r.2.1,r.2.2.1,r.2.2.2.1,r.2.2.2.2.1,[],[],[],false)
fun(y2:af)=>
U ((↑(bE n.1 y2).length:Int) - (1:Int)) fun(y3:Int)=>
U ((↑(bE n.1 r).length:Int) - (1:Int)) fun(y4:Int)=>
cR r.2.2.2.1/\
cR r.2.2.2.2.1/\
kK n.1/\
(pq n/\qB y2)/\
bo IntKind.i64 y3/\
(∃(rm:Nat),
rm<=(bE n.1 r).length/\
y4 - (↑rm:Int)=y3/\
n.1.2.2.2.2.2.2.2.2=n.1.2.2.2.2.2.2.2.2/\
kZ n.1 r rm=[]/\
[n]=[n]/\
(0:Nat)=(0:Nat)/\
r.1=r.1/\
r.2.1=r.2.1/\
r.2.2.1=r.2.2.1/\
false=false/\
(0:Int)=(0:Int)/\
(0:Int)=(0:Int)/\
(0:Int)=(0:Int)/\
false=false/\
r.2.2.2.1=r.2.2.2.1/\r.2.2.2.2.1=r.2.2.2.2.1/\([]:List (ak×Bool))=[]/\bE n.1 y2=bE n.1 y2/\True)/\
∀(s5:Nat),
U (decide (y4 - (↑s5:Int)>=(0:Int))) fun(y6:Bool)=>
U ((List.replicate (1:Nat) ((0:Int),(0:Int))).set (0:Nat) (fo n ((bE n.1 y2).getD (y4 - (↑s5:Int)).toNat ((0:Int),(0:Int)))).1)
fun(y7:List (Int×Int))=>
U (y4 - (↑s5:Int) - (1:Int)) fun(y8:Int)=>
s5<=(bE n.1 r).length->
(y6=true->
aL (y4 - (↑s5:Int)) (bE n.1 y2).length/\
True/\
roomFor ((kZ n.1 r s5).length+y7.length) (16:Nat)/\
bo IntKind.i64 y8/\
∃(xz:Nat),
xz<=(bE n.1 r).length/\
(bE n.1 r).length - xz<(bE n.1 r).length - s5/\
y4 - (↑xz:Int)=y8/\
n.1.2.2.2.2.2.2.2.2=n.1.2.2.2.2.2.2.2.2/\
kZ n.1 r xz=kZ n.1 r s5++y7/\
[n]=[n]/\
(0:Nat)=(0:Nat)/\
r.1=r.1/\
r.2.1=r.2.1/\
r.2.2.1=r.2.2.1/\
false=false/\
(0:Int)=(0:Int)/\
(0:Int)=(0:Int)/\
(0:Int)=(0:Int)/\
false=false/\
r.2.2.2.1=r.2.2.2.1/\
r.2.2.2.2.1=r.2.2.2.2.1/\([]:List (ak×Bool))=[]/\bE n.1 y2=bE n.1 y2/\True)/\
(y6=false->
(∃(AR:List ak×au),
iR n r AR/\
n.1.2.2.2.2.2.2.2.2=n.1.2.2.2.2.2.2.2.2/\
n=n/\
AR.2.2.1=r.1/\
AR.2.2.2.1=r.2.1/\
AR.2.2.2.2.1=r.2.2.1/\
AR.2.2.2.2.2.2.2.2.2.2.1=false/\
eP AR.2=r.2.2.2.1/\
cX AR.2=r.2.2.2.2.1/\
aS AR.2=[]/\
cP AR.2=[]/\
cH AR.2=[]/\
AR.1.reverse=kZ n.1 r s5/\
dI AR.2=[]/\(0:Int)=(0:Int)/\(0:Int)=(0:Int)/\(0:Int)=(0:Int)/\false=false/\True)/\
∀(s9:List ak×au),
U (decide ((↑s9.1.reverse.length:Int)>(0:Int))) fun(bu:Bool)=>
U ((↑s9.1.reverse.length:Int) - (1:Int)) fun(bH:Int)=>
U
(s9.2.2.1,s9.2.2.2.1,s9.2.2.2.2.1,eP s9.2,cX s9.2,aS s9.2,cP s9.2,cH s9.2,
s9.2.2.2.2.2.2.2.2.2.2.1)
fun(aw:af)=>
U (s9.1.reverse.getD bH.toNat ((0:Int),(0:Int))) fun(aB:Int×Int)=>
U (bif kI aw aB.1 then true else(aW aO (dI s9.2) aB).getD false) fun(cL:Bool)=>
U (List.take bH.toNat s9.1.reverse) fun(bC:List (Int×Int))=>
U (bif decide (kQ n aB>=(0:Int)) then !n.1.2.2.2.2.2.2.2.2 else false) fun(cC:Bool)=>
U (!bN (cH s9.2) (kQ n aB)) fun(cy:Bool)=>
U ((List.replicate (1:Nat) (0:Int)).set (0:Nat) (kQ n aB)) fun(dN:List Int)=>
U (aK n.1 aB.1==(4:Int)) fun(fw:Bool)=>
U (aK n.1 aB.1==(2:Int)) fun(du:Bool)=>
U (pw n aB.1 (2:Int) bC) fun(eL:List ak)=>
U (dG aw aB.1).2.2
fun(dt:Int×Int×List (Int×Int×Int)×List (Int×Int)×List (Int×Int)×List Int×List Int×Bool)=>
U (bif bq (cX s9.2) aB then true else bq (aS s9.2) aB) fun(eC:Bool)=>
U (aB.1,(3:Int) - aB.2) fun(im:Int×Int)=>
U (!bq (aS s9.2) im) fun(iY:Bool)=>
U ((List.replicate (1:Nat) ((0:Int),(0:Int))).set (0:Nat) im) fun(jQ:List (Int×Int))=>
U (cx n.1 aB.1 aB.2 (0:Int)) fun(lF:Int×Bool)=>
iR n r s9->
(bu=true->
bo IntKind.i64 bH/\
aL bH s9.1.reverse.length/\
bo IntKind.i64 bH/\
((0:Int)<=bH/\bH<=(↑s9.1.reverse.length:Int))/\
(0:Nat)<s9.1.reverse.length/\
(eP s9.2).length<=(1000:Nat)/\
(cL=true->
∃(aq:List ak×au),
iR n r aq/\
eY aq.1 aq.2<eY s9.1 s9.2/\
n.1.2.2.2.2.2.2.2.2=n.1.2.2.2.2.2.2.2.2/\
n=n/\
aq.2.2.1=s9.2.2.1/\
aq.2.2.2.1=s9.2.2.2.1/\
aq.2.2.2.2.1=s9.2.2.2.2.1/\
aq.2.2.2.2.2.2.2.2.2.2.1=
s9.2.2.2.2.2.2.2.2.2.2.1/\
eP aq.2=eP s9.2/\
cX aq.2=cX s9.2/\
aS aq.2=aS s9.2/\
cP aq.2=cP s9.2/\
cH aq.2=cH s9.2/\
aq.1.reverse=bC/\
dI aq.2=dI s9.2/\
(0:Int)=(0:Int)/\
(0:Int)=(0:Int)/\(0:Int)=(0:Int)/\false=false/\True)/\
(cL=false->
True/\
(cC=true->
True/\
(cy=true->
roomFor ((cH s9.2).length+dN.length) (8:Nat)/\
∃(aq:List ak×au),
iR n r aq/\
eY aq.1 aq.2<eY s9.1 s9.2/\
n.1.2.2.2.2.2.2.2.2=n.1.2.2.2.2.2.2.2.2/\
n=n/\
aq.2.2.1=s9.2.2.1/\
aq.2.2.2.1=s9.2.2.2.1/\
aq.2.2.2.2.1=s9.2.2.2.2.1/\
aq.2.2.2.2.2.2.2.2.2.2.1=
s9.2.2.2.2.2.2.2.2.2.2.1/\
eP aq.2=eP s9.2/\
cX aq.2=cX s9.2/\
aS aq.2=aS s9.2/\
cP aq.2=cP s9.2/\
cH aq.2=cH s9.2++dN/\
aq.1.reverse=bC/\
dI aq.2=
df aO
(dI s9.2) aB true/\
(0:Int)=(0:Int)/\
(0:Int)=(0:Int)/\
(0:Int)=(0:Int)/\false=false/\True)/\
(cy=false->
∃(aq:List ak×au),
iR n r aq/\
eY aq.1 aq.2<eY s9.1 s9.2/\
n.1.2.2.2.2.2.2.2.2=n.1.2.2.2.2.2.2.2.2/\
n=n/\
aq.2.2.1=s9.2.2.1/\
aq.2.2.2.1=s9.2.2.2.1/\
aq.2.2.2.2.1=s9.2.2.2.2.1/\
aq.2.2.2.2.2.2.2.2.2.2.1=
s9.2.2.2.2.2.2.2.2.2.2.1/\
eP aq.2=eP s9.2/\
cX aq.2=cX s9.2/\
aS aq.2=aS s9.2/\
cP aq.2=cP s9.2/\
cH aq.2=cH s9.2/\
aq.1.reverse=bC/\
dI aq.2=
df aO
(dI s9.2) aB true/\
(0:Int)=(0:Int)/\
(0:Int)=(0:Int)/\
(0:Int)=(0:Int)/\false=false/\True))/\
(cC=false->
True/\
(fw=true->
∃(aq:List ak×au),
iR n r aq/\
eY aq.1 aq.2<eY s9.1 s9.2/\
n.1.2.2.2.2.2.2.2.2=n.1.2.2.2.2.2.2.2.2/\
n=n/\
aq.2.2.1=s9.2.2.1/\
aq.2.2.2.1=s9.2.2.2.1/\
aq.2.2.2.2.1=s9.2.2.2.2.1/\
aq.2.2.2.2.2.2.2.2.2.2.1=true/\
eP aq.2=eP s9.2/\
cX aq.2=cX s9.2/\
aS aq.2=aS s9.2/\
cP aq.2=cP s9.2/\
cH aq.2=cH s9.2/\
aq.1.reverse=bC/\
dI aq.2=
df aO
(dI s9.2) aB true/\
(0:Int)=(0:Int)/\
(0:Int)=(0:Int)/\
(0:Int)=(0:Int)/\false=false/\True)/\
(fw=false->
(du=true->
((aB.2==(0:Int))=true->
(cP s9.2).length<=(1000:Nat)/\
((dG aw aB.1).1=true->
bC.length<=(1000000:Nat)/\
eL.length<=(1000000:Nat)/\
∃(aq:List ak×au),
iR n r aq/\
eY aq.1 aq.2<eY s9.1 s9.2/\
n.1.2.2.2.2.2.2.2.2=
n.1.2.2.2.2.2.2.2.2/\
n=n/\
aq.2.2.1=(dG aw aB.1).2.1/\
aq.2.2.2.1=dt.1/\
aq.2.2.2.2.1=dt.2.1/\
aq.2.2.2.2.2.2.2.2.2.2.1=
dt.2.2.2.2.2.2.2/\
eP aq.2=dt.2.2.1/\
cX aq.2=dt.2.2.2.1/\
aS aq.2=dt.2.2.2.2.1/\
cP aq.2=dt.2.2.2.2.2.1/\
cH aq.2=
dt.2.2.2.2.2.2.1/\
aq.1.reverse=
pw n aB.1 (1:Int) eL/\
dI aq.2=
df
aO
(dI s9.2) aB true/\
(0:Int)=(0:Int)/\
(0:Int)=(0:Int)/\
(0:Int)=(0:Int)/\
false=false/\True)/\
((dG aw aB.1).1=false->
∃(aq:List ak×au),
iR n r aq/\
eY aq.1 aq.2<eY s9.1 s9.2/\
n.1.2.2.2.2.2.2.2.2=
n.1.2.2.2.2.2.2.2.2/\
n=n/\
aq.2.2.1=(dG aw aB.1).2.1/\
aq.2.2.2.1=dt.1/\
aq.2.2.2.2.1=dt.2.1/\
aq.2.2.2.2.2.2.2.2.2.2.1=
dt.2.2.2.2.2.2.2/\
eP aq.2=dt.2.2.1/\
cX aq.2=dt.2.2.2.1/\
aS aq.2=dt.2.2.2.2.1/\
cP aq.2=dt.2.2.2.2.2.1/\
cH aq.2=dt.2.2.2.2.2.2.1/\
aq.1.reverse=bC/\
dI aq.2=
df
aO
(dI s9.2) aB true/\
(0:Int)=(0:Int)/\
(0:Int)=(0:Int)/\
(0:Int)=(0:Int)/\
false=false/\True))/\
((aB.2==(0:Int))=false->
True/\
(bq (cX s9.2) aB=false->True)/\
(eC=true->
(cP s9.2).length<=(1000:Nat)/\
((dG aw aB.1).1=true->
bC.length<=(1000000:Nat)/\
∃(aq:List ak×au),
iR n r aq/\
eY aq.1 aq.2<eY s9.1 s9.2/\
n.1.2.2.2.2.2.2.2.2=
n.1.2.2.2.2.2.2.2.2/\
n=n/\
aq.2.2.1=(dG aw aB.1).2.1/\
aq.2.2.2.1=dt.1/\
aq.2.2.2.2.1=dt.2.1/\
aq.2.2.2.2.2.2.2.2.2.2.1=
dt.2.2.2.2.2.2.2/\
eP aq.2=dt.2.2.1/\
cX aq.2=dt.2.2.2.1/\
aS aq.2=dt.2.2.2.2.1/\
cP aq.2=dt.2.2.2.2.2.1/\
cH aq.2=
dt.2.2.2.2.2.2.1/\
aq.1.reverse=
pw n aB.1 (0:Int) bC/\
dI aq.2=
df
aO
(dI s9.2) aB true/\
(0:Int)=(0:Int)/\
(0:Int)=(0:Int)/\
(0:Int)=(0:Int)/\
false=false/\True)/\
((dG aw aB.1).1=false->
∃(aq:List ak×au),
iR n r aq/\
eY aq.1 aq.2<eY s9.1 s9.2/\
n.1.2.2.2.2.2.2.2.2=
n.1.2.2.2.2.2.2.2.2/\
n=n/\
aq.2.2.1=(dG aw aB.1).2.1/\
aq.2.2.2.1=dt.1/\
aq.2.2.2.2.1=dt.2.1/\
aq.2.2.2.2.2.2.2.2.2.2.1=
dt.2.2.2.2.2.2.2/\
eP aq.2=dt.2.2.1/\
cX aq.2=dt.2.2.2.1/\
aS aq.2=dt.2.2.2.2.1/\
cP aq.2=dt.2.2.2.2.2.1/\
cH aq.2=
dt.2.2.2.2.2.2.1/\
aq.1.reverse=bC/\
dI aq.2=
df
aO
(dI s9.2) aB true/\
(0:Int)=(0:Int)/\
(0:Int)=(0:Int)/\
(0:Int)=(0:Int)/\
false=false/\True))/\
(eC=false->
bo IntKind.i64 ((3:Int) - aB.2)/\
True/\
(iY=true->
roomFor ((aS s9.2).length+jQ.length) (16:Nat)/\
∃(aq:List ak×au),
iR n r aq/\
eY aq.1 aq.2<eY s9.1 s9.2/\
n.1.2.2.2.2.2.2.2.2=
n.1.2.2.2.2.2.2.2.2/\
n=n/\
aq.2.2.1=s9.2.2.1/\
aq.2.2.2.1=s9.2.2.2.1/\
aq.2.2.2.2.1=s9.2.2.2.2.1/\
aq.2.2.2.2.2.2.2.2.2.2.1=
s9.2.2.2.2.2.2.2.2.2.2.1/\
eP aq.2=eP s9.2/\
cX aq.2=cX s9.2/\
aS aq.2=aS s9.2++jQ/\
cP aq.2=cP s9.2/\
cH aq.2=cH s9.2/\
aq.1.reverse=bC/\
dI aq.2=
df
aO
(dI s9.2) aB true/\
(0:Int)=(0:Int)/\
(0:Int)=(0:Int)/\
(0:Int)=(0:Int)/\
false=false/\True)/\
(iY=false->
∃(aq:List ak×au),
iR n r aq/\
eY aq.1 aq.2<eY s9.1 s9.2/\
n.1.2.2.2.2.2.2.2.2=
n.1.2.2.2.2.2.2.2.2/\
n=n/\
aq.2.2.1=s9.2.2.1/\
aq.2.2.2.1=s9.2.2.2.1/\
aq.2.2.2.2.1=s9.2.2.2.2.1/\
aq.2.2.2.2.2.2.2.2.2.2.1=
s9.2.2.2.2.2.2.2.2.2.2.1/\
eP aq.2=eP s9.2/\
cX aq.2=cX s9.2/\
aS aq.2=aS s9.2/\
cP aq.2=cP s9.2/\
cH aq.2=cH s9.2/\
aq.1.reverse=bC/\
dI aq.2=
df
aO
(dI s9.2) aB true/\
(0:Int)=(0:Int)/\
(0:Int)=(0:Int)/\
(0:Int)=(0:Int)/\
false=false/\True))))/\
(du=false->
True/\
(lF.2=true->
(cP s9.2).length<=(1000:Nat)/\
((dG aw aB.1).1=true->
bC.length<=(1000000:Nat)/\
∃(aq:List ak×au),
iR n r aq/\
eY aq.1 aq.2<eY s9.1 s9.2/\
n.1.2.2.2.2.2.2.2.2=
n.1.2.2.2.2.2.2.2.2/\
n=n/\
aq.2.2.1=(dG aw aB.1).2.1/\
aq.2.2.2.1=dt.1/\
aq.2.2.2.2.1=dt.2.1/\
aq.2.2.2.2.2.2.2.2.2.2.1=
dt.2.2.2.2.2.2.2/\
eP aq.2=dt.2.2.1/\
cX aq.2=dt.2.2.2.1/\
aS aq.2=dt.2.2.2.2.1/\
cP aq.2=dt.2.2.2.2.2.1/\
cH aq.2=
dt.2.2.2.2.2.2.1/\
aq.1.reverse=pw n aB.1 lF.1 bC/\
dI aq.2=
df
aO
(dI s9.2) aB true/\
(0:Int)=(0:Int)/\
(0:Int)=(0:Int)/\
(0:Int)=(0:Int)/\
false=false/\True)/\
((dG aw aB.1).1=false->
∃(aq:List ak×au),
iR n r aq/\
eY aq.1 aq.2<eY s9.1 s9.2/\
n.1.2.2.2.2.2.2.2.2=
n.1.2.2.2.2.2.2.2.2/\
n=n/\
aq.2.2.1=(dG aw aB.1).2.1/\
aq.2.2.2.1=dt.1/\
aq.2.2.2.2.1=dt.2.1/\
aq.2.2.2.2.2.2.2.2.2.2.1=
dt.2.2.2.2.2.2.2/\
eP aq.2=dt.2.2.1/\
cX aq.2=dt.2.2.2.1/\
aS aq.2=dt.2.2.2.2.1/\
cP aq.2=dt.2.2.2.2.2.1/\
cH aq.2=dt.2.2.2.2.2.2.1/\
aq.1.reverse=bC/\
dI aq.2=
df
aO
(dI s9.2) aB true/\
(0:Int)=(0:Int)/\
(0:Int)=(0:Int)/\
(0:Int)=(0:Int)/\
false=false/\True))/\
(lF.2= !true->
(false=true->
bC.length<=(1000000:Nat)/\
∃(aq:List ak×au),
iR n r aq/\
eY aq.1 aq.2<eY s9.1 s9.2/\
n.1.2.2.2.2.2.2.2.2=
n.1.2.2.2.2.2.2.2.2/\
n=n/\
aq.2.2.1=s9.2.2.1/\
aq.2.2.2.1=s9.2.2.2.1/\
aq.2.2.2.2.1=s9.2.2.2.2.1/\
aq.2.2.2.2.2.2.2.2.2.2.1=
s9.2.2.2.2.2.2.2.2.2.2.1/\
eP aq.2=eP s9.2/\
cX aq.2=cX s9.2/\
aS aq.2=aS s9.2/\
cP aq.2=cP s9.2/\
cH aq.2=cH s9.2/\
aq.1.reverse=pw n aB.1 lF.1 bC/\
dI aq.2=
df
aO
(dI s9.2) aB true/\
(0:Int)=(0:Int)/\
(0:Int)=(0:Int)/\
(0:Int)=(0:Int)/\
false=false/\True)/\
(false=false->
∃(aq:List ak×au),
iR n r aq/\
eY aq.1 aq.2<eY s9.1 s9.2/\
n.1.2.2.2.2.2.2.2.2=
n.1.2.2.2.2.2.2.2.2/\
n=n/\
aq.2.2.1=s9.2.2.1/\
aq.2.2.2.1=s9.2.2.2.1/\
aq.2.2.2.2.1=s9.2.2.2.2.1/\
aq.2.2.2.2.2.2.2.2.2.2.1=
s9.2.2.2.2.2.2.2.2.2.2.1/\
eP aq.2=eP s9.2/\
cX aq.2=cX s9.2/\
aS aq.2=aS s9.2/\
cP aq.2=cP s9.2/\
cH aq.2=cH s9.2/\
aq.1.reverse=bC/\
dI aq.2=
df
aO
(dI s9.2) aB true/\
(0:Int)=(0:Int)/\
(0:Int)=(0:Int)/\
(0:Int)=(0:Int)/\
false=false/\True)))))))/\
(bu=false->aw=dV n.1 r/\True))):=by kernel_rfl
theorem b98 (n:bk) (r:af) (hn:pq n) (hf:pc n.1 r):ah (aj aA [(142,DH),(76,Cd),(99,VS),(143,LV),(144,va),(146,LS),(147,DG),(148,u9),(149,LR),(74,Ce),(150,LQ),(151,LP),(145,LU)] [] [] [145]) Tryz.f98 c98 (a98 (n,r,())) (n,r,()):=by
 have jD:qB r:=hf.2.1
 have Vg:=jD.1
 have H9:=hf.2.2
 have hup:=pC n.1 r r.2.2.2.1.length (Nat.le_refl _)
 have nW:(bE n.1 r).length<=2000:=by unfold bE;omega
 have iT:=jL (gw hn.2).1
 rw[v98]
 refine U.mk fun y2 e2=> ?_
 have hp2:bE n.1 y2=bE n.1 r:=by rw[e2];unfold bE c8;rfl
 rw[hp2]
 refine U.mk fun y3 e3=>U.mk fun y4 e4=>⟨Vg,H9,HJ hn,⟨hn,by rw[e2];exact jD⟩,aY (by omega) (by omega),⟨0,by omega,?_⟩,fun k=>U.mk fun y6 e6=>U.mk fun y7 e7=>U.mk fun y8 e8=>fun hk=>⟨fun h6=> ?_,fun h6=>⟨?_,?_⟩⟩⟩
 ·have q1:y4 - ((0:Nat):Int)=y3:=by rw[e3,e4];exact Int.sub_zero _
  repeat' apply And.intro
  all_goals first|rfl|trivial|exact q1
 ·have h6:y4 - (k:Int)>=0:=of_decide_eq_true (by rw[<-e6];exact h6)
  have hkl:k<(bE n.1 r).length:=by omega
  have hpo:(kZ n.1 r k).length<=2000:=by unfold kZ;rw[List.length_map,List.length_take,List.length_reverse];omega
  refine⟨⟨by omega,by omega⟩,trivial,cT (by rw[e7];show _+1<=_;omega) (by decide),aY (by omega) (by omega),k+1,by omega,by omega,?_⟩
  have q1:y4 - ((k+1:Nat):Int)=y8:=by omega
  have q2:kZ n.1 r (k+1)=kZ n.1 r k++y7:=by
   unfold kZ
   rw[eQ (0,0) (by rw[List.length_reverse];exact hkl),List.map_append,e7,tP hn]
   have ht:(y4 - (k:Int)).toNat=(bE n.1 r).length - 1 - k:=by omega
   have hrv:(bE n.1 r).reverse.getD k (0,0)=(bE n.1 r).getD ((bE n.1 r).length - 1 - k) (0,0):=by
    rw[eW _ (by rw[List.length_reverse];exact hkl),List.getElem_reverse,eW _ (by omega)]
   rw[ht,<-hrv]
   rfl
  repeat' apply And.intro
  all_goals first|rfl|trivial|exact q1|exact q2
 ·have h6:¬y4 - (k:Int)>=0:=of_decide_eq_false (by rw[<-e6];exact h6)
  have hkl:k=(bE n.1 r).length:=by omega
  have Tv:=IC hf (bE n.1 r).length (Nat.le_refl _)
  rw[List.take_length] at Tv
  have hon:=(wZ hf 0).1
  have hje:(bW n.1).length<=160:=by have:=mz n.1;omega
  have q2:((bE n.1 r).map fun x=>(bx n.1 x).1).reverse=kZ n.1 r k:=by
   unfold kZ
   rw[hkl,show(bE n.1 r).reverse.take (bE n.1 r).length=(bE n.1 r).reverse by rw[<-List.length_reverse,List.take_length],List.map_reverse]
  refine⟨((bE n.1 r).map fun x=>(bx n.1 x).1,s0 n.1 r),⟨Tv.symm,hon,rfl,fun y hy=> ?_,?_⟩,?_⟩
  ·obtain⟨x,hx,rfl⟩:=List.mem_map.1 hy
   exact o7 (Bb hx)
  ·show eY _ _<=_
   unfold eY
   rw[List.length_map]
   have:(s0 n.1 r).1=n.1:=rfl
   rw[this]
   omega
  ·repeat' apply And.intro
   all_goals first|rfl|trivial|exact q2
 ·intro s9
  refine U.mk fun bu dy=>U.mk fun bH eK=>U.mk fun aw dW=>U.mk fun aB gE=>U.mk fun cL j5=>U.mk fun bC iJ=>U.mk fun cC k7=>U.mk fun cy jF=>U.mk fun dN oh=>U.mk fun fw mH=>U.mk fun du og=>U.mk fun eL rr=>U.mk fun dt q9=>U.mk fun eC wh=>U.mk fun im yA=>U.mk fun iY w5=>U.mk fun jQ x5=>U.mk fun lF EO=>fun mY=> ?_
  obtain⟨ts,s⟩:=s9
  have ym:aw=uE s:=dW
  cases ts with
  |nil=>
   have lp:bu=false:=by rw[dy];rfl
   refine⟨fun h=>(by rw[lp] at h;cases h),fun _=>⟨?_,trivial⟩⟩
   have h1:s=bF n.1 r (bE n.1 r).length:=mY.same
   unfold dV
   rw[<-h1,Ta]
   exact ym
  |cons y ts=>
   have hlen:((y::ts).reverse).length=ts.length+1:=by simp
   have hwk:eY (y::ts) s<=100000:=mY.small
   have H6:ts.length<=100000:=by unfold eY at hwk;rw[List.length_cons] at hwk;omega
   have lp:bu=true:=by
    rw[dy]
    show decide ((((y::ts).reverse).length:Int)>0)=true
    exact decide_eq_true (by omega)
   have mG:bH=(ts.length:Int):=by
    rw[eK]
    show((((y::ts).reverse).length:Int) - 1)=_
    omega
   have hrv:(y::ts).reverse=ts.reverse++[y]:=List.reverse_cons
   have kP:aB=y:=by
    rw[gE,mG]
    show((y::ts).reverse).getD ts.length _=y
    rw[hrv]
    exact rV _ _ _ (by simp)
   have Yn:bC=ts.reverse:=by
    rw[iJ,mG]
    show((y::ts).reverse).take ts.length=_
    rw[hrv]
    exact List.take_left' (by simp)
   have nW:s.1=n.1:=mY.qJ
   have hyj:y∈bW n.1:=mY.Q3 y List.mem_cons_self
   have hinv:=mY.inv.1
   have hinv:DX s:=hinv
   have Ps:(cP s).length<=12:=hinv.nu
   have Ic:=Ed s hinv
   have PJ:(aS s).length<=2000:=Nat.le_trans hinv.guards Ic
   have hhl:(cH s).length<=2000:=Nat.le_trans hinv.holds Ic
   have zu:(eP s).length<=1000:=hinv.steps
   obtain⟨g1,g2⟩:=Vx mY
   have hR:kQ n y=cc s.1 y:=by rw[nW];exact HK hn y
   have qW:cL=(kI (iZ s) y.1||fV (ct s) y):=by
    rw[j5,ym,kP,Ta]
    show(bif kI (uE s) y.1 then true else(aW aO (dI s) y).getD false)=_
    rw[UF]
    cases kI (uE s) y.1<;>rfl
   have rR:cC=(decide (0<=cc s.1 y)&& !s.1.2.2.2.2.2.2.2.2):=by
    rw[k7,kP,hR,nW]
    cases decide (0<=cc n.1 y)<;>rfl
   have h17:cy= !bN (cH s) (cc s.1 y):=by rw[jF,kP,hR]
   have zG:dN=[cc s.1 y]:=by rw[oh,kP,hR];rfl
   have Ir:fw=(aK s.1 y.1==4):=by rw[mH,kP,nW]
   have Dh:du=(aK s.1 y.1==2):=by rw[og,kP,nW]
   have PR:eL=ts.reverse++mT s.1 y.1 2:=by rw[rr,kP,Yn,Kp hn,nW]
   have B4:dt=(dG (uE s) y.1).2.2:=by rw[q9,kP,ym]
   have h23:eC=(bq (cX s) y||bq (aS s) y):=by
    rw[wh,kP]
    show(bif bq (cX s) y then true else bq (aS s) y)=_
    cases bq (cX s) y<;>rfl
   have Ym:im=(y.1,3 - y.2):=by rw[yA,kP]
   have h25:iY= !bq (aS s) (y.1,3 - y.2):=by rw[w5,Ym]
   have h26:jQ=[(y.1,3 - y.2)]:=by rw[x5,Ym];rfl
   have h27:lF=cx s.1 y.1 y.2 0:=by rw[EO,kP,nW]
   have PI:dC s.1 y=true:=by
    obtain⟨j,hj,hx⟩:=(VM n.1 y).1 hyj
    have:=xM (gw hn.2).2.2.1 hj
    rw[nW]
    rcases hx with rfl|rfl
    ·exact this.1
    ·exact this.2
   have KK:=uW PI
   clear dy eK gE j5 iJ k7 jF oh mH og rr q9 wh yA w5 x5 EO
   rw[kP,Yn,ym,mG]
   have anZ:((y::ts).reverse).length=ts.length+1:=hlen
   obtain⟨Pu,Pt,hzC,hzD⟩:=QD (eR s (ct s++[y])) y.1
   have Pu:(dG (uE s) y.1).1=(bK (eR s (ct s++[y])) y.1).1:=Pu
   have Pt:(dG (uE s) y.1).2=uE (bK (eR s (ct s++[y])) y.1).2:=Pt
   have l15:ts.reverse.length<=1000000:=by rw[List.length_reverse];omega
   have r1:∀e stop,(mT s.1 e stop++ts).reverse=ts.reverse++mT s.1 e stop:=fun e stop=>by rw[List.reverse_append,OQ]
   have o1:∀e stop l,pw n e stop l=l++mT s.1 e stop:=fun e stop l=>by rw[Kp hn,nW]
   refine⟨fun _=>⟨aY (by omega) (by omega),⟨by omega,by show _<(((y::ts).reverse).length:Int);omega⟩,aY (by omega) (by omega),⟨by omega,by show _<=(((y::ts).reverse).length:Int);omega⟩,by show 0<((y::ts).reverse).length;omega,zu,fun Wa=> ?_,fun Wa=> ?_⟩,fun h=>(by rw[lp] at h;cases h)⟩
   ·have hm:jb y s=([],s):=by
     unfold jb
     rw[<-qW,Wa]
     rfl
    rw[hm] at g1 g2
    refine⟨([]++ts,s),g1,g2,?_⟩
    repeat' apply And.intro
    all_goals first|rfl|trivial
   have aiz:fV (ct s) y=false:=by
    rw[qW] at Wa
    exact(Bool.or_eq_false_iff.1 Wa).2
   have Ib:jb y s=yk y (eR s (ct s++[y])):=by
    unfold jb
    rw[<-qW,Wa]
    rfl
   have q2:dI (eR s (ct s++[y]))=df aO (dI s) y true:=(Ox aiz).symm
   have qz:dI (bK (eR s (ct s++[y])) y.1).2=df aO (dI s) y true:=by rw[<-q2];unfold dI;rw[hzC]
   have hN:∀c,(decide (0<=cc s.1 y)&& !s.1.2.2.2.2.2.2.2.2)=c->yk y (eR s (ct s++[y]))=bif c then([],bif bN (cH s) (cc s.1 y) then eR s (ct s++[y]) else BC (eR s (ct s++[y])) (cH s++[cc s.1 y])) else
     bif aK s.1 y.1==4 then([],uA (eR s (ct s++[y]))) else bif aK s.1 y.1==2 then jW y (eR s (ct s++[y])) else
     (bif(bK (eR s (ct s++[y])) y.1).1 then(mT s.1 y.1 (mw s.1 y.1 y.2 0).1,(bK (eR s (ct s++[y])) y.1).2) else([],(bK (eR s (ct s++[y])) y.1).2)):=fun c hc=>by
    subst hc
    unfold yk
    rfl
   rw[zG,PR,B4,h26]
   refine⟨trivial,fun DF=>⟨trivial,fun A2=>⟨cT (by show(cH s).length+1<=_;omega) (by decide),?_⟩,fun A2=> ?_⟩,fun DF=>⟨trivial,fun DE=> ?_,fun DE=>⟨fun Gx=>⟨fun c0=>⟨by show(cP s).length<=_;omega,fun cz=>⟨l15,?_,?_⟩,fun cz=> ?_⟩,fun c0=>⟨trivial,fun _=>trivial,fun A1=>⟨by show(cP s).length<=_;omega,fun cz=>⟨l15,?_⟩,fun cz=> ?_⟩,fun A1=>⟨aY ?_ ?_,trivial,fun Cf=>⟨cT (by show(aS s).length+1<=_;omega) (by decide),?_⟩,fun Cf=> ?_⟩⟩⟩,fun Gx=>⟨trivial,fun I7=>⟨by show(cP s).length<=_;omega,fun cz=>⟨l15,?_⟩,fun cz=> ?_⟩,fun I7=> ?_⟩⟩⟩⟩
   ·-- held by a signal, for the first time
    have hm:jb y s=([],BC (eR s (ct s++[y])) (cH s++[cc s.1 y])):=by
     rw[Ib,hN true (by rw[<-rR,DF])]
     have:bN (cH s) (cc s.1 y)=false:=by rw[h17] at A2;simpa using A2
     rw[this]
     rfl
    rw[hm] at g1 g2
    refine⟨([]++ts,_),g1,g2,?_⟩
    repeat' apply And.intro
    all_goals first|rfl|trivial|exact q2
   ·have hm:jb y s=([],eR s (ct s++[y])):=by
     rw[Ib,hN true (by rw[<-rR,DF])]
     have:bN (cH s) (cc s.1 y)=true:=by rw[h17] at A2;simpa using A2
     rw[this]
     rfl
    rw[hm] at g1 g2
    refine⟨([]++ts,_),g1,g2,?_⟩
    repeat' apply And.intro
    all_goals first|rfl|trivial|exact q2
   ·-- a gate
    have hm:jb y s=([],uA (eR s (ct s++[y]))):=by
     rw[Ib,hN false (by rw[<-rR,DF]),<-Ir,DE]
     rfl
    rw[hm] at g1 g2
    refine⟨([]++ts,_),g1,g2,?_⟩
    repeat' apply And.intro
    all_goals first|rfl|trivial|exact q2
   ·have:=yZ s.1 y.1 2
    rw[List.length_append,List.length_reverse]
    omega
   ·-- points from their tip, into the zone
    have cz:(bK (eR s (ct s++[y])) y.1).1=true:=by rw[<-Pu];exact cz
    have hm:jb y s=(mT s.1 y.1 1++mT s.1 y.1 2,(bK (eR s (ct s++[y])) y.1).2):=by
     rw[Ib,hN false (by rw[<-rR,DF]),<-Ir,DE,<-Dh,Gx]
     show jW y _=_
     unfold jW
     rw[c0,cz]
     rfl
    rw[hm] at g1 g2
    have q1:(mT s.1 y.1 1++mT s.1 y.1 2++ts).reverse=pw n y.1 1 (ts.reverse++mT s.1 y.1 2):=by
     rw[o1,List.append_assoc,List.reverse_append,r1,OQ]
    refine⟨(mT s.1 y.1 1++mT s.1 y.1 2++ts,_),g1,g2,?_⟩
    rw[Pt]
    repeat' apply And.intro
    all_goals first|rfl|trivial|exact q1|exact qz
   ·have cz:(bK (eR s (ct s++[y])) y.1).1=false:=by rw[<-Pu];exact cz
    have hm:jb y s=([],(bK (eR s (ct s++[y])) y.1).2):=by
     rw[Ib,hN false (by rw[<-rR,DF]),<-Ir,DE,<-Dh,Gx]
     show jW y _=_
     unfold jW
     rw[c0,cz]
     rfl
    rw[hm] at g1 g2
    refine⟨([]++ts,_),g1,g2,?_⟩
    rw[Pt]
    repeat' apply And.intro
    all_goals first|rfl|trivial|exact qz
   ·-- points from a leg that they lie in
    have cz:(bK (eR s (ct s++[y])) y.1).1=true:=by rw[<-Pu];exact cz
    have hm:jb y s=(mT s.1 y.1 0,(bK (eR s (ct s++[y])) y.1).2):=by
     rw[Ib,hN false (by rw[<-rR,DF]),<-Ir,DE,<-Dh,Gx]
     show jW y _=_
     unfold jW
     have:(!bq (cX (eR s (ct s++[y]))) (y.1,y.2)&& !bq (aS (eR s (ct s++[y]))) (y.1,y.2))=false:=by
      show(!bq (cX s) y&& !bq (aS s) y)=false
      rw[h23] at A1
      revert A1
      cases bq (cX s) y<;>cases bq (aS s) y<;>decide
     rw[c0,this,cz]
     rfl
    rw[hm] at g1 g2
    have q1:(mT s.1 y.1 0++ts).reverse=pw n y.1 0 ts.reverse:=by rw[o1,r1]
    refine⟨(mT s.1 y.1 0++ts,_),g1,g2,?_⟩
    rw[Pt]
    repeat' apply And.intro
    all_goals first|rfl|trivial|exact q1|exact qz
   ·have cz:(bK (eR s (ct s++[y])) y.1).1=false:=by rw[<-Pu];exact cz
    have hm:jb y s=([],(bK (eR s (ct s++[y])) y.1).2):=by
     rw[Ib,hN false (by rw[<-rR,DF]),<-Ir,DE,<-Dh,Gx]
     show jW y _=_
     unfold jW
     have:(!bq (cX (eR s (ct s++[y]))) (y.1,y.2)&& !bq (aS (eR s (ct s++[y]))) (y.1,y.2))=false:=by
      show(!bq (cX s) y&& !bq (aS s) y)=false
      rw[h23] at A1
      revert A1
      cases bq (cX s) y<;>cases bq (aS s) y<;>decide
     rw[c0,this,cz]
     rfl
    rw[hm] at g1 g2
    refine⟨([]++ts,_),g1,g2,?_⟩
    rw[Pt]
    repeat' apply And.intro
    all_goals first|rfl|trivial|exact qz
   ·have:=KK.2;omega
   ·have:=KK.1;omega
   ·-- points that are to lie away
    have wT:(!bq (cX (eR s (ct s++[y]))) (y.1,y.2)&& !bq (aS (eR s (ct s++[y]))) (y.1,y.2))=true:=by
     show(!bq (cX s) y&& !bq (aS s) y)=true
     rw[h23] at A1
     revert A1
     cases bq (cX s) y<;>cases bq (aS s) y<;>decide
    have hm:jb y s=([],An (eR s (ct s++[y])) (aS s++[(y.1,3 - y.2)])):=by
     rw[Ib,hN false (by rw[<-rR,DF]),<-Ir,DE,<-Dh,Gx]
     show jW y _=_
     unfold jW
     have:bq (aS (eR s (ct s++[y]))) (y.1,3 - y.2)=false:=by
      show bq (aS s) _=false
      rw[h25] at Cf
      simpa using Cf
     rw[c0,wT,this]
     rfl
    rw[hm] at g1 g2
    refine⟨([]++ts,_),g1,g2,?_⟩
    repeat' apply And.intro
    all_goals first|rfl|trivial|exact q2
   ·have wT:(!bq (cX (eR s (ct s++[y]))) (y.1,y.2)&& !bq (aS (eR s (ct s++[y]))) (y.1,y.2))=true:=by
     show(!bq (cX s) y&& !bq (aS s) y)=true
     rw[h23] at A1
     revert A1
     cases bq (cX s) y<;>cases bq (aS s) y<;>decide
    have hm:jb y s=([],eR s (ct s++[y])):=by
     rw[Ib,hN false (by rw[<-rR,DF]),<-Ir,DE,<-Dh,Gx]
     show jW y _=_
     unfold jW
     have:bq (aS (eR s (ct s++[y]))) (y.1,3 - y.2)=true:=by
      show bq (aS s) _=true
      rw[h25] at Cf
      simpa using Cf
     rw[c0,wT,this]
     rfl
    rw[hm] at g1 g2
    refine⟨([]++ts,_),g1,g2,?_⟩
    repeat' apply And.intro
    all_goals first|rfl|trivial|exact q2
   ·-- straight on
    have hth:=A4 PI (by rw[<-Ir,DE]) (by rw[<-Dh,Gx])
    have cz:(bK (eR s (ct s++[y])) y.1).1=true:=by rw[<-Pu];exact cz
    have hm:jb y s=(mT s.1 y.1 (mw s.1 y.1 y.2 0).1,(bK (eR s (ct s++[y])) y.1).2):=by
     rw[Ib,hN false (by rw[<-rR,DF]),<-Ir,DE,<-Dh,Gx,cz]
     rfl
    rw[hm] at g1 g2
    have q1:(mT s.1 y.1 (mw s.1 y.1 y.2 0).1++ts).reverse=pw n y.1 lF.1 ts.reverse:=by rw[o1,r1,h27,hth]
    refine⟨(mT s.1 y.1 (mw s.1 y.1 y.2 0).1++ts,_),g1,g2,?_⟩
    rw[Pt]
    repeat' apply And.intro
    all_goals first|rfl|trivial|exact q1|exact qz
   ·have cz:(bK (eR s (ct s++[y])) y.1).1=false:=by rw[<-Pu];exact cz
    have hm:jb y s=([],(bK (eR s (ct s++[y])) y.1).2):=by
     rw[Ib,hN false (by rw[<-rR,DF]),<-Ir,DE,<-Dh,Gx,cz]
     rfl
    rw[hm] at g1 g2
    refine⟨([]++ts,_),g1,g2,?_⟩
    rw[Pt]
    repeat' apply And.intro
    all_goals first|rfl|trivial|exact qz
   ·have hth:=A4 PI (by rw[<-Ir,DE]) (by rw[<-Dh,Gx])
    rw[h27,hth] at I7
    cases I7
theorem ahn:aN Tryz.prog 98 c98:=
 aN.b3 (l:=[(142,DH),(76,Cd),(99,VS),(143,LV),(144,va),(146,LS),(147,DG),(148,u9),(149,LR),(74,Ce),(150,LQ),(151,LP),(145,LU)]) (wraps:=[]) (clos:=[]) (mclos:=[145]) (A:=a98) aJ
  ⟨Xe,OY,abm,ady,MF,adw,Xd,ME,adv,Te,adt,ads,adx,trivial⟩ Tryz.func98 (by kernel_rfl) (by kernel_rfl) fun x _ hp=>b98 x.1 x.2.1 hp.1 hp.2
theorem aci:aN Tryz.prog 98 TJ:=ahn.ptr fun x h=>by
 obtain⟨⟨n,h1,h2⟩,h3⟩:=h
 refine⟨n,h1,h2,?_⟩
 rw[h1] at h3
 exact h3
theorem Av (p:ab):(nf p).1=p:=by unfold nf;rfl
theorem Tj {p:ab} (h:bX p=0):pq (nf p):=⟨by rw[Av],by rw[Av];exact h⟩
theorem En {p:ab} (h:bX p=0):kA p=some (nf p):=by
 unfold kA
 rw[h]
 rfl
theorem v44 (p:ab):ah (aj aA [(50,NO),(97,KY),(98,TJ),(99,TH)]) Tryz.f44 V6 (a44 (p,())) (p,())=(
U (cZ (bI (kA p)).1).2 fun(y1:Int)=>
U (cZ (bI (kA p)).1).1 fun(y2:List af)=>
U ((0:Int),(0:Int),(0:Int),[],[],[],[],[],false) fun(y3:af)=>
cY p/\
((bX p !=(0:Int))=true->(([],[],[],[],(0:Int),(0:Int),(0:Int),(0:Int),false),[])=(cK p).1/\bX p=(cK p).2/\True)/\
((bX p !=(0:Int))=false->
tm (kA p)/\
((y1 !=(0:Int))=true->(([],[],[],[],(0:Int),(0:Int),(0:Int),(0:Int),false),[])=(cK p).1/\y1=(cK p).2/\True)/\
((y1 !=(0:Int))=false->
(∃(wz:Nat),
wz<=(cZ p).1.length/\
(↑wz:Int)=(0:Int)/\
kA p=kA p/\
(↑y2.length:Int)=(↑y2.length:Int)/\
gn p wz=y2/\(0:Int)=(0:Int)/\(0:Int)=(0:Int)/\(0:Int)=(0:Int)/\(0:Int)=(0:Int)/\false=false/\True)/\
∀(s4:Nat),
U (decide ((↑s4:Int)<(↑y2.length:Int))) fun(y5:Bool)=>
U ((gn p s4).getD (↑s4:Int).toNat y3) fun(y6:af)=>
s4<=(cZ p).1.length->
(y5=true->
aL (↑s4:Int) (gn p s4).length/\
(tm (kA p)/\pc (bI (kA p)).1 y6)/\
aL (↑s4:Int) (gn p s4).length/\
bo IntKind.i64 ((↑s4:Int)+(1:Int))/\
∃(nD:Nat),
nD<=(cZ p).1.length/\
(cZ p).1.length - nD<(cZ p).1.length - s4/\
(↑nD:Int)=(↑s4:Int)+(1:Int)/\
kA p=kA p/\
(↑y2.length:Int)=(↑y2.length:Int)/\
gn p nD=(gn p s4).set (↑s4:Int).toNat (dV (bI (kA p)).1 y6)/\
(0:Int)=(0:Int)/\(0:Int)=(0:Int)/\(0:Int)=(0:Int)/\(0:Int)=(0:Int)/\false=false/\True)/\
(y5=false->(iS (kA p)/\kK (bI (kA p)).1)/\((bI (kA p)).1,gn p s4)=(cK p).1/\(0:Int)=(cK p).2/\True)))):=by kernel_rfl
theorem b44 (p:ab) (hp:cY p):ah (aj aA [(50,NO),(97,KY),(98,TJ),(99,TH)]) Tryz.f44 V6 (a44 (p,())) (p,()):=by
 have hB:cK p=bif bX p==0 then(bif(cZ p).2==0 then((p,(cZ p).1.map (dV p)),0) else(zC,(cZ p).2)) else(zC,bX p):=by unfold cK;rfl
 have EH:=DT p
 rw[v44]
 refine U.mk fun y1 e1=>U.mk fun y2 e2=>U.mk fun y3 e3=>⟨hp,fun h=> ?_,fun h=> ?_⟩
 ·rw[iy] at h
  have h:(bX p==0)=false:=by simpa using h
  rw[hB,h]
  exact⟨rfl,rfl,trivial⟩
 rw[iy] at h
 have h:(bX p==0)=true:=by simpa using h
 have hc:bX p=0:=eq_of_beq h
 have o9:tm (kA p):=⟨nf p,En hc,Tj hc⟩
 have hof:(bI (kA p)).1=p:=by rw[En hc];exact Av p
 rw[hof] at e1 e2 ⊢
 obtain⟨h3,h4⟩:=x8 hc
 obtain⟨_,h5,_,_⟩:=xu h3
 rw[h] at hB
 refine⟨o9,fun h2=> ?_,fun h2=> ?_⟩
 ·rw[iy,e1] at h2
  have h2:((cZ p).2==0)=false:=by simpa using h2
  rw[hB,h2,e1]
  exact⟨rfl,rfl,trivial⟩
 rw[iy,e1] at h2
 have h2:((cZ p).2==0)=true:=by simpa using h2
 rw[h2] at hB
 have q0:gn p 0=y2:=by rw[e2];unfold gn;simp
 refine⟨⟨0,by omega,rfl,?_⟩,fun k=>U.mk fun y5 e5=>U.mk fun y6 e6=>fun hk=> ?_⟩
 ·repeat' apply And.intro
  all_goals first|rfl|trivial|exact q0
 have Ic:(List.map (dV p) (List.take k (cZ p).1)).length=k:=by rw[List.length_map,List.length_take];omega
 have hfl:(gn p k).length=(cZ p).1.length:=by
  unfold gn
  rw[List.length_append,Ic,List.length_drop]
  omega
 refine⟨fun h=> ?_,fun h=> ?_⟩
 ·have h:=aZ e5 h
  have dQ:k<(cZ p).1.length:=by rw[e2] at h;exact h
  have hd:(cZ p).1.drop k=(cZ p).1.getD k zR::(cZ p).1.drop (k+1):=by
   rw[eW zR dQ]
   exact List.drop_eq_getElem_cons dQ
  have e6:y6=(cZ p).1.getD k zR:=by
   rw[e6]
   unfold gn
   rw[hd,Int.toNat_natCast,List.getD_eq_getElem?_getD,List.getElem?_append_right (by omega),Ic,Nat.sub_self]
   rfl
  have mY:=GX h4 y6 (by rw[e6];exact fJ zR dQ)
  have q1:gn p (k+1)=(gn p k).set (k:Int).toNat (dV p y6):=by
   unfold gn
   rw[hd,Int.toNat_natCast,List.set_append_right _ _ (by omega),Ic,Nat.sub_self,List.set_cons_zero,oa _ zR dQ,List.append_assoc,e6]
   rfl
  refine⟨⟨by omega,by omega⟩,⟨o9,hc,⟨by have:=mY.2.1;omega,mY.1⟩,by have:=mY.2.2;omega⟩,⟨by omega,by omega⟩,aY (by omega) (by omega),k+1,by omega,by omega,by omega,?_⟩
  repeat' apply And.intro
  all_goals first|rfl|trivial|exact q1
 ·have hle:=bt e5 h
  have X3:k=(cZ p).1.length:=by rw[e2] at hle;omega
  have RX:=HJ (Tj hc)
  rw[Av] at RX
  refine⟨⟨⟨_,En hc⟩,RX⟩,?_⟩
  rw[hB]
  unfold gn
  rw[X3,List.take_length,List.drop_length,List.append_nil]
  exact⟨rfl,rfl,trivial⟩
theorem ahL:aN Tryz.prog 44 V6:=
 aN.b3 (l:=[(50,NO),(97,KY),(98,TJ),(99,TH)]) (A:=a44) aJ ⟨abp,acj,aci,ach,trivial⟩ Tryz.func44 (by kernel_rfl) (by kernel_rfl) fun x _ hp=>b44 x.1 hp
def TU:bg where
 args:=[.list Cn,.list Cn]
 out:= .data [.bool]
 pre:=fun(x:List mA×List mA×Unit)=>True
 fn:=fun(x:List mA×List mA×Unit)=>(x.1==x.2.1,())
def a162 (x:List mA×List mA×Unit):eA:=bh [(4,fun _=>dH x.1.length (oc x.1 x.2.1) 13 [0,1,12] [])]
def TT:bg where
 args:=[.list Cm,.list Cm]
 out:= .data [.bool]
 pre:=fun(x:List nm×List nm×Unit)=>True
 fn:=fun(x:List nm×List nm×Unit)=>(x.1==x.2.1,())
def abV (x:List nm×List nm×Unit):eA:=bh [(4,fun _=>dH x.1.length (oc x.1 x.2.1) 13 [0,1,12] [])]
def TS:bg where
 args:=[.list xa,.list xa]
 out:= .data [.bool]
 pre:=fun(x:List gy×List gy×Unit)=>True
 fn:=fun(x:List gy×List gy×Unit)=>(x.1==x.2.1,())
def a164 (x:List gy×List gy×Unit):eA:=bh [(4,fun _=>dH x.1.length (oc x.1 x.2.1) 13 [0,1,12] [])]
def LG:bg where
 args:=[.list I,.list I]
 out:= .data [.bool]
 pre:=fun(x:List Int×List Int×Unit)=>True
 fn:=fun(x:List Int×List Int×Unit)=>(x.1==x.2.1,())
def a167 (x:List Int×List Int×Unit):eA:=bh [(4,fun _=>dH x.1.length (oc x.1 x.2.1) 13 [0,1,12] [])]
def TQ:bg where
 args:=[.list kD,.list kD]
 out:= .data [.bool]
 pre:=fun(x:List cu×List cu×Unit)=>True
 fn:=fun(x:List cu×List cu×Unit)=>(x.1==x.2.1,())
def a168 (x:List cu×List cu×Unit):eA:=bh [(4,fun _=>dH x.1.length (oc x.1 x.2.1) 13 [0,1,12] [])]
def TP:bg where
 args:=[.list eB,.list eB]
 out:= .data [.bool]
 pre:=fun(x:List ba×List ba×Unit)=>True
 fn:=fun(x:List ba×List ba×Unit)=>(x.1==x.2.1,())
def abU (x:List ba×List ba×Unit):eA:=bh [(4,fun _=>dH x.1.length (oc x.1 x.2.1) 13 [0,1,12] [])]
def TR:bg where
 args:=[yd,yd]
 out:= .data [.bool]
 pre:=fun(x:ly×ly×Unit)=>True
 fn:=fun(x:ly×ly×Unit)=>(x.1==x.2.1,())
abbrev abi:Ty:= .lN 166 .unit
abbrev abj:Ty:= .lN 107 .unit
def AF:bg where
 args:=[.list yd,.list yd,abi]
 out:= .data [.bool]
 pre:=fun(x:List ly×List ly×Unit×Unit)=>True
 fn:=fun(x:List ly×List ly×Unit×Unit)=>(x.1==x.2.1,())
def Mc (x:List ly×List ly×Unit×Unit):eA:=bh [(4,fun _=>dH x.1.length (oc x.1 x.2.1) 17 [0,1,2,15,16] [])]
def TX:bg where
 args:=[PlanT,PlanT]
 out:= .data [.bool]
 pre:=fun(x:ab×ab×Unit)=>True
 fn:=fun(x:ab×ab×Unit)=>(x.1==x.2.1,())
def TW:bg where
 args:=[eH,eH]
 out:= .data [.bool]
 pre:=fun(x:af×af×Unit)=>True
 fn:=fun(x:af×af×Unit)=>(x.1==x.2.1,())
def AG:bg where
 args:=[.list eH,.list eH,abj]
 out:= .data [.bool]
 pre:=fun(x:List af×List af×Unit×Unit)=>True
 fn:=fun(x:List af×List af×Unit×Unit)=>(x.1==x.2.1,())
def Md (x:List af×List af×Unit×Unit):eA:=bh [(4,fun _=>dH x.1.length (oc x.1 x.2.1) 17 [0,1,2,15,16] [])]
def YJ:bg where
 args:=[mN,mN]
 out:= .data [.bool]
 pre:=fun(x:bO×bO×Unit)=>True
 fn:=fun(x:bO×bO×Unit)=>(x.1==x.2.1,())
abbrev ZE:Ty:= .pair mN (.pair (.list kT) (.pair (.ptr rk) (.pair (.ptr DV) (.list I))))
abbrev Gi:=bO×List cI×Option av×Option eJ×List Int
abbrev Gh:eU:= .cells true (.pair (.aG mN) (.pair (.row 73 kT) (.pair Af (.pair N3 (.row 3 I)))))
abbrev fh:=bO×List cI×av×eJ×List Int
def YS (p:ab):av:=(max 0 (min (p.1.length:Int) 40),[],[],[],[])
def L5 (c:bO):fh:=(c,List.replicate c.2.length gk,YS c.1,(some (nf c.1),[]),List.replicate c.1.2.2.1.length 0)
def ae5 (b:fh):Gi:=(b.1,b.2.1,some b.2.2.1,some b.2.2.2.1,b.2.2.2.2)
@[irreducible] def xX (c:bO):Int:=bif !((cK c.1).2==0) then(cK c.1).2 else bif c==(cK c.1).1 then 0 else 1
@[irreducible] def aeW (c:bO):Option Gi:=bif xX c==0 then some (ae5 (L5 c)) else none
def Wa:bg where
 args:=[mN]
 out:= .data [.ptr ZE,I]
 pre:=fun(x:bO×Unit)=>cY x.1.1
 fn:=fun(x:bO×Unit)=>(aeW x.1,xX x.1,())
def Ql:fG where
 args:=[.aG mN]
 outs:=[Gh,.aG I]
 pre:=fun(x:bO×Unit)=>cY x.1.1/\xX x.1=0
 fn:=fun(x:bO×Unit)=>(L5 x.1,0,())
def Dt {α:Type} (a b:List α) (same:Bool) (ne:Nat->Bool) (R:Prop) (W:Prop->Prop):Prop:=
 (((a.length:Int) !=(b.length:Int))=true->false=same/\True)/\
 (((a.length:Int) !=(b.length:Int))=false->
  (∃s0:Nat,(s0<=a.length/\oc a b s0)/\(s0:Int)=(0:Int)/\R)/\
  ∀s:Nat,s<=a.length/\oc a b s->
   (decide ((s:Int)<(a.length:Int))=true->aL (s:Int) a.length/\aL (s:Int) b.length/\W ((ne s=true->false=same/\True)/\
    (ne s=false->bo IntKind.i64 ((s:Int)+(1:Int))/\∃t:Nat,(t<=a.length/\oc a b t)/\a.length - t<a.length - s/\(t:Int)=(s:Int)+(1:Int)/\R)))/\
   (decide ((s:Int)<(a.length:Int))=false->true=same/\True))
theorem sO {α:Type} [BEq α] [LawfulBEq α] {a b:List α} {ne:Nat->Bool} {R:Prop} {W:Prop->Prop} (d:α) (hw:a.length<=aM) (hR:R) (hW:∀X,X->W X) (h:∀s,ne s= !(a.getD s d==b.getD s d)):Dt a b (a==b) ne R W:=by
 refine⟨fun h=>⟨MM rfl h,trivial⟩,fun hl=> ?_⟩
 have hl:=EL rfl hl
 refine⟨⟨0,⟨by omega,hl,rfl⟩,rfl,hR⟩,fun s=> ?_⟩
 rintro⟨h1,h2,h3⟩
 refine⟨fun hs=> ?_,fun hs=>⟨BB hl h3 (bt rfl hs),trivial⟩⟩
 have hs:=aZ rfl hs
 refine⟨⟨by omega,by omega⟩,⟨by omega,by omega⟩,hW _ ⟨fun e=>⟨?_,trivial⟩,fun e=>⟨dw hs hw,s+1,⟨by omega,hl,?_⟩,by omega,by omega,hR⟩⟩⟩
 ·exact Eh (s:=s) d (by rw[h] at e;simpa using e)
 ·exact BA d hl h3 hs (by rw[h] at e;simpa using e)
theorem Ji {α β:Type} [BEq α] [BEq β] (x y:α×β):(x==y)=(x.1==y.1&&x.2==y.2):=rfl
theorem v162 (a b:List mA):ah (aj aA []) Tryz.f162 TU (a162 (a,b,())) (a,b,())=
 Dt a b (a==b) (fun s=> !((a.getD (s:Int).toNat zE).1==(b.getD (s:Int).toNat zE).1&&((a.getD (s:Int).toNat zE).2.1==(b.getD (s:Int).toNat zE).2.1&&((a.getD (s:Int).toNat zE).2.2==(b.getD (s:Int).toNat zE).2.2&&true))))
  (a=a/\b=b/\(a.length:Int)=(a.length:Int)/\True) fun X=>X:=by kernel_rfl
theorem adh:aN Tryz.prog 162 TU:=
 aN.b3 (l:=[]) (A:=a162) aJ trivial Tryz.func162 (by kernel_rfl) (by kernel_rfl) fun x hw _=>by
  obtain⟨a,b,⟨⟩⟩:=x
  rw[v162]
  exact sO zE hw.1.1 ⟨rfl,rfl,rfl,trivial⟩ (fun _ h=>h) fun s=>by simp only[Ji,Bool.and_true,Int.toNat_natCast]
theorem agO (a b:List nm):ah (aj aA []) Tryz.f163 TT (abV (a,b,())) (a,b,())=
 Dt a b (a==b) (fun s=> !((a.getD (s:Int).toNat zJ).1.1==(b.getD (s:Int).toNat zJ).1.1&&((a.getD (s:Int).toNat zJ).1.2==(b.getD (s:Int).toNat zJ).1.2&&true)&&((a.getD (s:Int).toNat zJ).2.1==(b.getD (s:Int).toNat zJ).2.1&&((a.getD (s:Int).toNat zJ).2.2==(b.getD (s:Int).toNat zJ).2.2&&true)&&true)))
  (a=a/\b=b/\(a.length:Int)=(a.length:Int)/\True) fun X=>X:=by kernel_rfl
theorem adg:aN Tryz.prog 163 TT:=
 aN.b3 (l:=[]) (A:=abV) aJ trivial Tryz.func163 (by kernel_rfl) (by kernel_rfl) fun x hw _=>by
  obtain⟨a,b,⟨⟩⟩:=x
  rw[agO]
  exact sO zJ hw.1.1 ⟨rfl,rfl,rfl,trivial⟩ (fun _ h=>h) fun s=>by simp only[Ji,Bool.and_true,Int.toNat_natCast]
theorem v164 (a b:List gy):ah (aj aA []) Tryz.f164 TS (a164 (a,b,())) (a,b,())=
 Dt a b (a==b) (fun s=> !((a.getD (s:Int).toNat zS).1==(b.getD (s:Int).toNat zS).1&&((a.getD (s:Int).toNat zS).2.1.1==(b.getD (s:Int).toNat zS).2.1.1&&((a.getD (s:Int).toNat zS).2.1.2==(b.getD (s:Int).toNat zS).2.1.2&&true)&&((a.getD (s:Int).toNat zS).2.2==(b.getD (s:Int).toNat zS).2.2&&true))))
  (a=a/\b=b/\(a.length:Int)=(a.length:Int)/\True) fun X=>X:=by kernel_rfl
theorem adf:aN Tryz.prog 164 TS:=
 aN.b3 (l:=[]) (A:=a164) aJ trivial Tryz.func164 (by kernel_rfl) (by kernel_rfl) fun x hw _=>by
  obtain⟨a,b,⟨⟩⟩:=x
  rw[v164]
  exact sO zS hw.1.1 ⟨rfl,rfl,rfl,trivial⟩ (fun _ h=>h) fun s=>by simp only[Ji,Bool.and_true,Int.toNat_natCast]
theorem v167 (a b:List Int):ah (aj aA []) Tryz.f167 LG (a167 (a,b,())) (a,b,())=
 Dt a b (a==b) (fun s=>a.getD (s:Int).toNat 0 !=b.getD (s:Int).toNat 0) (a=a/\b=b/\(a.length:Int)=(a.length:Int)/\True) fun X=>X:=by kernel_rfl
theorem Xc:aN Tryz.prog 167 LG:=
 aN.b3 (l:=[]) (A:=a167) aJ trivial Tryz.func167 (by kernel_rfl) (by kernel_rfl) fun x hw _=>by
  obtain⟨a,b,⟨⟩⟩:=x
  rw[v167]
  exact sO 0 hw.1.1 ⟨rfl,rfl,rfl,trivial⟩ (fun _ h=>h) fun s=>by simp only[Int.toNat_natCast,iy]
theorem v168 (a b:List cu):ah (aj aA []) Tryz.f168 TQ (a168 (a,b,())) (a,b,())=
 Dt a b (a==b) (fun s=> !((a.getD (s:Int).toNat iC).1==(b.getD (s:Int).toNat iC).1&&((a.getD (s:Int).toNat iC).2.1==(b.getD (s:Int).toNat iC).2.1&&((a.getD (s:Int).toNat iC).2.2==(b.getD (s:Int).toNat iC).2.2&&true))))
  (a=a/\b=b/\(a.length:Int)=(a.length:Int)/\True) fun X=>X:=by kernel_rfl
theorem adb:aN Tryz.prog 168 TQ:=
 aN.b3 (l:=[]) (A:=a168) aJ trivial Tryz.func168 (by kernel_rfl) (by kernel_rfl) fun x hw _=>by
  obtain⟨a,b,⟨⟩⟩:=x
  rw[v168]
  exact sO iC hw.1.1 ⟨rfl,rfl,rfl,trivial⟩ (fun _ h=>h) fun s=>by simp only[Ji,Bool.and_true,Int.toNat_natCast]
theorem agM (a b:List ba):ah (aj aA []) Tryz.f169 TP (abU (a,b,())) (a,b,())=
 Dt a b (a==b) (fun s=> !((a.getD (s:Int).toNat (0,0)).1==(b.getD (s:Int).toNat (0,0)).1&&((a.getD (s:Int).toNat (0,0)).2==(b.getD (s:Int).toNat (0,0)).2&&true)))
  (a=a/\b=b/\(a.length:Int)=(a.length:Int)/\True) fun X=>X:=by kernel_rfl
theorem ada:aN Tryz.prog 169 TP:=
 aN.b3 (l:=[]) (A:=abU) aJ trivial Tryz.func169 (by kernel_rfl) (by kernel_rfl) fun x hw _=>by
  obtain⟨a,b,⟨⟩⟩:=x
  rw[agM]
  exact sO (0,0) hw.1.1 ⟨rfl,rfl,rfl,trivial⟩ (fun _ h=>h) fun s=>by simp only[Ji,Bool.and_true,Int.toNat_natCast]
theorem agN (a b:ly):ah (aj aA [(167,LG)]) Tryz.f166 TR ar (a,b,())=(
 ((a.1==b.1)=true->True)/\(bif a.1==b.1 then a.2==b.2 else false)=(a==b)/\True):=by kernel_rfl
theorem ade:aN Tryz.prog 166 TR:=
 aN.b3 (l:=[(167,LG)]) (A:=fun _=>ar) aJ ⟨Xc,trivial⟩ Tryz.func166 (by kernel_rfl) (by kernel_rfl) fun x hw _=>by
  obtain⟨a,b,⟨⟩⟩:=x
  rw[agN,Bool.cond_false_right]
  exact⟨fun _=>trivial,rfl,trivial⟩
theorem Ut (a b:List ly) (f:Unit):ah (aj aA [(166,TR)]) Tryz.f165 AF (Mc (a,b,f,())) (a,b,f,())=
 Dt a b (a==b) (fun s=> !(a.getD (s:Int).toNat zL==b.getD (s:Int).toNat zL)) (a=a/\b=b/\f=f/\a=a/\(a.length:Int)=(a.length:Int)/\True) fun X=>True/\X:=by kernel_rfl
theorem Rt:aN Tryz.prog 165 AF:=
 aN.b3 (l:=[(166,TR)]) (A:=Mc) aJ ⟨ade,trivial⟩ Tryz.func165 (by kernel_rfl) (by kernel_rfl) fun x hw _=>by
  obtain⟨a,b,f,⟨⟩⟩:=x
  rw[Ut]
  exact sO zL hw.1.1 ⟨rfl,rfl,rfl,rfl,rfl,trivial⟩ (fun _ h=>⟨trivial,h⟩) fun s=>by rw[Int.toNat_natCast]
theorem v105 (a b:ab):ah (aj aA [(162,TU),(163,TT),(164,TS),(1670165,AF)] [] [(166,.unit)]) Tryz.f105 TX ar (a,b,())=(
U (bif a.1==b.1 then a.2.1==b.2.1 else false) fun y2=>
U (bif y2 then a.2.2.1==b.2.2.1 else false) fun y3=>
True/\((a.1==b.1)=true->True)/\(y2=true->True)/\(y3=true->True)/\
(bif bif bif bif bif bif y3 then a.2.2.2.1==b.2.2.2.1 else false then a.2.2.2.2.1==b.2.2.2.2.1 else false then a.2.2.2.2.2.1==b.2.2.2.2.2.1 else false then a.2.2.2.2.2.2.1==b.2.2.2.2.2.2.1 else false then a.2.2.2.2.2.2.2.1==b.2.2.2.2.2.2.2.1 else false then
 a.2.2.2.2.2.2.2.2==b.2.2.2.2.2.2.2.2 else false)=(a==b)/\True):=by kernel_rfl
theorem adL:aN Tryz.prog 105 TX:=
 aN.b3 (l:=[(162,TU),(163,TT),(164,TS),(1670165,AF)]) (clos:=[(166,.unit)]) (A:=fun _=>ar) aJ ⟨adh,adg,adf,Rt,trivial⟩ Tryz.func105 (by kernel_rfl) (by kernel_rfl) fun x hw _=>by
  obtain⟨a,b,⟨⟩⟩:=x
  rw[v105]
  refine U.mk fun y2 e2=>U.mk fun y3 e3=>⟨trivial,fun _=>trivial,fun _=>trivial,fun _=>trivial,?_,trivial⟩
  subst e3 e2
  simp only[Ji,Bool.cond_false_right,Bool.and_assoc]
theorem v107 (a b:af):ah (aj aA [(168,TQ),(169,TP),(167,LG)]) Tryz.f107 TW ar (a,b,())=(
U (bif bif a.1==b.1 then a.2.1==b.2.1 else false then a.2.2.1==b.2.2.1 else false) fun y2=>
U (bif y2 then a.2.2.2.1==b.2.2.2.1 else false) fun y3=>
U (bif y3 then a.2.2.2.2.1==b.2.2.2.2.1 else false) fun y4=>
U (bif y4 then a.2.2.2.2.2.1==b.2.2.2.2.2.1 else false) fun y5=>
U (bif y5 then a.2.2.2.2.2.2.1==b.2.2.2.2.2.2.1 else false) fun y6=>
(y2=true->True)/\(y3=true->True)/\(y4=true->True)/\(y5=true->True)/\(y6=true->True)/\
(bif bif y6 then a.2.2.2.2.2.2.2.1==b.2.2.2.2.2.2.2.1 else false then a.2.2.2.2.2.2.2.2==b.2.2.2.2.2.2.2.2 else false)=(a==b)/\True):=by kernel_rfl
theorem adK:aN Tryz.prog 107 TW:=
 aN.b3 (l:=[(168,TQ),(169,TP),(167,LG)]) (A:=fun _=>ar) aJ ⟨adb,ada,Xc,trivial⟩ Tryz.func107 (by kernel_rfl) (by kernel_rfl) fun x hw _=>by
  obtain⟨a,b,⟨⟩⟩:=x
  rw[v107]
  refine U.mk fun y2 e2=>U.mk fun y3 e3=>U.mk fun y4 e4=>U.mk fun y5 e5=>U.mk fun y6 e6=>⟨fun _=>trivial,fun _=>trivial,fun _=>trivial,fun _=>trivial,fun _=>trivial,?_,trivial⟩
  subst e6 e5 e4 e3 e2
  simp only[Ji,Bool.cond_false_right,Bool.and_assoc]
theorem Uu (a b:List af) (f:Unit):ah (aj aA [(107,TW)]) Tryz.f106 AG (Md (a,b,f,())) (a,b,f,())=
 Dt a b (a==b) (fun s=> !(a.getD (s:Int).toNat zR==b.getD (s:Int).toNat zR)) (a=a/\b=b/\f=f/\a=a/\(a.length:Int)=(a.length:Int)/\True) fun X=>True/\X:=by kernel_rfl
theorem Ru:aN Tryz.prog 106 AG:=
 aN.b3 (l:=[(107,TW)]) (A:=Md) aJ ⟨adK,trivial⟩ Tryz.func106 (by kernel_rfl) (by kernel_rfl) fun x hw _=>by
  obtain⟨a,b,f,⟨⟩⟩:=x
  rw[Uu]
  exact sO zR hw.1.1 ⟨rfl,rfl,rfl,rfl,rfl,trivial⟩ (fun _ h=>⟨trivial,h⟩) fun s=>by rw[Int.toNat_natCast]
theorem v49 (a b:bO):ah (aj aA [(105,TX),(1080106,AG)] [] [(107,.unit)]) Tryz.f49 YJ ar (a,b,())=(
 True/\((a.1==b.1)=true->True)/\(bif a.1==b.1 then a.2==b.2 else false)=(a==b)/\True):=by kernel_rfl
theorem ahG:aN Tryz.prog 49 YJ:=
 aN.b3 (l:=[(105,TX),(1080106,AG)]) (clos:=[(107,.unit)]) (A:=fun _=>ar) aJ ⟨adL,Ru,trivial⟩ Tryz.func49 (by kernel_rfl) (by kernel_rfl) fun x hw _=>by
  obtain⟨a,b,⟨⟩⟩:=x
  rw[v49,Bool.cond_false_right]
  exact⟨trivial,fun _=>trivial,rfl,trivial⟩
def VW:bg:=c88
def AJ (b:av) (o:Int):av:=(b.1,iV I b.2.1 o,iV I b.2.2.1 o,iV I b.2.2.2.1 o,iV I b.2.2.2.2 o)
def Sy:fG where
 args:=[Af,.aG I]
 outs:=[]
 pre:=fun(x:av×Int×Unit)=>True
 fn:=fun _=>()
 fS:=fun(x:av×Int×Unit)=>(AJ x.1 x.2.1,x.2)
def xN (v y:Int):Bool:=v==y
def rN (e:Int) (x:ba):Bool:= !(x.1==e)
def iq (b:av) (o e:Int):Int:=fp (xN e) (kg b.2.1 o)
def oy (b:av) (o e:Int):av:=(b.1,df I b.2.1 o ((kg b.2.1 o).eraseIdx (iq b o e).toNat),b.2.2.1,df I b.2.2.2.1 o ((kg b.2.2.2.1 o).filter (rN e)),b.2.2.2.2)
@[irreducible] def nM (b:av) (o e:Int):av:=bif decide (iq b o e<0) then b else bif iD (oy b o e) o then oy b o e else AJ (oy b o e) o
@[irreducible] def qq (b:av) (o e:Int):Bool:= !decide (iq b o e<0)
def ug (b:av):Prop:=gz b/\b.2.1.length<=900/\b.2.2.2.1.length<=900
def NV:bg where
 args:=[.list I,I]
 out:= .data [I]
 pre:=fun(x:List Int×Int×Unit)=>True
 fn:=fun(x:List Int×Int×Unit)=>(fp (xN x.2.1) x.1,())
def V0:fG where
 args:=[Af,.aG I,.aG I]
 outs:=[.aG .bool]
 pre:=fun(x:av×Int×Int×Unit)=>ug x.1
 fn:=fun(x:av×Int×Int×Unit)=>(qq x.1 x.2.1 x.2.2.1,())
 fS:=fun(x:av×Int×Int×Unit)=>(nM x.1 x.2.1 x.2.2.1,x.2)
def iM (e:Int) (l:List ba) (k:Nat):List ba:=(l.take k).filter (rN e)
def a68 (x:av×Int×Int×Unit):eA:=bh [(7,fun _=>mS (kg x.1.2.2.2.1 x.2.1).length 44 8 1000 90 eB (iM x.2.2.1 (kg x.1.2.2.2.1 x.2.1)) [0,1,2,42,43] [1000000,1000001,1000002,1000003,1000004])] [51]
@[irreducible] def lD (b:av) (o:Int):av:=bif iD b o then AJ b o else b
def YM:fG where
 args:=[Af,.aG I]
 outs:=[.aG .bool]
 pre:=fun(x:av×Int×Unit)=>gz x.1
 fn:=fun(x:av×Int×Unit)=>(iD x.1 x.2.1,())
 fS:=fun(x:av×Int×Unit)=>(lD x.1 x.2.1,x.2)
def OT (b:av) (l:List (Int×List Int)):List Int:=(l.filter fun x=>iD b x.1).map fun x=>x.1
@[irreducible] def Yt (b:av):List Int:=ob (OT b b.2.1) (OT b b.2.1).length
def Gx:bg where
 args:=[.ref rk]
 out:= .row 3 I
 pre:=fun(x:av×Unit)=>gz x.1
 fn:=fun(x:av×Unit)=>(Yt x.1,())
theorem v72 (n:Int):ah (aj aA []) Tryz.f72 VW ar (n,())=(
U (bif decide (n<(1:Int)) then true else decide (n>(12:Int))) fun(y1:Bool)=>
(y1=true->((0:Int),(0:Int),false,[])=nN n/\True)/\
(y1=false->((0:Int)<=n/\n<=n)/\(roomFor n.toNat (1:Nat)/\n<=(↑aM:Int))/\((1:Int),(0:Int),false,List.replicate n.toNat false)=nN n/\True)):=by kernel_rfl
theorem ahr:aN Tryz.prog 72 VW:=
 aN.b3 (l:=[]) (A:=fun _=>ar) aJ trivial Tryz.func72 (by kernel_rfl) (by kernel_rfl) fun x hw _=>by
  obtain⟨(n:Int),⟨⟩⟩:=x
  show ah _ _ VW ar (n,())
  rw[v72]
  refine U.mk fun y1 e1=>⟨fun h=> ?_,fun h=> ?_⟩
  ·have h2:(decide (n<1)||decide (n>12))=true:=by rw[<-h,e1];cases decide (n<1)<;>rfl
   unfold nN
   rw[h2]
   exact⟨rfl,trivial⟩
  ·have h2:(decide (n<1)||decide (n>12))=false:=by rw[<-h,e1];cases decide (n<1)<;>rfl
   have h3:=Bool.or_eq_false_iff.1 h2
   have h4:=of_decide_eq_false h3.1
   have h5:=of_decide_eq_false h3.2
   have:(aM:Int)=9223372036854775807:=rfl
   refine⟨⟨by omega,by omega⟩,⟨cT (by omega) (by decide),by omega⟩,?_,trivial⟩
   unfold nN
   rw[h2]
   rfl
theorem Z8:aN Tryz.prog 117 NV:=Xi
theorem v96 (b:av) (o:Int):bS (aj aA []) Tryz.f96 Sy ar (b,o,())=(
b.1=b.1/\
(iV I b.2.1 o).Perm (iV I b.2.1 o)/\
(iV I b.2.2.1 o).Perm (iV I b.2.2.1 o)/\
(iV I b.2.2.2.1 o).Perm (iV I b.2.2.2.1 o)/\(iV I b.2.2.2.2 o).Perm (iV I b.2.2.2.2 o)/\True):=by kernel_rfl
theorem abn:fq Tryz.prog 96 Sy:=
 fq.b3 (l:=[]) (A:=fun _=>ar) aJ trivial Tryz.func96 (by kernel_rfl) (by kernel_rfl) fun x hw _=>by
  obtain⟨b,o,⟨⟩⟩:=x
  rw[v96]
  exact⟨rfl,.refl _,.refl _,.refl _,.refl _,trivial⟩
theorem Er {β:Type} {k:Int} {v:β}:∀{m:List (Int×β)} {x:Int×β},x∈df I m k v->x=(k,v)\/x∈m
 |[],x,h=> .inl (List.mem_singleton.1 h)
 |y::m,x,h=>by
  unfold df at h
  cases hb:Ty.jc I k y.1 with
  |true=>
   rw[hb] at h
   rcases List.mem_cons.1 h with h|h
   ·exact .inl h
   ·exact .inr (List.mem_cons_of_mem _ h)
  |false=>
   rw[hb] at h
   rcases List.mem_cons.1 h with h|h
   ·exact .inr (h▸List.mem_cons_self)
   ·rcases Er h with h|h
    ·exact .inl h
    ·exact .inr (List.mem_cons_of_mem _ h)
theorem Ep {β:Type} {k:Int} {v:β}:∀(m:List (Int×β)),(df I m k v).length<=m.length+1
 |[]=>Nat.le_refl _
 |y::m=>by
  unfold df
  cases Ty.jc I k y.1 with
  |true=>exact Nat.le_succ _
  |false=>
   have:=Ep (k:=k) (v:=v) m
   show(df I m k v).length+1<=m.length+1+1
   omega
theorem NA {b:av} (h:ug b) (o e:Int):gz (oy b o e):=by
 obtain⟨hb,h1,h2⟩:=h
 refine⟨fun x hx=> ?_,hb.nu,fun x hx=> ?_,hb.guards,?_,hb.vz.2.1,?_⟩
 ·rcases Er hx with rfl|hx
  ·have:=qS hb.steps o
   have h3:=List.length_eraseIdx_le (kg b.2.1 o) (iq b o e).toNat
   show((kg b.2.1 o).eraseIdx (iq b o e).toNat).length<=1000
   omega
  ·exact hb.steps x hx
 ·rcases Er hx with rfl|hx
  ·have:=qS hb.sV o
   have h3:=List.length_filter_le (rN e) (kg b.2.2.2.1 o)
   show((kg b.2.2.2.1 o).filter (rN e)).length<=1000
   omega
  ·exact hb.sV x hx
 ·have:=Ep (k:=o) (v:=(kg b.2.1 o).eraseIdx (iq b o e).toNat) b.2.1
  show(df I b.2.1 o _).length<=1000
  omega
 ·have:=Ep (k:=o) (v:=(kg b.2.2.2.1 o).filter (rN e)) b.2.2.2.1
  show(df I b.2.2.2.1 o _).length<=1000
  omega
theorem RJ (e:Int) (l:List ba) {k:Nat} (hk:k<l.length):iM e l (k+1)=iM e l k++(bif rN e (l.getD k (0,0)) then[l.getD k (0,0)] else[]):=by
 unfold iM
 rw[eQ (0,0) hk,List.filter_append]
 generalize l.getD k (0,0)=z
 cases h:rN e z<;>simp[h]
theorem Iz {b:av} {o e:Int} (h:decide (iq b o e<0)=true):nM b o e=b/\qq b o e=false:=by
 unfold nM qq
 rw[h]
 exact⟨rfl,rfl⟩
theorem KQ {b:av} {o e:Int} (h:decide (iq b o e<0)=false):nM b o e=(bif iD (oy b o e) o then oy b o e else AJ (oy b o e) o)/\qq b o e=true:=by
 unfold nM qq
 rw[h]
 exact⟨rfl,rfl⟩
theorem VE {α:Type} (p:α->Bool) (xs:List α) (h0:0<=fp p xs):fp p xs<(xs.length:Int):=by
 unfold fp at h0 ⊢
 cases h:xs.any p with
 |true=>
  obtain⟨x,hx,hp⟩:=List.any_eq_true.1 h
  have:=List.findIdx_lt_length_of_exists ⟨x,hx,hp⟩
  rw[if_pos rfl]
  omega
 |false=>
  rw[h] at h0
  simp at h0
theorem v68 (b:av) (o:Int) (e:Int):bS (aj aA [(117,NV),(59,IZ),(118,TV),(28,Gw),(96,Sy)]) Tryz.f68 V0 (a68 (b,o,e,())) (b,o,e,())=(
U ((aW I b.2.1 o).getD []) fun(y3:List Int)=>
U (decide (fp (xN e) y3<(0:Int))) fun(y4:Bool)=>
U (nM b o e).2.1 fun(y5:List (Int×List Int))=>
U (nM b o e).2.2 fun(y6:List (Int×List Int)×List (Int×List (Int×Int))×List (Int×List (Int×Int)))=>
U (fp (xN e) y3+(1:Int)) fun(y7:Int)=>
U (kg b.2.2.2.1 o) fun(y8:List ba)=>
U ((aW I b.2.2.2.1 o).getD []) fun(y9:List (Int×Int))=>
U (df I b.2.1 o (y3.eraseIdx (fp (xN e) y3).toNat)) fun(bu:List (Int×List Int))=>
True/\
(y4=true->
false=qq b o e/\
b.1=(nM b o e).1/\b.2.1.Perm y5/\b.2.2.1.Perm y6.1/\b.2.2.2.1.Perm y6.2.1/\b.2.2.2.2.Perm y6.2.2/\True)/\
(y4=false->
cR y3/\
bo IntKind.i64 y7/\
((0:Int)<=fp (xN e) y3/\y7=y7/\y7<=(↑y3.length:Int))/\
(∃(sE:Nat),
sE<=y8.length/\
(↑sE:Int)=(0:Int)/\
o=o/\
e=e/\
y9=y9/\
(↑y9.length:Int)=(↑y9.length:Int)/\
iM e y8 sE=[]/\
b.1=b.1/\bu=bu/\b.2.2.1=b.2.2.1/\b.2.2.2.1=b.2.2.2.1/\b.2.2.2.2=b.2.2.2.2/\True)/\
∀(ki:Nat),
U (decide ((↑ki:Int)<(↑y9.length:Int))) fun(aw:Bool)=>
U (y9.getD (↑ki:Int).toNat ((0:Int),(0:Int))) fun(aB:Int×Int)=>
U ((List.replicate (1:Nat) ((0:Int),(0:Int))).set (0:Nat) aB) fun(cL:List (Int×Int))=>
U (df I b.2.2.2.1 o (iM e y8 ki)) fun(bC:List (Int×List (Int×Int)))=>
U (b.1,bu,b.2.2.1,bC,b.2.2.2.2)
fun(cC:av)=>
ki<=y8.length->
(aw=true->
aL (↑ki:Int) y9.length/\
((aB.1 !=e)=true->
roomFor ((iM e y8 ki).length+cL.length) (16:Nat)/\
bo IntKind.i64 ((↑ki:Int)+(1:Int))/\
∃(vu:Nat),
vu<=y8.length/\
y8.length - vu<y8.length - ki/\
(↑vu:Int)=(↑ki:Int)+(1:Int)/\
o=o/\
e=e/\
y9=y9/\
(↑y9.length:Int)=(↑y9.length:Int)/\
iM e y8 vu=iM e y8 ki++cL/\
b.1=b.1/\
bu=bu/\
b.2.2.1=b.2.2.1/\b.2.2.2.1=b.2.2.2.1/\b.2.2.2.2=b.2.2.2.2/\True)/\
((aB.1 !=e)=false->
bo IntKind.i64 ((↑ki:Int)+(1:Int))/\
∃(vu:Nat),
vu<=y8.length/\
y8.length - vu<y8.length - ki/\
(↑vu:Int)=(↑ki:Int)+(1:Int)/\
o=o/\
e=e/\
y9=y9/\
(↑y9.length:Int)=(↑y9.length:Int)/\
iM e y8 vu=iM e y8 ki/\
b.1=b.1/\
bu=bu/\
b.2.2.1=b.2.2.1/\b.2.2.2.1=b.2.2.2.1/\b.2.2.2.2=b.2.2.2.2/\True))/\
(aw=false->
gz cC/\
((!iD cC o)=true->
True/\
true=qq b o e/\
b.1=(nM b o e).1/\
(iV I bu o).Perm y5/\
(iV I b.2.2.1 o).Perm y6.1/\(iV I bC o).Perm y6.2.1/\(iV I b.2.2.2.2 o).Perm y6.2.2/\True)/\
((!iD cC o)=false->
true=qq b o e/\
b.1=(nM b o e).1/\bu.Perm y5/\b.2.2.1.Perm y6.1/\bC.Perm y6.2.1/\b.2.2.2.2.Perm y6.2.2/\True)))):=by kernel_rfl
theorem b68 (b:av) (o e:Int) (h:ug b):bS (aj aA [(117,NV),(59,IZ),(118,TV),(28,Gw),(96,Sy)]) Tryz.f68 V0 (a68 (b,o,e,())) (b,o,e,()):=by
 rw[v68]
 obtain⟨hb,h1,h2⟩:=id h
 simp only[true_and,and_true,eq_self]
 refine U.mk fun y3 e3=>U.mk fun y4 e4=>U.mk fun y5 e5=>U.mk fun y6 e6=>U.mk fun y7 e7=>U.mk fun y8 e8=>U.mk fun y9 e9=>U.mk fun bu dy=> ?_
 have e3:y3=kg b.2.1 o:=e3
 have e9:y9=y8:=by rw[e9,e8];rfl
 subst e9
 have l3:y3.length<=1000:=by rw[e3];exact qS hb.steps o
 have l9:y9.length<=1000:=by rw[e8];exact qS hb.sV o
 have hx:fp (xN e) y3=iq b o e:=by rw[e3];rfl
 rw[hx] at e4 e7 dy ⊢
 refine⟨fun h4=> ?_,fun h4=> ?_⟩
 ·obtain⟨f1,f2⟩:=Iz (b:=b) (o:=o) (e:=e) (by rw[<-e4];exact h4)
  rw[e5,e6,f1,f2]
  exact⟨rfl,rfl,.refl _,.refl _,.refl _,.refl _⟩
 ·have h4':decide (iq b o e<0)=false:=by rw[<-e4];exact h4
  obtain⟨f1,f2⟩:=KQ h4'
  have h0:=of_decide_eq_false h4'
  have dQ:iq b o e<(y3.length:Int):=by
   rw[e3]
   exact VE (xN e) (kg b.2.1 o) (by show 0<=iq b o e;omega)
  refine⟨l3,by rw[e7];exact aY (by omega) (by omega),⟨by omega,by omega⟩,⟨0,by omega,rfl,rfl⟩,fun k=>U.mk fun aw dW=>U.mk fun aB gE=>U.mk fun cL j5=>U.mk fun bC iJ=>U.mk fun cC k7=>fun hk=>⟨fun hs=> ?_,fun hs=> ?_⟩⟩
  ·have hs:=aZ dW hs
   have gE:aB=y9.getD k (0,0):=gE
   have hsu:=RJ e y9 hs
   have X2:(iM e y9 k).length<=k:=by
    unfold iM
    exact Nat.le_trans (List.length_filter_le _ _) (by rw[List.length_take];omega)
   refine⟨⟨by omega,by omega⟩,fun hn=>⟨cT (by rw[j5];show _+1<=_;omega) (by decide),aY (by omega) (by omega),k+1,by omega,by omega,by omega,?_⟩,fun hn=>⟨aY (by omega) (by omega),k+1,by omega,by omega,by omega,?_⟩⟩
   ·rw[hsu,<-gE,show rN e aB=true from hn,j5];rfl
   ·rw[hsu,<-gE,show rN e aB=false from hn];exact List.append_nil _
  ·have hs:=bt dW hs
   have X3:k=y9.length:=by omega
   have iJ:bC=df I b.2.2.2.1 o ((kg b.2.2.2.1 o).filter (rN e)):=by
    rw[iJ,X3,e8]
    unfold iM
    rw[List.take_length]
   have k7:cC=oy b o e:=by rw[k7,dy,iJ,e3];rfl
   rw[k7]
   refine⟨NA h o e,fun hn=> ?_,fun hn=> ?_⟩
   ·have hn:iD (oy b o e) o=false:=by simpa using hn
    rw[e5,e6,f2,f1,hn,dy,iJ,e3]
    exact⟨rfl,rfl,.refl _,.refl _,.refl _,.refl _⟩
   ·have hn:iD (oy b o e) o=true:=by simpa using hn
    rw[e5,e6,f2,f1,hn,dy,iJ,e3]
    exact⟨rfl,rfl,.refl _,.refl _,.refl _,.refl _⟩
theorem ahv:fq Tryz.prog 68 V0:=
 fq.b3 (l:=[(117,NV),(59,IZ),(118,TV),(28,Gw),(96,Sy)]) (A:=a68) aJ ⟨Z8,Tf,adE,W3,abn,trivial⟩ Tryz.func68 (by kernel_rfl) (by kernel_rfl) fun x hw hp=>b68 x.1 x.2.1 x.2.2.1 hp
theorem v43 (b:av) (o:Int):bS (aj aA [(28,Gw),(96,Sy)]) Tryz.f43 YM ar (b,o,())=(
U (lD b o).2.2.1 fun(y2:List (Int×List Int))=>
U (lD b o).2.2.2 fun(y3:List (Int×List (Int×Int))×List (Int×List (Int×Int)))=>
gz b/\
((!iD b o)=true->
false=iD b o/\b.1=(lD b o).1/\b.2.1.Perm (lD b o).2.1/\b.2.2.1.Perm y2/\b.2.2.2.1.Perm y3.1/\b.2.2.2.2.Perm y3.2/\True)/\
((!iD b o)=false->
True/\
true=iD b o/\
b.1=(lD b o).1/\
(iV I b.2.1 o).Perm (lD b o).2.1/\(iV I b.2.2.1 o).Perm y2/\(iV I b.2.2.2.1 o).Perm y3.1/\(iV I b.2.2.2.2 o).Perm y3.2/\True)):=by kernel_rfl
theorem ahM:fq Tryz.prog 43 YM:=
 fq.b3 (l:=[(28,Gw),(96,Sy)]) (A:=fun _=>ar) aJ ⟨W3,abn,trivial⟩ Tryz.func43 (by kernel_rfl) (by kernel_rfl) fun x hw hp=>by
  obtain⟨b,o,⟨⟩⟩:=x
  have hp:gz b:=hp
  rw[v43]
  refine U.mk fun y2 e2=>U.mk fun y3 e3=>⟨hp,fun hn=> ?_,fun hn=> ?_⟩
  ·have hn:iD b o=false:=by simpa using hn
   have hd:lD b o=b:=by unfold lD;rw[hn];rfl
   rw[e2,e3,hd,hn]
   exact⟨rfl,rfl,.refl _,.refl _,.refl _,.refl _,trivial⟩
  ·have hn:iD b o=true:=by simpa using hn
   have hd:lD b o=AJ b o:=by unfold lD;rw[hn];rfl
   rw[e2,e3,hd,hn]
   exact⟨trivial,rfl,rfl,.refl _,.refl _,.refl _,.refl _,trivial⟩

theorem v58 (l:List Bool):ah (aj aA []) Tryz.f58 I4 ar (l,())=(
∀(b1:Bool),
(b1=true->l=[])->(b1=true->[]=l/\True)/\(b1=false->roomFor ((List.replicate (0:Nat) false).length+l.length) (1:Nat)/\List.replicate (0:Nat) false++l=l/\True)):=by kernel_rfl
theorem W0:aN Tryz.prog 58 I4:=
 aN.b3 (l:=[]) (A:=fun _=>ar) aJ trivial Tryz.func58 (by kernel_rfl) (by kernel_rfl) fun x hw hp=>by
  obtain⟨l,⟨⟩⟩:=x
  have hp:l.length<=1000:=hp
  rw[v58]
  exact fun b1 h=>⟨fun e=>⟨(h e).symm,trivial⟩,fun _=>⟨cT (by show 0+_<=_;omega) (by decide),rfl,trivial⟩⟩
theorem agh (l:List Bool) (v:Bool):ah (aj aA []) Tryz.f245 TM (abT (l,v,())) (l,v,())=(
(∃(dr:Nat),(dr<=l.length/\(List.take dr l).any (C6 v)=false)/\(↑dr:Int)=(0:Int)/\l=l/\v=v/\(↑l.length:Int)=(↑l.length:Int)/\True)/\
∀(s2:Nat),
U (decide ((↑s2:Int)<(↑l.length:Int))) fun(y3:Bool)=>
U (v==l.getD (↑s2:Int).toNat false) fun(y4:Bool)=>
s2<=l.length/\(List.take s2 l).any (C6 v)=false->
(y3=true->
aL (↑s2:Int) l.length/\
(y4=true->(↑s2:Int)=fp (C6 v) l/\True)/\
(y4=false->
bo IntKind.i64 ((↑s2:Int)+(1:Int))/\
∃(gO:Nat),
(gO<=l.length/\(List.take gO l).any (C6 v)=false)/\
l.length - gO<l.length - s2/\(↑gO:Int)=(↑s2:Int)+(1:Int)/\l=l/\v=v/\(↑l.length:Int)=(↑l.length:Int)/\True))/\
(y3=false->(-1:Int)=fp (C6 v) l/\True)):=by kernel_rfl
theorem acz:aN Tryz.prog 245 TM:=
 aN.b3 (l:=[]) (A:=abT) aJ trivial Tryz.func245 (by kernel_rfl) (by kernel_rfl) fun x hw hp=>by
  obtain⟨l,v,⟨⟩⟩:=x
  have hw:l.length<=aM:=hw.1.1
  rw[agh]
  simp only[true_and,and_true,eq_self]
  refine⟨⟨0,⟨by omega,by simp⟩,by omega⟩,fun s=>U.mk fun y4 e4=>U.mk fun y5 e5=> ?_⟩
  rintro⟨h1,h2⟩
  rw[Int.toNat_natCast] at e5
  refine⟨fun hs=> ?_,fun hs=> ?_⟩
  ·have hs:=aZ e4 hs
   refine⟨⟨by omega,by omega⟩,fun e=> ?_,fun e=>⟨dw hs hw,s+1,⟨by omega,?_⟩,by omega,by omega⟩⟩
   ·exact rX false hs h2 (by unfold C6;rw[fI,<-e5];exact e)
   ·exact any_succ false hs h2 (by unfold C6;rw[fI,<-e5];exact e)
  ·exact qp (s:=s) (bt e4 hs) h2
theorem agC (l:List Bool) (v:Bool):ah (aj aA [(245,TM)]) Tryz.f195 TO ar (l,v,())=(
cR l/\decide (fp (C6 v) l>=(0:Int))=l.any (C6 v)/\True):=by kernel_rfl
theorem acW:aN Tryz.prog 195 TO:=
 aN.b3 (l:=[(245,TM)]) (A:=fun _=>ar) aJ ⟨acz,trivial⟩ Tryz.func195 (by kernel_rfl) (by kernel_rfl) fun x hw hp=>by
  obtain⟨l,v,⟨⟩⟩:=x
  rw[agC]
  exact⟨hp,p9,trivial⟩
def Tb (a b:Int):Prop:=
 (∃s0:Nat,(a+(s0:Int)<=b\/s0=(0:Nat))/\a+(s0:Int)=a/\b=b/\gr a (a+(s0:Int))=[]/\True)/\
 ∀s:Nat,a+(s:Int)<=b\/s=(0:Nat)->
  (decide (a+(s:Int)<b)=true->roomFor ((gr a (a+(s:Int))).length+((List.replicate (1:Nat) (0:Int)).set (0:Nat) (a+(s:Int))).length) (8:Nat)/\bo IntKind.i64 (a+(s:Int)+(1:Int))/\
   ∃t:Nat,(a+(t:Int)<=b\/t=(0:Nat))/\(b - a).toNat - t<(b - a).toNat - s/\a+(t:Int)=a+(s:Int)+(1:Int)/\b=b/\gr a (a+(t:Int))=gr a (a+(s:Int))++(List.replicate (1:Nat) (0:Int)).set (0:Nat) (a+(s:Int))/\True)/\
  (decide (a+(s:Int)<b)=false->gr a (a+(s:Int))=gr a b/\True)
theorem yU (a:Int) (k:Nat):gr a (a+(k:Int))=(List.range k).map fun(i:Nat)=>a+(i:Int):=by
 unfold gr
 rw[show(a+(k:Int) - a).toNat=k by omega]
theorem WN {a b:Int} (h1:0<=a) (h2:b<=1000):Tb a b:=by
 refine⟨⟨0,.inr rfl,by omega,rfl,by rw[yU];rfl,trivial⟩,fun s hs=>⟨fun h=> ?_,fun h=> ?_⟩⟩
 ·have h:=of_decide_eq_true h
  refine⟨cT ?_ (by decide),aY (by omega) (by omega),s+1,.inl (by omega),by omega,by omega,rfl,?_,trivial⟩
  ·rw[yU,List.length_map,List.length_range]
   show s+1<=_
   omega
  ·rw[yU,yU,List.range_succ,List.map_append]
   rfl
 ·have h:=of_decide_eq_false h
  refine⟨?_,trivial⟩
  rcases hs with hs|hs
  ·rw[show a+(s:Int)=b by omega]
  ·subst hs
   rw[yU]
   unfold gr
   rw[show(b - a).toNat=0 by omega]
theorem ag6 (a b:Int):ah (aj aA []) Tryz.f116 Qm (a116 (a,b,())) (a,b,())=Tb a b:=by kernel_rfl
theorem adF:aN Tryz.prog 116 Qm:=
 aN.b3 (l:=[]) (A:=a116) aJ trivial Tryz.func116 (by kernel_rfl) (by kernel_rfl) fun x hw hp=>by
  obtain⟨a,b,⟨⟩⟩:=x
  rw[ag6]
  exact WN hp.1 hp.2
theorem ag7 (iL:List Bool) (v:List Bool×Bool×Bool×Bool×Bool×Bool×Bool):ah (aj aA [(195,TO)]) Tryz.f115 Qn ar (iL,v,())=(
cR iL/\(bif !iL.any (C6 true) then bif !v.2.2.2.2.1 then true else v.2.2.2.2.2.1 else false)=we iL v/\True):=by kernel_rfl
theorem adG:aN Tryz.prog 115 Qn:=
 aN.b3 (l:=[(195,TO)]) (A:=fun _=>ar) aJ ⟨acW,trivial⟩ Tryz.func115 (by kernel_rfl) (by kernel_rfl) fun x hw hp=>by
  obtain⟨l,v,⟨⟩⟩:=x
  rw[ag7]
  refine⟨hp,?_,trivial⟩
  unfold we
  rw[Bool.cond_false_right,Bool.cond_true_left]
theorem B9 {seen o:List Bool} {k:Nat} (hl:seen.length=o.length) (i:Nat):(lr seen o k)[i]? =if i<k then(seen[i]?).bind (fun a=>(o[i]?).map fun b=>a||b) else seen[i]? :=by
 have Vb:∀xs ys:List Bool,(List.zipWith (fun a b=>a||b) xs ys)[i]? =(xs[i]?).bind (fun a=>(ys[i]?).map fun b=>a||b):=fun xs ys=>by
  rw[List.getElem?_zipWith]
  cases xs[i]? <;>cases ys[i]? <;>rfl
 unfold lr
 by_cases hk:k<=seen.length
 ·have hz:(List.zipWith (fun a b=>a||b) (seen.take k) (o.take k)).length=k:=by simp;omega
  by_cases h:i<k
  ·rw[if_pos h,List.getElem?_append_left (by rw[hz];exact h),Vb,List.getElem?_take_of_lt h,List.getElem?_take_of_lt h]
  ·rw[if_neg h,List.getElem?_append_right (by rw[hz];omega),hz,List.getElem?_drop]
   congr 1
   omega
 ·have h1:seen.take k=seen:=List.take_of_length_le (by omega)
  have h2:o.take k=o:=List.take_of_length_le (by omega)
  have h3:seen.drop k=[]:=List.drop_eq_nil_of_le (by omega)
  rw[h1,h2,h3,List.append_nil,Vb]
  by_cases h:i<k
  ·rw[if_pos h]
  ·rw[if_neg h,List.getElem?_eq_none (by omega:seen.length<=i)]
   rfl
theorem sq {seen o:List Bool} {k:Nat} (hl:seen.length=o.length) (hk:k<=seen.length):(lr seen o k).length=seen.length:=by
 simp[lr]
 omega
theorem P2 {seen o:List Bool}:lr seen o 0=seen:=by simp[lr]
theorem VD {seen o:List Bool} {k:Nat} (hl:seen.length=o.length):(lr seen o k).getD k false=seen.getD k false:=by
 rw[List.getD_eq_getElem?_getD,B9 hl,if_neg (Nat.lt_irrefl k),<-List.getD_eq_getElem?_getD]
theorem P3 {seen o:List Bool} {k:Nat} (hl:seen.length=o.length) (hk:k<seen.length):lr seen o (k+1)=(lr seen o k).set k (seen.getD k false||o.getD k false):=by
 apply List.ext_getElem?
 intro i
 have vk:k<o.length:=hl▸hk
 rw[B9 hl,List.getElem?_set,sq hl (by omega)]
 by_cases e:k=i
 ·subst e
  rw[if_pos (Nat.lt_succ_self k),if_pos rfl,if_pos hk,List.getElem?_eq_getElem hk,List.getElem?_eq_getElem vk]
  simp[List.getD_eq_getElem?_getD,hk,vk]
 ·rw[if_neg e,B9 hl]
  by_cases h:i<k
  ·rw[if_pos (by omega),if_pos h]
  ·rw[if_neg (by omega),if_neg h]
theorem Dp (v:kS):(mg v).length=v.1.length:=by
 unfold mg
 cases v.2.1<;>simp
theorem PX {l:cI} {v:kS} (h:l.1=0):dc l v=(l,[]):=by
 unfold dc
 rw[if_pos h]
theorem Se {l:cI} {v:kS} (h:l.1≠0) (hb:tc l v):dc l v=(gk,[]):=by
 unfold dc
 rw[if_neg h]
 exact if_pos hb
theorem KP {l:cI} {f:Nat} {v:kS} (h:l.1≠0) (hb:¬tc l v) (hf:l.2.1=(f:Int)):
  dc l v=xG l.1 f (l.2.2.1||v.2.2.2.2.2.2) (lr l.2.2.2 (mg v) v.1.length) (mg v) v.1.length v:=by
 unfold dc
 rw[if_neg h]
 refine(if_neg hb).trans ?_
 simp only[hf,Int.toNat_natCast]
theorem P4 {seen o:List Bool} {gate:Bool} {last f:Nat} (h:f<last):
  ng seen o gate last (last - f) f=if seen.getD f false&&(!o.getD f false&&(o.getD (f+1) false||gate&&f+1==last)) then ng seen o gate last (last - (f+1)) (f+1) else f:=by
 have:last - f=(last - (f+1))+1:=by omega
 rw[this,ng]
theorem Si {seen o:List Bool} {gate:Bool} {last f:Nat} (h:last<=f):ng seen o gate last (last - f) f=f:=by
 have:last - f=0:=by omega
 rw[this,ng]
theorem aam {α:Type} {P Q:Prop} [Decidable P] [Decidable Q] (h:P↔Q) {a b:α}:(if P then a else b)=if Q then a else b:=by
 by_cases hp:P
 ·rw[if_pos hp,if_pos (h.1 hp)]
 ·rw[if_neg hp,if_neg (fun hq=>hp (h.2 hq))]
theorem v66 (l:Int×Int×Bool×List Bool) (v:List Bool×Bool×Bool×Bool×Bool×Bool×Bool):ah (aj aA [(58,I4),(115,Qn),(116,Qm)]) Tryz.f66 V1 (a66 (l,v,())) (l,v,())=(
U
(bif
bif
bif bif bif decide (l.1<(0:Int)) then true else decide (l.1>(3:Int)) then true else(↑v.1.length:Int)==(0:Int) then true
else(↑l.2.2.2.length:Int) !=(↑v.1.length:Int) then
true
else decide (l.2.1<(0:Int)) then
true
else decide (l.2.1>=(↑v.1.length:Int)))
fun(y2:Bool)=>
U ((↑v.1.length:Int) - (1:Int)) fun(y3:Int)=>
U (bif v.2.1 then v.1.set y3.toNat false else v.1) fun(y4:List Bool)=>
U (bif l.2.2.1 then true else v.2.2.2.2.2.2) fun(y5:Bool)=>
U (bif l.1 !=(3:Int) then y4.getD (Int.toNat (0:Int)) false else false) fun(y6:Bool)=>
U ((bif y6 then(3:Int) else l.1) !=(3:Int)) fun(y7:Bool)=>
U (bif y6 then l.2.1 else l.2.1) fun(y8:Int)=>
U (List.take (y4.length - y8.toNat) (List.drop y8.toNat y4)) fun(y9:List Bool)=>
U (bif bif y6 then y5 else y5 then we y9 v else false) fun(bu:Bool)=>
U (bif bif !bif y6 then y5 else y5 then v.2.2.1 else false then v.2.2.2.1 else false) fun(bH:Bool)=>
U (lr l.2.2.2 (mg v) v.1.length) fun(aw:List Bool)=>
U (bif v.2.1 then true else y4.getD y3.toNat false) fun(aB:Bool)=>
cR l.2.2.2/\
((l.1==(0:Int))=true->l=(dc l v).1/\[]=(dc l v).2/\True)/\
((l.1==(0:Int))=false->
(y2=true->((0:Int),(0:Int),false,[])=(dc l v).1/\[]=(dc l v).2/\True)/\
(y2=false->
cR v.1/\
(v.2.1=true->bo IntKind.i64 y3)/\
(v.2.1=true->aL y3 v.1.length)/\
(∃(Ft:Nat),
Ft<=v.1.length/\
(↑Ft:Int)=(0:Int)/\
(↑v.1.length:Int)=(↑v.1.length:Int)/\
l.2.1=l.2.1/\
(↑y4.length:Int)=(↑y4.length:Int)/\
lr l.2.2.2 (mg v) Ft=l.2.2.2/\
l.1=l.1/\
l.2.1=l.2.1/\
y5=y5/\
v.1=v.1/\
v.2.1=v.2.1/\
v.2.2.1=v.2.2.1/\
v.2.2.2.1=v.2.2.2.1/\
v.2.2.2.2.1=v.2.2.2.2.1/\
v.2.2.2.2.2.1=v.2.2.2.2.2.1/\
v.2.2.2.2.2.2=v.2.2.2.2.2.2/\
(0:Int)=(0:Int)/\(0:Int)=(0:Int)/\false=false/\y4=y4/\True)/\
∀(vj:Nat),
U (decide ((↑vj:Int)<(↑y4.length:Int))) fun(bC:Bool)=>
U (lr l.2.2.2 (mg v) vj) fun(cC:List Bool)=>
U (cC.getD (↑vj:Int).toNat false) fun(cy:Bool)=>
U (bif y6 then y5 else y5,cC) fun(dN:Bool×List Bool)=>
vj<=v.1.length->
(bC=true->
aL (↑vj:Int) cC.length/\
(cy=false->aL (↑vj:Int) y4.length)/\
aL (↑vj:Int) cC.length/\
bo IntKind.i64 ((↑vj:Int)+(1:Int))/\
∃(iU:Nat),
iU<=v.1.length/\
v.1.length - iU<v.1.length - vj/\
(↑iU:Int)=(↑vj:Int)+(1:Int)/\
(↑v.1.length:Int)=(↑v.1.length:Int)/\
l.2.1=l.2.1/\
(↑y4.length:Int)=(↑y4.length:Int)/\
lr l.2.2.2 (mg v) iU=
cC.set (↑vj:Int).toNat (bif cy then true else y4.getD (↑vj:Int).toNat false)/\
l.1=l.1/\
l.2.1=l.2.1/\
y5=y5/\
v.1=v.1/\
v.2.1=v.2.1/\
v.2.2.1=v.2.2.1/\
v.2.2.2.1=v.2.2.2.1/\
v.2.2.2.2.1=v.2.2.2.2.1/\
v.2.2.2.2.2.1=v.2.2.2.2.2.1/\
v.2.2.2.2.2.2=v.2.2.2.2.2.2/\
(0:Int)=(0:Int)/\(0:Int)=(0:Int)/\false=false/\y4=y4/\True)/\
(bC=false->
((l.1 !=(3:Int))=true->aL (0:Int) y4.length)/\
(y7=true->
((bif y6 then y5 else y5)=true->(0:Int)<=y8/\y8<=(↑y4.length:Int))/\
((bif y6 then y5 else y5)=true->cR y9)/\
(bu=true->
((0:Int)<=l.2.1/\(↑v.1.length:Int)<=(1000:Int))/\
((0:Int),(0:Int),false,[])=(dc l v).1/\gr l.2.1 (↑v.1.length:Int)=(dc l v).2/\True)/\
(bu=false->
(bif bH then(2:Int) else(1:Int),bif bH then y8 else y8,
bif bH then bif y6 then y5 else y5 else bif y6 then y5 else y5,cC)=
(dc l v).1/\
[]=(dc l v).2/\True))/\
(y7=false->
bo IntKind.i64 y3/\
(∃(yg:Nat),
(l.2.1.toNat<=yg/\
yg<=v.1.length - (1:Nat)/\
ng aw (mg v) v.2.1 (v.1.length - (1:Nat)) (v.1.length - (1:Nat) - l.2.1.toNat) l.2.1.toNat=
ng aw (mg v) v.2.1 (v.1.length - (1:Nat)) (v.1.length - (1:Nat) - yg) yg)/\
(↑v.1.length:Int)=(↑v.1.length:Int)/\
l.2.1=l.2.1/\
y3=y3/\
((bif y6 then(3:Int) else l.1)=bif y6 then(3:Int) else l.1)/\
(↑yg:Int)=y8/\
((bif y6 then y5 else y5)=bif y6 then y5 else y5)/\
v.1=v.1/\
v.2.1=v.2.1/\
v.2.2.1=v.2.2.1/\
v.2.2.2.1=v.2.2.2.1/\
v.2.2.2.2.1=v.2.2.2.2.1/\
v.2.2.2.2.2.1=v.2.2.2.2.2.1/\
v.2.2.2.2.2.2=v.2.2.2.2.2.2/\
(0:Int)=(0:Int)/\(0:Int)=(0:Int)/\false=false/\cC=cC/\y4=y4/\True)/\
∀(jo:Nat),
U (!cC.getD (↑jo:Int).toNat false) fun(du:Bool)=>
U (bif du then true else y4.getD (↑jo:Int).toNat false) fun(eL:Bool)=>
U (bif(↑jo:Int)==y3 then aB else false) fun(dt:Bool)=>
U (List.take (y4.length - (↑jo:Int).toNat) (List.drop (↑jo:Int).toNat y4)) fun(eC:List Bool)=>
U (bif dt then true else bif bif y6 then y5 else y5 then we eC v else false) fun(im:Bool)=>
U
(bif y4.getD ((↑jo:Int)+(1:Int)).toNat false then true
else bif v.2.1 then(↑jo:Int)+(1:Int)==y3 else false)
fun(iY:Bool)=>
l.2.1.toNat<=jo/\
jo<=v.1.length - (1:Nat)/\
ng aw (mg v) v.2.1 (v.1.length - (1:Nat)) (v.1.length - (1:Nat) - l.2.1.toNat)
l.2.1.toNat=
ng aw (mg v) v.2.1 (v.1.length - (1:Nat)) (v.1.length - (1:Nat) - jo) jo->
(decide ((↑jo:Int)<y3)=true->
bo IntKind.i64 ((↑jo:Int)+(1:Int))/\
aL (↑jo:Int) cC.length/\
(du=false->aL (↑jo:Int) y4.length)/\
(eL=true->
(((↑jo:Int)==y3)=true->v.2.1=false->aL y3 y4.length)/\
(dt=false->
(bif y6 then y5 else y5)=true->
(0:Int)<=(↑jo:Int)/\(↑jo:Int)<=(↑y4.length:Int))/\
(dt=false->(bif y6 then y5 else y5)=true->cR eC)/\
(im=true->
((0:Int)<=l.2.1/\(↑v.1.length:Int)<=(1000:Int))/\
((0:Int),(0:Int),false,[])=(dc l v).1/\
gr l.2.1 (↑v.1.length:Int)=(dc l v).2/\True)/\
(im=false->
((0:Int)<=l.2.1/\(↑jo:Int)<=(1000:Int))/\
(bif y6 then(3:Int) else l.1,(↑jo:Int),dN)=(dc l v).1/\
gr l.2.1 (↑jo:Int)=(dc l v).2/\True))/\
(eL=false->
aL ((↑jo:Int)+(1:Int)) y4.length/\
(iY=true->
∃(Kf:Nat),
(l.2.1.toNat<=Kf/\
Kf<=v.1.length - (1:Nat)/\
ng aw (mg v) v.2.1 (v.1.length - (1:Nat))
(v.1.length - (1:Nat) - l.2.1.toNat) l.2.1.toNat=
ng aw (mg v) v.2.1 (v.1.length - (1:Nat))
(v.1.length - (1:Nat) - Kf) Kf)/\
v.1.length - Kf<v.1.length - jo/\
(↑v.1.length:Int)=(↑v.1.length:Int)/\
l.2.1=l.2.1/\
y3=y3/\
((bif y6 then(3:Int) else l.1)=bif y6 then(3:Int) else l.1)/\
(↑Kf:Int)=(↑jo:Int)+(1:Int)/\
((bif y6 then y5 else y5)=bif y6 then y5 else y5)/\
v.1=v.1/\
v.2.1=v.2.1/\
v.2.2.1=v.2.2.1/\
v.2.2.2.1=v.2.2.2.1/\
v.2.2.2.2.1=v.2.2.2.2.1/\
v.2.2.2.2.2.1=v.2.2.2.2.2.1/\
v.2.2.2.2.2.2=v.2.2.2.2.2.2/\
(0:Int)=(0:Int)/\
(0:Int)=(0:Int)/\
false=false/\cC=cC/\y4=y4/\True)/\
(iY=false->
(((↑jo:Int)==y3)=true->v.2.1=false->aL y3 y4.length)/\
(dt=false->
(bif y6 then y5 else y5)=true->
(0:Int)<=(↑jo:Int)/\(↑jo:Int)<=(↑y4.length:Int))/\
(dt=false->(bif y6 then y5 else y5)=true->cR eC)/\
(im=true->
((0:Int)<=l.2.1/\(↑v.1.length:Int)<=(1000:Int))/\
((0:Int),(0:Int),false,[])=(dc l v).1/\
gr l.2.1 (↑v.1.length:Int)=(dc l v).2/\True)/\
(im=false->
((0:Int)<=l.2.1/\(↑jo:Int)<=(1000:Int))/\
(bif y6 then(3:Int) else l.1,(↑jo:Int),dN)=(dc l v).1/\
gr l.2.1 (↑jo:Int)=(dc l v).2/\True))))/\
(decide ((↑jo:Int)<y3)=false->
(((↑jo:Int)==y3)=true->v.2.1=false->aL y3 y4.length)/\
(dt=false->
(bif y6 then y5 else y5)=true->(0:Int)<=(↑jo:Int)/\(↑jo:Int)<=(↑y4.length:Int))/\
(dt=false->(bif y6 then y5 else y5)=true->cR eC)/\
(im=true->
((0:Int)<=l.2.1/\(↑v.1.length:Int)<=(1000:Int))/\
((0:Int),(0:Int),false,[])=(dc l v).1/\
gr l.2.1 (↑v.1.length:Int)=(dc l v).2/\True)/\
(im=false->
((0:Int)<=l.2.1/\(↑jo:Int)<=(1000:Int))/\
(bif y6 then(3:Int) else l.1,(↑jo:Int),dN)=(dc l v).1/\
gr l.2.1 (↑jo:Int)=(dc l v).2/\True))))))):=by kernel_rfl
theorem b66 (l:cI) (v:kS) (h1:l.2.2.2.length<=1000) (h2:v.1.length<=1000):ah (aj aA [(58,I4),(115,Qn),(116,Qm)]) Tryz.f66 V1 (a66 (l,v,())) (l,v,()):=by
 rw[v66]
 simp only[U]
 have ho:(bif v.2.1 then v.1.set ((v.1.length:Int) - 1).toNat false else v.1)=mg v:=by
  have:((v.1.length:Int) - 1).toNat=v.1.length - 1:=by omega
  rw[this]
  rfl
 have XT:=Dp v
 simp only[Int.toNat_natCast,true_and,and_true,Bool.cond_self,ho,XT]
 have htk:∀f,List.take (v.1.length - f) (List.drop f (mg v))=List.drop f (mg v):=fun f=>List.take_of_length_le (by simp;omega)
 simp only[htk]
 have zF:cR v.1:=h2
 generalize hoo:mg v=o at *
 generalize hn:v.1.length=n at *
 refine⟨h1,fun e=> ?_,fun e=>⟨fun e2=> ?_,fun e2=> ?_⟩⟩
 ·have e:l.1=0:=by simpa using e
  rw[PX e]
  exact⟨rfl,rfl⟩
 ·have e:l.1≠0:=by simpa using e
  have hb:tc l v:=by
   simp only[Bool.cond_true_left,Bool.or_eq_true,decide_eq_true_eq,beq_iff_eq,bne_iff_ne] at e2
   unfold tc
   omega
  rw[Se e hb]
  exact⟨rfl,rfl⟩
 ·have e:l.1≠0:=by simpa using e
  have hb:¬tc l v:=by
   simp only[Bool.cond_true_left,Bool.or_eq_false_iff,decide_eq_false_iff_not,beq_eq_false_iff_ne,bne_eq_false_iff_eq] at e2
   unfold tc
   omega
  have ju:=hb
  unfold tc at ju
  rw[hn] at ju
  obtain⟨f,hf⟩:∃f:Nat,l.2.1=(f:Int):=⟨l.2.1.toNat,by omega⟩
  have dQ:f<n:=by omega
  have zu:l.2.2.2.length=o.length:=by omega
  have hN:=KP e hb hf
  rw[hoo,hn] at hN
  rw[hN]
  simp only[hf,Int.toNat_natCast]
  refine⟨zF,fun _=>aY (by omega) (by omega),fun _=>⟨by omega,by omega⟩,⟨0,by omega,rfl,P2⟩,fun s hs=>⟨fun dQ=> ?_,fun dQ=> ?_⟩⟩
  ·have dQ:s<n:=by simpa using dQ
   have hL:(lr l.2.2.2 o s).length=n:=by rw[sq zu (by omega)];omega
   refine⟨⟨by omega,by omega⟩,fun _=>⟨by omega,by omega⟩,⟨by omega,by omega⟩,aY (by omega) (by omega),s+1,by omega,by omega,by omega,?_⟩
   rw[P3 zu (by omega),VD zu,Bool.cond_true_left]
  ·have dQ:s=n:=by
    have:n<=s:=by simpa using dQ
    omega
   subst dQ
   have ad9:(v.fst,v.snd.fst,v.snd.snd.fst,v.snd.snd.snd.fst,v.snd.snd.snd.snd.fst,v.snd.snd.snd.snd.snd.fst,v.snd.snd.snd.snd.snd.snd)=v:=rfl
   have h0n:(Int.toNat 0)=0:=rfl
   have htn:((s:Int) - 1).toNat=s - 1:=by omega
   have rP:∀k:Nat,((k:Int)+1).toNat=k+1:=fun k=>by omega
   have hdl:∀k,(List.drop k o).length<=1000:=fun k=>by rw[List.length_drop];omega
   simp only[ad9,h0n,htn,rP,Bool.cond_true_left,Bool.cond_false_right]
   generalize Ts:(l.snd.snd.fst||v.snd.snd.snd.snd.snd.snd)=HE
   have Vf:(lr l.snd.snd.snd o s).length=s:=by rw[sq zu (by omega)];omega
   generalize lr l.snd.snd.snd o s=sn at *
   refine⟨fun _=>⟨by omega,by omega⟩,fun hu=> ?_,fun hu=> ?_⟩
   ·have jD:l.1≠3/\o.getD 0 false=false:=by
     cases h:o.getD 0 false with
     |true=>
      rw[h] at hu
      by_cases e3:l.1=3
      ·simp[e3] at hu
      ·have:(l.1 !=3)=true:=by simpa using e3
       rw[this] at hu
       simp at hu
     |false=>
      rw[h] at hu
      refine⟨fun e3=> ?_,rfl⟩
      simp[e3] at hu
    have hNI:∀x y,xG l.1 f x y o s v=if x=true/\we (o.drop f) v=true then(gk,gr f s) else if x=false/\v.2.2.1=true/\v.2.2.2.1=true then((2,f,x,y),[]) else((1,f,x,y),[]):=fun x y=>by
     unfold xG
     rw[if_pos jD]
    refine⟨fun _=>⟨by omega,by omega⟩,fun _=>hdl _,fun hc=> ?_,fun hc=> ?_⟩
    ·rw[hNI,if_pos (by simpa using hc)]
     exact⟨⟨by omega,by omega⟩,rfl,rfl⟩
    ·have Nr:¬(HE=true/\we (o.drop f) v=true):=by
      rw[<-Bool.and_eq_true,hc]
      simp
     rw[hNI,if_neg Nr]
     by_cases hg:HE=false/\v.2.2.1=true/\v.2.2.2.1=true
     ·rw[if_pos hg]
      obtain⟨g1,g2,g3⟩:=hg
      simp[g1,g2,g3]
     ·rw[if_neg hg]
      have:(!HE&&v.2.2.1&&v.2.2.2.1)=false:=by
       cases HE<;>cases h1:v.2.2.1<;>cases h2:v.2.2.2.1<;>simp_all
      simp[this]
   ·have h3:(bif l.1 !=3&&o.getD 0 false then 3 else l.1)=3:=by simpa using hu
    have EC:¬(l.1≠3/\o.getD 0 false=false):=by
     rintro⟨e3,e4⟩
     rw[e4,Bool.and_false] at h3
     exact e3 h3
    have cr:∀k,f<=k->k<=s - 1->ng sn o v.2.1 (s - 1) (s - 1 - f) f=k->∀b,((((k:Int)==(s:Int) - 1)&&(v.2.1||o.getD (s - 1) false))||(HE&&we (List.drop k o) v))=b->
      xG l.1 f HE sn o s v=if b=true then(gk,gr f s) else((3,k,HE,sn),gr f k):=fun k k1 k2 k3 b hb=>by
     subst hb
     unfold xG
     rw[if_neg EC]
     simp only[k3]
     refine aam ?_
     simp only[Bool.or_eq_true,Bool.and_eq_true,beq_iff_eq]
     have:((k:Int)=(s:Int) - 1)↔k=s - 1:=by omega
     rw[this]
    refine⟨aY (by omega) (by omega),⟨f,⟨by omega,by omega,rfl⟩,rfl⟩,fun k ⟨KF,KL,KE⟩=>⟨fun hk=> ?_,fun hk=> ?_⟩⟩
    ·have hk:k<s - 1:=by
      have:(k:Int)<(s:Int) - 1:=by simpa using hk
      omega
     have jD:=P4 (seen:=sn) (o:=o) (gate:=v.2.1) hk
     refine⟨aY (by omega) (by omega),⟨by omega,by omega⟩,fun _=>⟨by omega,by omega⟩,fun hc=> ?_,fun hc=>⟨⟨by omega,by omega⟩,fun hd=> ?_,fun hd=> ?_⟩⟩
     ·rw[jD,if_neg (by
       intro h
       simp only[Bool.and_eq_true,Bool.not_eq_true'] at h
       rw[h.1,h.2.1] at hc
       simp at hc)] at KE
      refine⟨fun _ _=>⟨by omega,by omega⟩,fun _ _=>⟨by omega,by omega⟩,fun _ _=>hdl _,fun hc=> ?_,fun hc=> ?_⟩
      ·rw[cr k KF KL KE _ hc];exact⟨⟨by omega,by omega⟩,rfl,rfl⟩
      ·rw[cr k KF KL KE _ hc,h3];exact⟨⟨by omega,by omega⟩,rfl,rfl⟩
     ·refine⟨k+1,⟨by omega,by omega,?_⟩,by omega,by omega⟩
      rw[KE,jD,if_pos]
      have hx:(((k:Int)+1==(s:Int) - 1))=(k+1==s - 1):=by
       rw[Bool.eq_iff_iff,beq_iff_eq,beq_iff_eq]
       omega
      rw[hx] at hd
      simp only[Bool.or_eq_false_iff,Bool.not_eq_false'] at hc
      rw[hc.1,hc.2,hd]
      rfl
     ·rw[jD,if_neg (by
       intro h
       have hx:(((k:Int)+1==(s:Int) - 1))=(k+1==s - 1):=by
        rw[Bool.eq_iff_iff,beq_iff_eq,beq_iff_eq]
        omega
       rw[hx] at hd
       rw[hd] at h
       simp at h)] at KE
      refine⟨fun _ _=>⟨by omega,by omega⟩,fun _ _=>⟨by omega,by omega⟩,fun _ _=>hdl _,fun hc=> ?_,fun hc=> ?_⟩
      ·rw[cr k KF KL KE _ hc];exact⟨⟨by omega,by omega⟩,rfl,rfl⟩
      ·rw[cr k KF KL KE _ hc,h3];exact⟨⟨by omega,by omega⟩,rfl,rfl⟩
    ·have hk:s - 1<=k:=by
      have:¬(k:Int)<(s:Int) - 1:=by simpa using hk
      omega
     rw[Si hk] at KE
     refine⟨fun _ _=>⟨by omega,by omega⟩,fun _ _=>⟨by omega,by omega⟩,fun _ _=>hdl _,fun hc=> ?_,fun hc=> ?_⟩
     ·rw[cr k KF KL KE _ hc];exact⟨⟨by omega,by omega⟩,rfl,rfl⟩
     ·rw[cr k KF KL KE _ hc,h3];exact⟨⟨by omega,by omega⟩,rfl,rfl⟩
theorem ahx:aN Tryz.prog 66 V1:=
 aN.b3 (l:=[(58,I4),(115,Qn),(116,Qm)]) (A:=a66) aJ ⟨W0,adG,adF,trivial⟩ Tryz.func66 (by kernel_rfl) (by kernel_rfl) fun x _ hp=>b66 x.1 x.2.1 hp.1 hp.2
def xS (rs:List af) (i:Nat):Int:=(rs.getD i zR).1
def kH (rs:List af) (ls:List cI) (i:Nat):Bool:=decide (i<ls.length)&&((ls.getD i gk).1==2&&(decide (0<=xS rs i)&&decide (xS rs i<24)))
def setRow (rs:List af) (ls:List cI):Nat->List Int
 |0=>List.replicate 24 (-1)
 |k+1=>bif kH rs ls (rs.length - 1 - k) then(setRow rs ls k).set (xS rs (rs.length - 1 - k)).toNat ((rs.length - 1 - k:Nat):Int) else setRow rs ls k
def Dx (set:List Int) (r:af):Bool:=r.2.2.1==2||(r.2.2.1==1&&(decide (0<=r.2.1)&&(decide (r.2.1<24)&&decide (0<=set.getD r.2.1.toNat 0))))
def KT (rs:List af) (set:List Int) (s:Nat):Int:=
 bif decide (24<=s)||decide (set.getD s 0<0) then 0 else bif Dx set (rs.getD (set.getD s 0).toNat zR) then 2 else 1
@[irreducible] def pz (rs:List af) (set:List Int) (n k:Nat):List Int:=(List.range k).map (fun s=>KT rs set s)++List.replicate (n - k) 0
@[irreducible] def fW (c:bO) (ls:List cI):List Int:=pz c.2 (setRow c.2 ls c.2.length) c.1.2.2.1.length c.1.2.2.1.length
def VV:bg where
 args:=[mN,.list kT]
 out:= .row 3 I
 pre:=fun(x:bO×List cI×Unit)=>x.1.1.2.2.1.length<=1000
 fn:=fun(x:bO×List cI×Unit)=>(fW x.1 x.2.1,())
def so (k:Nat):List Int:=List.replicate k (-1)++List.replicate (24 - k) 0
def a73 (x:bO×List cI×Unit):eA:=bh [(3,fun _=>{
 σ:=Nat
 ok:=fun k=>k<=24
 mu:=fun k=>24 - k
 sl:=fun k=>[(12,.one (.aG I (k:Int))),(5,.one (.mD I 1000 0 0))]
 bl:=fun k=>[(1000,.row false 197 I (so k))]
 keep:=[1,2]
 cv:=[2]}),(8,fun _=>{
 σ:=Nat
 ok:=fun k=>k<=x.1.2.length
 mu:=fun k=>x.1.2.length - k
 sl:=fun k=>[(7,.one (.aG I ((x.1.2.length:Int) - 1 - (k:Int)))),(5,.one (.mD I 1001 0 0))]
 bl:=fun k=>[(1001,.row false 197 I (setRow x.1.2 x.2.1 k))]
 keep:=[1,2]
 cv:=[2]}),(15,fun _=>{
 σ:=Nat
 ok:=fun k=>k<=x.1.1.2.2.1.length
 mu:=fun k=>x.1.1.2.2.1.length - k
 sl:=fun k=>[(62,.one (.aG I (k:Int))),(9,.one (.row I 1002)),(5,.one (.mD I 1003 0 0))]
 bl:=fun k=>[(1002,.row false 3 I (pz x.1.2 (setRow x.1.2 x.2.1 x.1.2.length) x.1.1.2.2.1.length k)),(1003,.row false 197 I (setRow x.1.2 x.2.1 x.1.2.length))]
 keep:=[2,61]
 cv:=[2]})]
theorem Sg:∀s,s<24->so (s+1)=(so s).set s (-1):=by decide
theorem VA:∀s,s<=24->(so s).length=24:=fun s h=>by unfold so;simp;omega
theorem WQ:∀s,s<24->(List.replicate 24 (-1:Int)).getD s 0= -1:=by decide
theorem rU {α:Type} (l:List α) (i j:Nat) (x d:α) (h:j<l.length):(l.set i x).getD j d=if i=j then x else l.getD j d:=by
 simp only[List.getD_eq_getElem?_getD]
 rw[List.getElem?_set]
 by_cases e:i=j
 ·subst e;simp[h]
 ·simp[e]
theorem yP (rs:List af) (ls:List cI):∀k,(setRow rs ls k).length=24
 |0=>rfl
 |k+1=>by
  have ih:=yP rs ls k
  show(bif kH rs ls (rs.length - 1 - k) then _ else _:List Int).length=24
  cases kH rs ls (rs.length - 1 - k)
  ·exact ih
  ·rw[cond_true,List.length_set];exact ih
theorem Hj (rs:List af) (ls:List cI):∀k,k<=rs.length->∀s,s<24-> -1<=(setRow rs ls k).getD s 0/\(setRow rs ls k).getD s 0<rs.length
 |0,_,s,hs=>by
  have e:(setRow rs ls 0).getD s 0= -1:=by
   exact WQ s hs
  rw[e]
  omega
 |k+1,hk,s,hs=>by
  have ih:=Hj rs ls k (by omega) s hs
  show -1<=(bif kH rs ls (rs.length - 1 - k) then _ else _:List Int).getD s 0/\(bif kH rs ls (rs.length - 1 - k) then _ else _:List Int).getD s 0<_
  cases kH rs ls (rs.length - 1 - k)
  ·exact ih
  ·rw[cond_true,rU _ _ _ _ _ (by rw[yP];exact hs)]
   split
   ·omega
   ·exact ih
theorem Jj (rs:List af) (set:List Int) {n k:Nat} (h:k<=n):(pz rs set n k).length=n:=by
 unfold pz
 simp
 omega
theorem Wk (rs:List af) (set:List Int) (n:Nat):pz rs set n 0=List.replicate n 0:=by
 unfold pz
 rfl
theorem Wl (rs:List af) (set:List Int) {n k:Nat} (h:k<n):pz rs set n (k+1)=(pz rs set n k).set k (KT rs set k):=by
 unfold pz
 have e:n - k=(n - (k+1))+1:=by omega
 rw[List.set_append_right _ _ (by simp),List.length_map,List.length_range,Nat.sub_self,e,List.replicate_succ,List.set_cons_zero,List.range_succ,List.map_append,List.append_assoc]
 rfl
theorem aa9 (rs:List af) (set:List Int) {n k:Nat} (h:k<n):(pz rs set n k).getD k 0=0:=by
 unfold pz
 rw[List.getD_eq_getElem?_getD,List.getElem?_append_right (by simp)]
 simp
 have:0<n - k:=by omega
 simp[this]
theorem Ef {α:Type} {l:List α} {i:Nat} {x d:α} (h:i<l.length) (e:l.getD i d=x):l.set i x=l:=by
 rw[<-e,eW d h,List.set_getElem_self]
theorem v73 (c:(ab)×List (af)) (ls:List (Int×Int×Bool×List Bool)):ah (aj aA []) Tryz.f73 VV (a73 (c,ls,())) (c,ls,())=(
U ((↑c.2.length:Int) - (1:Int)) fun(y2:Int)=>
U ((↑c.2.length:Int) - (1:Int)) fun(y3:Int)=>
U ((0:Int),(0:Int),false,[]) fun(y4:Int×Int×Bool×List Bool)=>
U ((0:Int),(0:Int),(0:Int),[],[],[],[],[],false) fun(y5:af)=>
U (List.replicate (↑c.1.2.2.1.length:Int).toNat (0:Int)) fun(y6:List Int)=>
U (setRow c.2 ls c.2.length) fun(y7:List Int)=>
(∃(mQ:Nat),
mQ<=(24:Nat)/\
(↑mQ:Int)=(0:Int)/\
(0:Nat)=(0:Nat)/\
ls=ls/\
so mQ=
[(0:Int),(0:Int),(0:Int),(0:Int),(0:Int),(0:Int),(0:Int),(0:Int),(0:Int),(0:Int),(0:Int),(0:Int),(0:Int),(0:Int),(0:Int),
(0:Int),(0:Int),(0:Int),(0:Int),(0:Int),(0:Int),(0:Int),(0:Int),(0:Int)]/\
c.1.1=c.1.1/\
c.1.2.1=c.1.2.1/\
c.1.2.2.1=c.1.2.2.1/\
c.1.2.2.2.1=c.1.2.2.2.1/\
c.1.2.2.2.2.1=c.1.2.2.2.2.1/\
c.1.2.2.2.2.2.1=c.1.2.2.2.2.2.1/\
c.1.2.2.2.2.2.2.1=c.1.2.2.2.2.2.2.1/\
c.1.2.2.2.2.2.2.2.1=c.1.2.2.2.2.2.2.2.1/\
c.1.2.2.2.2.2.2.2.2=c.1.2.2.2.2.2.2.2.2/\c.2=c.2/\True)/\
∀(s8:Nat),
s8<=(24:Nat)->
(decide ((↑s8:Int)<(24:Int))=true->
(aL (↑s8:Int) (24:Nat)/\(so s8).length=(24:Nat))/\
bo IntKind.i64 ((↑s8:Int)+(1:Int))/\
∃(xz:Nat),
xz<=(24:Nat)/\
(24:Nat) - xz<(24:Nat) - s8/\
(↑xz:Int)=(↑s8:Int)+(1:Int)/\
(0:Nat)=(0:Nat)/\
ls=ls/\
so xz=(so s8).set (↑s8:Int).toNat (-1:Int)/\
c.1.1=c.1.1/\
c.1.2.1=c.1.2.1/\
c.1.2.2.1=c.1.2.2.1/\
c.1.2.2.2.1=c.1.2.2.2.1/\
c.1.2.2.2.2.1=c.1.2.2.2.2.1/\
c.1.2.2.2.2.2.1=c.1.2.2.2.2.2.1/\
c.1.2.2.2.2.2.2.1=c.1.2.2.2.2.2.2.1/\
c.1.2.2.2.2.2.2.2.1=c.1.2.2.2.2.2.2.2.1/\
c.1.2.2.2.2.2.2.2.2=c.1.2.2.2.2.2.2.2.2/\c.2=c.2/\True)/\
(decide ((↑s8:Int)<(24:Int))=false->
bo IntKind.i64 y2/\
(∃(AR:Nat),
AR<=c.2.length/\
y3 - (↑AR:Int)=y2/\
(0:Nat)=(0:Nat)/\
ls=ls/\
setRow c.2 ls AR=so s8/\
c.1.1=c.1.1/\
c.1.2.1=c.1.2.1/\
c.1.2.2.1=c.1.2.2.1/\
c.1.2.2.2.1=c.1.2.2.2.1/\
c.1.2.2.2.2.1=c.1.2.2.2.2.1/\
c.1.2.2.2.2.2.1=c.1.2.2.2.2.2.1/\
c.1.2.2.2.2.2.2.1=c.1.2.2.2.2.2.2.1/\
c.1.2.2.2.2.2.2.2.1=c.1.2.2.2.2.2.2.2.1/\
c.1.2.2.2.2.2.2.2.2=c.1.2.2.2.2.2.2.2.2/\c.2=c.2/\True)/\
∀(s9:Nat),
U (decide (y3 - (↑s9:Int)>=(0:Int))) fun(bu:Bool)=>
U (decide (y3 - (↑s9:Int)<(↑ls.length:Int))) fun(bH:Bool)=>
U (c.2.getD (y3 - (↑s9:Int)).toNat y5).1 fun(aw:Int)=>
U
(bif bif bif bH then(ls.getD (y3 - (↑s9:Int)).toNat y4).1==(2:Int) else false then decide (aw>=(0:Int)) else false then decide (aw<(24:Int))
else false)
fun(aB:Bool)=>
U (y3 - (↑s9:Int) - (1:Int)) fun(cL:Int)=>
s9<=c.2.length->
(bu=true->
aL (y3 - (↑s9:Int)) c.2.length/\
(bH=true->aL (y3 - (↑s9:Int)) ls.length)/\
(aB=true->aL aw (24:Nat)/\(setRow c.2 ls s9).length=(24:Nat))/\
bo IntKind.i64 cL/\
∃(lg:Nat),
lg<=c.2.length/\
c.2.length - lg<c.2.length - s9/\
y3 - (↑lg:Int)=cL/\
(0:Nat)=(0:Nat)/\
ls=ls/\
(setRow c.2 ls lg=bif aB then(setRow c.2 ls s9).set aw.toNat (y3 - (↑s9:Int)) else setRow c.2 ls s9)/\
c.1.1=c.1.1/\
c.1.2.1=c.1.2.1/\
c.1.2.2.1=c.1.2.2.1/\
c.1.2.2.2.1=c.1.2.2.2.1/\
c.1.2.2.2.2.1=c.1.2.2.2.2.1/\
c.1.2.2.2.2.2.1=c.1.2.2.2.2.2.1/\
c.1.2.2.2.2.2.2.1=c.1.2.2.2.2.2.2.1/\
c.1.2.2.2.2.2.2.2.1=c.1.2.2.2.2.2.2.2.1/\
c.1.2.2.2.2.2.2.2.2=c.1.2.2.2.2.2.2.2.2/\c.2=c.2/\True)/\
(bu=false->
((0:Int)<=(↑c.1.2.2.1.length:Int)/\(↑c.1.2.2.1.length:Int)<=(↑c.1.2.2.1.length:Int))/\
(roomFor (↑c.1.2.2.1.length:Int).toNat (8:Nat)/\(↑c.1.2.2.1.length:Int)<=(↑aM:Int))/\
(∃(mR:Nat),
mR<=c.1.2.2.1.length/\
(↑mR:Int)=(0:Int)/\
(0:Nat)=(0:Nat)/\
(↑y6.length:Int)=(↑y6.length:Int)/\
pz c.2 y7 c.1.2.2.1.length mR=y6/\
y7=setRow c.2 ls s9/\
c.1.1=c.1.1/\
c.1.2.1=c.1.2.1/\
c.1.2.2.1=c.1.2.2.1/\
c.1.2.2.2.1=c.1.2.2.2.1/\
c.1.2.2.2.2.1=c.1.2.2.2.2.1/\
c.1.2.2.2.2.2.1=c.1.2.2.2.2.2.1/\
c.1.2.2.2.2.2.2.1=c.1.2.2.2.2.2.2.1/\
c.1.2.2.2.2.2.2.2.1=c.1.2.2.2.2.2.2.2.1/\
c.1.2.2.2.2.2.2.2.2=c.1.2.2.2.2.2.2.2.2/\c.2=c.2/\True)/\
∀(eM:Nat),
U (decide ((↑eM:Int)<(↑y6.length:Int))) fun(cC:Bool)=>
U (y7.getD (↑eM:Int).toNat (0:Int)) fun(cy:Int)=>
U (bif decide ((↑eM:Int)>=(24:Int)) then true else decide (cy<(0:Int))) fun(dN:Bool)=>
U (pz c.2 y7 c.1.2.2.1.length eM) fun(fw:List Int)=>
U (c.2.getD cy.toNat y5).2
fun(du:Int×Int×List (Int×Int×Int)×List (Int×Int)×List (Int×Int)×List Int×List Int×Bool)=>
U (bif bif du.2.1==(1:Int) then decide (du.1>=(0:Int)) else false then decide (du.1<(24:Int)) else false)
fun(eL:Bool)=>
U (y7.getD du.1.toNat (0:Int)) fun(dt:Int)=>
U (bif du.2.1==(2:Int) then true else bif eL then decide (dt>=(0:Int)) else false) fun(eC:Bool)=>
U (fw.set (↑eM:Int).toNat (1:Int)) fun(im:List Int)=>
eM<=c.1.2.2.1.length->
(cC=true->
(decide ((↑eM:Int)>=(24:Int))=false->aL (↑eM:Int) (24:Nat)/\y7.length=(24:Nat))/\
(dN=true->
bo IntKind.i64 ((↑eM:Int)+(1:Int))/\
∃(rv:Nat),
rv<=c.1.2.2.1.length/\
c.1.2.2.1.length - rv<c.1.2.2.1.length - eM/\
(↑rv:Int)=(↑eM:Int)+(1:Int)/\
(0:Nat)=(0:Nat)/\
(↑y6.length:Int)=(↑y6.length:Int)/\
pz c.2 y7 c.1.2.2.1.length rv=fw/\
y7=y7/\
c.1.1=c.1.1/\
c.1.2.1=c.1.2.1/\
c.1.2.2.1=c.1.2.2.1/\
c.1.2.2.2.1=c.1.2.2.2.1/\
c.1.2.2.2.2.1=c.1.2.2.2.2.1/\
c.1.2.2.2.2.2.1=c.1.2.2.2.2.2.1/\
c.1.2.2.2.2.2.2.1=c.1.2.2.2.2.2.2.1/\
c.1.2.2.2.2.2.2.2.1=c.1.2.2.2.2.2.2.2.1/\
c.1.2.2.2.2.2.2.2.2=c.1.2.2.2.2.2.2.2.2/\
c.2=c.2/\True)/\
(dN=false->
(aL (↑eM:Int) (24:Nat)/\y7.length=(24:Nat))/\
aL cy c.2.length/\
aL (↑eM:Int) fw.length/\
((du.2.1==(2:Int))=false->eL=true->aL du.1 (24:Nat)/\y7.length=(24:Nat))/\
(eC=true->aL (↑eM:Int) im.length)/\
bo IntKind.i64 ((↑eM:Int)+(1:Int))/\
∃(rv:Nat),
rv<=c.1.2.2.1.length/\
c.1.2.2.1.length - rv<c.1.2.2.1.length - eM/\
(↑rv:Int)=(↑eM:Int)+(1:Int)/\
(0:Nat)=(0:Nat)/\
(↑y6.length:Int)=(↑y6.length:Int)/\
(pz c.2 y7 c.1.2.2.1.length rv=
bif eC then im.set (↑eM:Int).toNat (2:Int) else im)/\
y7=y7/\
c.1.1=c.1.1/\
c.1.2.1=c.1.2.1/\
c.1.2.2.1=c.1.2.2.1/\
c.1.2.2.2.1=c.1.2.2.2.1/\
c.1.2.2.2.2.1=c.1.2.2.2.2.1/\
c.1.2.2.2.2.2.1=c.1.2.2.2.2.2.1/\
c.1.2.2.2.2.2.2.1=c.1.2.2.2.2.2.2.1/\
c.1.2.2.2.2.2.2.2.1=
c.1.2.2.2.2.2.2.2.1/\
c.1.2.2.2.2.2.2.2.2=
c.1.2.2.2.2.2.2.2.2/\
c.2=c.2/\True))/\
(cC=false->fw=fW c ls/\True)))):=by kernel_rfl
theorem b73 (c:bO) (ls:List cI) (hp:c.1.2.2.1.length<=1000) (hw:c.2.length<=aM):ah (aj aA []) Tryz.f73 VV (a73 (c,ls,())) (c,ls,()):=by
 have FV:aM=9223372036854775807:=rfl
 rw[v73]
 refine U.mk fun y2 e2=>U.mk fun y3 e3=>U.mk fun y4 e4=>U.mk fun y5 e5=>U.mk fun y6 e6=>U.mk fun y7 e7=> ?_
 simp only[true_and,and_true,Int.toNat_natCast]
 have e6:y6=List.replicate c.1.2.2.1.length 0:=e6
 have hl6:y6.length=c.1.2.2.1.length:=by rw[e6];simp
 have hl7:y7.length=24:=by rw[e7];exact yP _ _ _
 refine⟨⟨0,by omega,rfl,rfl⟩,fun s hs=>⟨fun h=> ?_,fun h=> ?_⟩⟩
 ·have h:=of_decide_eq_true h
  exact⟨⟨⟨by omega,by omega⟩,VA s hs⟩,aY (by omega) (by omega),s+1,by omega,by omega,by omega,Sg s (by omega)⟩
 have h:=of_decide_eq_false h
 have aip:s=24:=by omega
 subst aip
 refine⟨AA (by omega) (by omega),⟨0,by omega,by omega,rfl⟩,fun t=>U.mk fun bu dy=>U.mk fun bH eK=>U.mk fun aw dW=>U.mk fun aB gE=>U.mk fun cL j5=> ?_⟩
 intro ht
 refine⟨fun h=> ?_,fun h=> ?_⟩
 ·rw[dy] at h
  have h:=of_decide_eq_true h
  have hi:y3 - (t:Int)=((c.2.length - 1 - t:Nat):Int):=by omega
  rw[hi] at eK dW gE ⊢
  rw[Int.toNat_natCast] at dW gE
  have dW:aw=xS c.2 (c.2.length - 1 - t):=by rw[dW,e5];rfl
  have hc:aB=kH c.2 ls (c.2.length - 1 - t):=by
   have eK:bH=decide (c.2.length - 1 - t<ls.length):=by
    rw[eK]
    by_cases h:c.2.length - 1 - t<ls.length
    ·rw[decide_eq_true h,decide_eq_true (by omega)]
    ·rw[decide_eq_false h,decide_eq_false (by omega)]
   rw[gE,eK,dW,e4,wY]
   unfold kH
   have key:∀a b c d:Bool,(bif(bif(bif a then b else false) then c else false) then d else false)=(a&&(b&&(c&&d))):=by decide
   exact key _ _ _ _
  refine⟨⟨by omega,by omega⟩,fun mG=> ?_,fun kP=>⟨?_,yP _ _ _⟩,AA (by omega) (by omega),t+1,by omega,by omega,by omega,?_⟩
  ·rw[eK] at mG
   have:=of_decide_eq_true mG
   exact⟨by omega,this⟩
  ·rw[hc] at kP
   unfold kH at kP
   simp only[Bool.and_eq_true] at kP
   have h1:=of_decide_eq_true kP.2.2.1
   have h2:=of_decide_eq_true kP.2.2.2
   rw[dW]
   exact⟨h1,h2⟩
  ·show(bif kH c.2 ls (c.2.length - 1 - t) then _ else _)=_
   rw[hc,dW]
 rw[dy] at h
 have h:=of_decide_eq_false h
 have H6:t=c.2.length:=by omega
 subst H6
 refine⟨by omega,⟨cT (by omega) (by omega),by omega⟩,⟨0,by omega,rfl,by rw[Wk,e6],e7⟩,fun u=>U.mk fun cC k7=>U.mk fun cy jF=>U.mk fun dN oh=>U.mk fun fw mH=>U.mk fun du og=>U.mk fun eL rr=>U.mk fun dt q9=>U.mk fun eC wh=>U.mk fun im yA=> ?_⟩
 intro hu
 have an3:fw.length=c.1.2.2.1.length:=by rw[mH];exact Jj _ _ hu
 rw[Sd _ 24 24 rfl] at oh ⊢
 refine⟨fun h=> ?_,fun h=> ?_⟩
 ·have h:=aZ k7 h
  rw[hl6] at h
  have rP:=Wl c.2 y7 h
  have hA:KT c.2 y7 u=bif dN then 0 else bif eC then 2 else 1:=by
   have og:du=(c.2.getD cy.toNat zR).2:=by rw[og,e5];rfl
   have mr:Dx y7 (c.2.getD cy.toNat zR)=eC:=by
    rw[wh,q9,rr,og,wY,wY]
    unfold Dx
    have key:∀a b c d e:Bool,(a||(b&&(c&&(d&&e))))=(bif a then true else(bif(bif(bif b then c else false) then d else false) then e else false)):=by decide
    exact key _ _ _ _ _
   unfold KT
   rw[<-jF,mr,oh]
   have key:∀a b:Bool,(a||b)=(bif a then true else b):=by decide
   rw[key]
  refine⟨fun Ym=>⟨⟨by omega,by have:=of_decide_eq_false Ym;omega⟩,hl7⟩,fun zG=>⟨aY (by omega) (by omega),u+1,by omega,by omega,by omega,?_⟩,fun zG=> ?_⟩
  ·rw[rP,hA,zG,mH]
   exact Ef (by rw[Jj _ _ hu];exact h) (aa9 c.2 y7 h)
  ·rw[oh] at zG
   obtain⟨g1,g2⟩:=su zG
   rw[<-oh] at zG
   have g1:=of_decide_eq_false g1
   have g2:=of_decide_eq_false g2
   have hr:=Hj c.2 ls c.2.length (Nat.le_refl _) u (by omega)
   rw[<-e7,<-jF] at hr
   refine⟨⟨⟨by omega,by omega⟩,hl7⟩,⟨by omega,hr.2⟩,⟨by omega,by omega⟩,fun _ PR=> ?_,fun _=>⟨by omega,by rw[yA,List.length_set];omega⟩,aY (by omega) (by omega),u+1,by omega,by omega,by omega,?_⟩
   ·rw[rr] at PR
    have key:∀a b c:Bool,(bif(bif a then b else false) then c else false)=true->b=true/\c=true:=by decide
    obtain⟨k1,k2⟩:=key _ _ _ PR
    exact⟨⟨of_decide_eq_true k1,of_decide_eq_true k2⟩,hl7⟩
   ·rw[rP,hA,zG,yA,mH]
    cases eC
    ·rfl
    ·rw[cond_true,List.set_set];rfl
 ·have hle:=bt k7 h
  rw[hl6] at hle
  have:u=c.1.2.2.1.length:=by omega
  subst this
  rw[mH,e7]
  unfold fW
  rfl
theorem ahq:aN Tryz.prog 73 VV:=
 aN.b3 (l:=[]) (A:=a73) aJ trivial Tryz.func73 (by kernel_rfl) (by kernel_rfl) fun x hw hp=>b73 x.1 x.2.1 hp hw.1.2.1
theorem x9 (c:bO) (ls:List cI):(fW c ls).length=c.1.2.2.1.length:=by
 unfold fW
 exact Jj _ _ (Nat.le_refl _)
theorem Qq (c:bO) (ls:List cI) {s:Nat} (h:s<c.1.2.2.1.length):(fW c ls).getD s 0=KT c.2 (setRow c.2 ls c.2.length) s:=by
 unfold fW pz
 rw[List.getD_eq_getElem?_getD,List.getElem?_append_left (by simpa using h)]
 simp[h]
theorem QL (r:af) (s:cu) (pos stop to:Int):(eO r s pos stop to).1=r.1:=by unfold eO;rfl
theorem Kq {p:ab}:∀(n:Nat) (r:af) (x:ak) (met:List Int),r.2.2.2.1.length<=12->∀q∈na p n r x met,q.1=r.1/\1<=q.2.2.2.1.length/\q.2.2.2.1.length<=12
 |0,_,_,_,_,q,hq=>absurd hq List.not_mem_nil
 |n+1,r,x,met,hl,q,hq=>by
  have hq:q∈nG p (na p n) r x met:=hq
  unfold nG at hq
  have fin:∀(s:cu) (pos stop to:Int),r.2.2.2.1.length≠12->(eO r s pos stop to).1=r.1/\1<=(eO r s pos stop to).2.2.2.1.length/\(eO r s pos stop to).2.2.2.1.length<=12:=fun s pos stop to h=>by
   rw[QL,jR,List.length_append]
   refine⟨rfl,?_,?_⟩
   ·show 1<=_+1;omega
   ·show _+1<=12;omega
  cases h1:bN met x.1||decide (r.2.2.2.1.length=12) with
  |true=>rw[h1] at hq;cases hq
  |false=>
   rw[h1] at hq
   have zy:=of_decide_eq_false (Bool.or_eq_false_iff.1 h1).2
   cases h2:aK p x.1==4 with
   |true=>
    rw[h2] at hq
    have hq:q=eO r (x.1,x.2, -1) 0 2 (-1):=by simpa using hq
    rw[hq]
    exact fin _ _ _ _ zy
   |false=>
    rw[h2] at hq
    have hq:q∈ji p (na p n) r x (met++[x.1]) (bG p x.1 x.2).length:=hq
    unfold ji at hq
    rw[List.take_length] at hq
    obtain⟨w,hw,hq⟩:=List.mem_flatMap.1 hq
    unfold qM at hq
    cases h3:decide (0<=cc p (x.1,w.1)) with
    |true=>
     rw[h3] at hq
     have hq:q=eO r (x.1,x.2,w.1) w.2 1 (cc p (x.1,w.1)):=by simpa using hq
     rw[hq]
     exact fin _ _ _ _ zy
    |false=>
     rw[h3] at hq
     cases h4:(bx p (x.1,w.1)).2 with
     |false=>
      rw[h4] at hq
      have hq:q=eO r (x.1,x.2,w.1) w.2 3 (-1):=by simpa using hq
      rw[hq]
      exact fin _ _ _ _ zy
     |true=>
      rw[h4] at hq
      have hq:q∈na p n (eO r (x.1,x.2,w.1) w.2 0 (-1)) (bx p (x.1,w.1)).1 (met++[x.1]):=hq
      have h5:=fin (x.1,x.2,w.1) w.2 0 (-1) zy
      have:=Kq n _ _ _ h5.2.2 q hq
      rw[h5.1] at this
      exact this
theorem SI {p:ab} {q:af} (hq:q∈(cZ p).1):(0<=q.1/\q.1<(p.2.2.1.length:Int))/\1<=q.2.2.2.1.length/\q.2.2.2.1.length<=12:=by
 unfold cZ at hq
 cases h:cj (j7 p) p.2.2.1.length with
 |true=>rw[h] at hq;cases hq
 |false=>
  rw[h] at hq
  have hq:q∈fP p p.2.2.1.length:=hq
  unfold fP at hq
  obtain⟨s,hs,hq⟩:=List.mem_flatMap.1 hq
  have hs:=List.mem_range.1 hs
  unfold py at hq
  cases h1:(lL p (s:Int)).2 with
  |false=>rw[h1] at hq;cases hq
  |true=>
   rw[h1] at hq
   cases h2:(bx p (lL p (s:Int)).1).2 with
   |false=>rw[h2] at hq;cases hq
   |true=>
    rw[h2] at hq
    have:=Kq 13 (wI (s:Int)) _ _ (by show 0<=12;omega) q hq
    obtain⟨e,h3,h4⟩:=this
    have e:q.1=(s:Int):=e
    exact⟨⟨by omega,by omega⟩,h3,h4⟩
structure T0 (p:ab) (r:af) (s:au):Prop where
 still:still p r s
 each:∀e∈cP s,(0<=e/\e<(p.1.length:Int))/\kI r e=false
 nodup:(cP s).Nodup
 len:(cP s).length<=12
theorem O3 {p:ab} (hJ:bT p=true) {y:ak} (hn:mV p y):0<=y.1/\y.1<(p.1.length:Int):=by
 obtain⟨x,hx,rfl⟩:=hn
 have:=me (xE hJ (x:=x) (by rw[mU,hx];rfl))
 exact⟨this.1,this.2.1⟩
theorem Mf {p:ab} (hJ:bT p=true) (r:af):Kept p (T0 p r) where
 qJ s h:=h.still.1
 bare s h:=⟨h.still,h.each,h.nodup,h.len⟩
 hold s z h:=⟨h.still,h.each,h.nodup,h.len⟩
 met s m h:=⟨h.still,h.each,h.nodup,h.len⟩
 guard s y h _ _ _ _ _ _:=⟨h.still,h.each,h.nodup,h.len⟩
 nu s y h hn ho hm hl:=by
  refine⟨h.still,fun e he=> ?_,?_,?_⟩
  ·rcases List.mem_append.1 (show e∈cP s++[y.1] from he) with he|he
   ·exact h.each e he
   ·rw[List.mem_singleton.1 he]
    exact⟨O3 hJ hn,by rw[<-HB h.still];exact ho⟩
  ·show(cP s++[y.1]).Nodup
   rw[List.nodup_append]
   refine⟨h.nodup,by simp,fun a ha b hb e=> ?_⟩
   rw[List.mem_singleton.1 hb] at e
   unfold bN at hm
   have:=List.any_eq_false.1 hm a ha
   rw[e] at this
   simp at this
  ·show(cP s++[y.1]).length<=12
   rw[List.length_append]
   show _+1<=12
   omega
structure xb (p:ab) (r:af):Prop where
 sig:0<=r.1/\r.1<(p.2.2.1.length:Int)
 len:1<=r.2.2.2.1.length/\r.2.2.2.1.length<=12
 steps:∀s∈r.2.2.2.1,0<=s.1/\s.1<(p.1.length:Int)
 once:(cw r).Nodup
 nu:∀e∈r.2.2.2.2.2.2.1,(0<=e/\e<(p.1.length:Int))/\bN (cw r) e=false
 akP:r.2.2.2.2.2.2.1.Nodup
 yE:r.2.2.2.2.2.2.1.length<=12
 sV:Qx p (aR r)
 small:r.2.2.2.2.1.length<=1000/\r.2.2.2.2.2.1.length<=1000
 ahZ:∀n∈r.2.2.2.2.1,bN (cw r) n.1=true
 afQ:∀n∈r.2.2.2.2.2.1,bN (cw r) n.1=false
theorem Nt {p:ab} (hJ:bT p=true) {r:af} {s:au} {y:ak} (h:uj p r s) (hn:mV p y) (hk:aK p y.1=2) (h0:(y.2==0)=false)
  (n1:bq (aS s) (y.1,y.2)=false) (n2:bq (aS s) (y.1,3 - y.2)=false):∀g∈aS s,g.1≠y.1:=fun g hg e=>by
 have hh:dC p y=true:=by
  obtain⟨x,hx,rfl⟩:=hn
  exact xE hJ (x:=x) (by rw[mU,hx];rfl)
 have hy:=Fy hh hk h0
 have hg2:=(h.each g hg).1
 have:g=(y.1,y.2)\/g=(y.1,3 - y.2):=by
  have e2:g.2=y.2\/g.2=3 - y.2:=by omega
  rcases e2 with e2|e2
  ·exact .inl (by rw[<-e,<-e2])
  ·exact .inr (by rw[<-e,<-e2])
 rcases this with e'|e'
 ·exact CN n1 (by rw[<-e'];exact hg)
 ·exact CN n2 (by rw[<-e'];exact hg)
theorem Is {p:ab} (hJ:bT p=true) (r:af):Kept p (fun s=>uj p r s/\((aS s).map Prod.fst).Nodup) where
 qJ s h:=h.1.still.1
 bare s h:=⟨(nL hJ r).bare s h.1,h.2⟩
 nu s y h a b c d:=⟨(nL hJ r).nu s y h.1 a b c d,h.2⟩
 hold s z h:=⟨(nL hJ r).hold s z h.1,h.2⟩
 met s m h:=⟨(nL hJ r).met s m h.1,h.2⟩
 guard s y h hn ho hk h0 n1 n2:=by
  refine⟨(nL hJ r).guard s y h.1 hn ho hk h0 n1 n2,?_⟩
  have fresh:=Nt hJ h.1 hn hk h0 n1 n2
  show((aS s++[(y.1,3 - y.2)]).map Prod.fst).Nodup
  rw[List.map_append,List.nodup_append]
  refine⟨h.2,by simp,fun a ha b hb e=> ?_⟩
  obtain⟨g,hg,rfl⟩:=List.mem_map.1 ha
  have hb:b=y.1:=by simpa using hb
  exact fresh g hg (e.trans hb)
theorem BM:∀{n:Nat} {l:List Int},l.Nodup->(∀e∈l,0<=e/\e<(n:Int))->l.length<=n
 |0,l,_,hr=>by
  cases l with
  |nil=>exact Nat.le_refl _
  |cons x l=>have:=hr x List.mem_cons_self;omega
 |n+1,l,hn,hr=>by
  have h1:(l.filter fun e=> !(e==(n:Int))).length<=n:=BM (hn.filter _) fun e he=>by
   have he:=List.mem_filter.1 he
   have:=hr e he.1
   have h2:e≠(n:Int):=fun e2=>by rw[e2] at he;simp at he
   omega
  by_cases hm:(n:Int)∈l
  ·have h2:l.filter (fun e=> !(e==(n:Int)))=l.erase (n:Int):=by
    rw[hn.erase_eq_filter]
    refine List.filter_congr fun e _=> ?_
    rfl
   rw[h2,List.length_erase_of_mem hm] at h1
   omega
  ·have h2:l.filter (fun e=> !(e==(n:Int)))=l:=List.filter_eq_self.2 fun e he=>by
    have:e≠(n:Int):=fun e2=>hm (e2▸he)
    simpa using this
   rw[h2] at h1
   omega
theorem PS {p:ab} {r:af} (h:pN p) (hr:r∈(bz p).1):r.2.2.2.2.2.1.length<=1000:=by
 obtain⟨_,_,hJ,_,_⟩:=gw h.check
 obtain⟨q,hq,rfl⟩:=h.rz r hr
 have hg:uj p q (bF p q (bE p q).length)/\((aS (bF p q (bE p q).length)).map Prod.fst).Nodup:=
  qo (Is hJ q) ⟨⟨⟨rfl,rfl,rfl,rfl,rfl,rfl⟩,fun g hg=>absurd hg List.not_mem_nil,fun g hg=>absurd hg List.not_mem_nil⟩,List.nodup_nil⟩ _
 have eg:(dV p q).2.2.2.2.2.1=aS (bF p q (bE p q).length):=by unfold dV iZ;rfl
 rw[eg]
 have:=BM (n:=p.1.length) hg.2 fun e he=>by
  obtain⟨g,R7,rfl⟩:=List.mem_map.1 he
  exact qk (by rw[(hg.1.each g R7).2.1];decide)
 rw[List.length_map] at this
 have hs:=(jL (gw h.check).1).1
 omega
theorem Hv {p:ab} (h:pN p) {r:af} (hr:r∈(bz p).1):xb p r:=by
 obtain⟨_,_,hJ,_,_⟩:=gw h.check
 have dE:=Kg h hr
 have hnd:=OK h hr
 have hlen:=Kh h hr
 have PJ:=PS h hr
 obtain⟨q,hq,rfl⟩:=h.rz r hr
 have hs:=tA p q
 have RX:=SI hq
 have hz:T0 p q (bF p q (bE p q).length):=
  qo (Mf hJ q) ⟨⟨rfl,rfl,rfl,rfl,rfl,rfl⟩,fun g hg=>absurd hg List.not_mem_nil,List.nodup_nil,Nat.zero_le _⟩ _
 have hg:uj p q (bF p q (bE p q).length):=
  qo (nL hJ q) ⟨⟨rfl,rfl,rfl,rfl,rfl,rfl⟩,fun g hg=>absurd hg List.not_mem_nil,fun g hg=>absurd hg List.not_mem_nil⟩ _
 have ez:(dV p q).2.2.2.2.2.2.1=cP (bF p q (bE p q).length):=by unfold dV iZ;rfl
 have eg:(dV p q).2.2.2.2.2.1=aS (bF p q (bE p q).length):=by unfold dV iZ;rfl
 have eo:∀e,bN (cw (dV p q)) e=kI q e:=fun e=>by unfold kI cw;rw[hs.2.2.2.1]
 refine⟨by rw[hs.1];exact RX.1,by rw[hs.2.2.2.1];exact RX.2,fun s nI=> ?_,?_,?_,by rw[ez];exact hz.nodup,by rw[ez];exact hz.len,hnd,⟨hlen.2,PJ⟩,fun n hn=> ?_,fun n hn=> ?_⟩
 ·rcases dE.pass s nI with hk|⟨w,hw,_⟩
  ·exact qk (by rw[hk];decide)
  ·have hh:dC p (s.1,s.2.1)=true:=by
    cases hh:dC p (s.1,s.2.1) with
    |true=>rfl
    |false=>unfold bG at hw;rw[hh] at hw;cases hw
   have:=me hh
   exact⟨this.1,this.2.1⟩
 ·unfold cw
  exact dE.nodup
 ·intro e he
  rw[ez] at he
  rw[eo]
  exact hz.each e he
 ·obtain⟨⟨s,nI,e⟩,_⟩:=dE.Kt n hn
  unfold bN cw
  exact List.any_eq_true.2 ⟨n.1,List.mem_map.2 ⟨s,nI,e⟩,by simp⟩
 ·rw[eg] at hn
  rw[eo]
  exact(hg.each n hn).2.2
abbrev fj:=List Int×List Int×List ba×List ba
def jS (dz:Int->Option fj) (o:Int) (v:Option fj) (k:Int):Option fj:=if k=o then v else dz k
theorem G9 (dz:Int->Option fj) (o:Int) (v:Option fj):jS dz o v o=v:=if_pos rfl
structure c6 (dz:Int->Option fj) (b:av):Prop where
 k1:(b.2.1.map Prod.fst).Nodup
 k2:(b.2.2.1.map Prod.fst).Nodup
 k3:(b.2.2.2.1.map Prod.fst).Nodup
 k4:(b.2.2.2.2.map Prod.fst).Nodup
 g1:∀o,aW I b.2.1 o=(dz o).map fun x=>x.1
 g2:∀o,aW I b.2.2.1 o=(dz o).map fun x=>x.2.1
 g3:∀o,aW I b.2.2.2.1 o=(dz o).map fun x=>x.2.2.1
 g4:∀o,aW I b.2.2.2.2 o=(dz o).map fun x=>x.2.2.2
theorem mL:Ty.isKey I=true:=rfl
theorem c6.clear {dz:Int->Option fj} {b:av} (h:c6 dz b) (o:Int):c6 (jS dz o none) (AJ b o):=by
 have key:∀{β:Type} {m:List (Int×β)} {f:fj->β},(m.map Prod.fst).Nodup->(∀o,aW I m o=(dz o).map f)->∀k,aW I (iV I m o) k=(jS dz o none k).map f:=fun {β m f} hn hg k=>by
  rw[Aw mL _ _ _ hn,hg,Pk]
  unfold jS
  by_cases hk:k=o
  ·subst hk;simp
  ·rw[beq_false_of_ne hk,if_neg hk];rfl
 exact⟨tS _ _ mL h.k1,tS _ _ mL h.k2,tS _ _ mL h.k3,tS _ _ mL h.k4,key h.k1 h.g1,key h.k2 h.g2,key h.k3 h.g3,key h.k4 h.g4⟩
theorem wK {dz:Int->Option fj} {o:Int} {x:fj} {β:Type} {m:List (Int×β)} {f:fj->β} (hg:∀o,aW I m o=(dz o).map f) (k:Int):aW I (df I m o (f x)) k=(jS dz o (some x) k).map f:=by
 rw[wP mL,hg,Pk]
 unfold jS
 by_cases hk:k=o
 ·subst hk;simp
 ·rw[beq_false_of_ne hk,if_neg hk];rfl
theorem Kc {dz:Int->Option fj} {o:Int} {x:fj} {β:Type} {m:List (Int×β)} {f:fj->β} (hg:∀o,aW I m o=(dz o).map f) (hx:(dz o).map f=some (f x)) (k:Int):aW I m k=(jS dz o (some x) k).map f:=by
 rw[hg]
 unfold jS
 by_cases hk:k=o
 ·subst hk;rw[if_pos rfl];exact hx
 ·rw[if_neg hk]
def vN (r:af):fj:=(cw r,r.2.2.2.2.2.2.1,r.2.2.2.2.1,r.2.2.2.2.2.1)
theorem c6.take {dz:Int->Option fj} {b:av} (h:c6 dz b) (o:Int) (r:af):c6 (jS dz o (some (vN r))) (taken b o r):=
 ⟨qm mL _ _ _ h.k1,qm mL _ _ _ h.k2,qm mL _ _ _ h.k3,qm mL _ _ _ h.k4,
  wK (x:=vN r) (f:=fun x=>x.1) h.g1,wK (x:=vN r) (f:=fun x=>x.2.1) h.g2,wK (x:=vN r) (f:=fun x=>x.2.2.1) h.g3,wK (x:=vN r) (f:=fun x=>x.2.2.2) h.g4⟩
theorem c6.steps {dz:Int->Option fj} {b:av} (h:c6 dz b) (o:Int):kg b.2.1 o=((dz o).map fun x=>x.1).getD []:=by unfold kg;rw[h.g1]
theorem c6.nu {dz:Int->Option fj} {b:av} (h:c6 dz b) (o:Int):kg b.2.2.1 o=((dz o).map fun x=>x.2.1).getD []:=by unfold kg;rw[h.g2]
theorem c6.sV {dz:Int->Option fj} {b:av} (h:c6 dz b) (o:Int):kg b.2.2.2.1 o=((dz o).map fun x=>x.2.2.1).getD []:=by unfold kg;rw[h.g3]
theorem c6.guards {dz:Int->Option fj} {b:av} (h:c6 dz b) (o:Int):kg b.2.2.2.2 o=((dz o).map fun x=>x.2.2.2).getD []:=by unfold kg;rw[h.g4]
def Bm (x:fj):Bool:=decide (0<x.1.length+x.2.1.length+x.2.2.2.length)
def ai6 (o:Option fj):Bool:=match o with
 |some x=>Bm x
 |none=>false
theorem c6.has {dz:Int->Option fj} {b:av} (h:c6 dz b) (o:Int):iD b o=ai6 (dz o):=by
 unfold iD
 rw[h.steps,h.nu,h.guards]
 cases dz o with
 |none=>rfl
 |some x=>
  show decide (((x.1.length:Int)+(x.2.1.length:Int)+(x.2.2.2.length:Int))>0)=decide (0<x.1.length+x.2.1.length+x.2.2.2.length)
  by_cases hp:0<x.1.length+x.2.1.length+x.2.2.2.length
  ·rw[decide_eq_true hp];exact decide_eq_true (by omega)
  ·rw[decide_eq_false hp];exact decide_eq_false (by omega)
theorem Uv {dz:Int->Option fj} {o:Int} (h:dz o=none):jS dz o none=dz:=by
 funext k
 unfold jS
 by_cases hk:k=o
 ·subst hk;rw[if_pos rfl,h]
 ·rw[if_neg hk]
theorem G8 {dz:Int->Option fj} {o:Int} {u v:Option fj}:jS (jS dz o u) o v=jS dz o v:=by
 funext k
 unfold jS
 by_cases hk:k=o
 ·rw[if_pos hk,if_pos hk]
 ·rw[if_neg hk,if_neg hk,if_neg hk]
def Full (dz:Int->Option fj):Prop:=∀o x,dz o=some x->Bm x=true
theorem c6.drop {dz:Int->Option fj} {b:av} (h:c6 dz b) (hf:Full dz) (o:Int):c6 (jS dz o none) (lD b o):=by
 unfold lD
 rw[h.has]
 cases he:dz o with
 |none=>
  rw[Uv he]
  exact h
 |some x=>
  show c6 _ (bif Bm x then _ else _)
  rw[hf o x he]
  exact h.clear o
def sY (x:fj) (e:Int):fj:=(x.1.eraseIdx (fp (xN e) x.1).toNat,x.2.1,x.2.2.1.filter (rN e),x.2.2.2)
def IA (o:Option fj) (e:Int):Option fj:=match o with
 |none=>none
 |some x=>if bN x.1 e=true then(if Bm (sY x e)=true then some (sY x e) else none) else some x
theorem Es (l:List Int) (e:Int):decide (fp (xN e) l<0)= !bN l e:=by
 have h:=p9 (p:=xN e) (xs:=l)
 have h2:l.any (xN e)=bN l e:=by
  unfold bN
  congr 1
  funext y
  unfold xN
  rw[fI]
 rw[<-h2,<-h]
 by_cases hp:fp (xN e) l<0
 ·rw[decide_eq_true hp,decide_eq_false (by omega)];rfl
 ·rw[decide_eq_false hp,decide_eq_true (by omega)];rfl
theorem c6.free {dz:Int->Option fj} {b:av} (h:c6 dz b) (o e:Int):c6 (jS dz o (IA (dz o) e)) (nM b o e):=by
 have uU:∀{v:Option fj},dz o=v->jS dz o v=dz:=fun {v} hv=>by
  funext k
  unfold jS
  by_cases hk:k=o
  ·subst hk;rw[if_pos rfl,hv]
  ·rw[if_neg hk]
 cases he:dz o with
 |none=>
  have h0:decide (iq b o e<0)=true:=by
   unfold iq
   rw[Es,h.steps,he]
   unfold bN
   rfl
  rw[(Iz h0).1,show IA none e=none from rfl,uU he]
  exact h
 |some x=>
  have jD:kg b.2.1 o=x.1:=by rw[h.steps,he];rfl
  cases hm:bN x.1 e with
  |false=>
   have h0:decide (iq b o e<0)=true:=by
    unfold iq
    rw[Es,jD,hm];rfl
   rw[(Iz h0).1]
   have:IA (some x) e=some x:=by
    show(if bN x.1 e=true then _ else _)=_
    rw[hm,if_neg Bool.false_ne_true]
   rw[this,uU he]
   exact h
  |true=>
   have h0:decide (iq b o e<0)=false:=by
    unfold iq
    rw[Es,jD,hm];rfl
   have hF:c6 (jS dz o (some (sY x e))) (oy b o e):=by
    have e1:oy b o e=(b.1,df I b.2.1 o (sY x e).1,b.2.2.1,df I b.2.2.2.1 o (sY x e).2.2.1,b.2.2.2.2):=by
     unfold oy sY iq
     rw[jD,h.sV,he]
     rfl
    rw[e1]
    exact⟨qm mL _ _ _ h.k1,h.k2,qm mL _ _ _ h.k3,h.k4,wK (f:=fun x=>x.1) h.g1,Kc (f:=fun x=>x.2.1) h.g2 (by rw[he];rfl),wK (f:=fun x=>x.2.2.1) h.g3,Kc (f:=fun x=>x.2.2.2) h.g4 (by rw[he];rfl)⟩
   rw[(KQ h0).1,hF.has,G9]
   have e2:IA (some x) e=if Bm (sY x e)=true then some (sY x e) else none:=by
    show(if bN x.1 e=true then _ else _)=_
    rw[hm,if_pos rfl]
   rw[e2]
   show c6 _ (bif Bm (sY x e) then _ else _)
   cases hq:Bm (sY x e) with
   |true=>rw[if_pos rfl];exact hF
   |false=>
    rw[if_neg Bool.false_ne_true]
    have:=hF.clear o
    rw[G8] at this
    exact this
structure AP (m:Nat) (dz:Int->Option fj):Prop where
 who:∀o x,dz o=some x->0<=o/\o<(m:Int)
 Ku:∀o x,dz o=some x->x.1.length<=1000/\x.2.1.length<=1000/\x.2.2.1.length<=1000/\x.2.2.2.length<=1000
theorem Pc {β:Type} {m:List (Int×β)} (hn:(m.map Prod.fst).Nodup) {x:Int×β} (hx:x∈m):aW I m x.1=some x.2:=o8 mL hn hx
theorem BQ {dz:Int->Option fj} {n:Nat} (hs:AP n dz) {β:Type} {m:List (Int×β)} {f:fj->β} (hn:(m.map Prod.fst).Nodup) (hg:∀o,aW I m o=(dz o).map f):m.length<=n:=by
 have:=BM (n:=n) hn fun e he=>by
  obtain⟨x,hx,rfl⟩:=List.mem_map.1 he
  have h1:=Pc hn hx
  rw[hg] at h1
  obtain⟨y,hy,_⟩:=Option.map_eq_some_iff.1 h1
  exact hs.who _ _ hy
 rw[List.length_map] at this
 exact this
theorem c6.dz {dz:Int->Option fj} {β:Type} {m:List (Int×β)} {f:fj->β} (hn:(m.map Prod.fst).Nodup) (hg:∀o,aW I m o=(dz o).map f) {x:Int×β} (hx:x∈m):∃y,dz x.1=some y/\f y=x.2:=by
 have h1:=Pc hn hx
 rw[hg] at h1
 exact Option.map_eq_some_iff.1 h1
theorem c6.small {dz:Int->Option fj} {b:av} (h:c6 dz b) {n:Nat} (hs:AP n dz) (hn:n<=900):ug b:=by
 have l1:=BQ hs h.k1 h.g1
 have l2:=BQ hs h.k2 h.g2
 have l3:=BQ hs h.k3 h.g3
 refine⟨⟨fun x hx=> ?_,fun x hx=> ?_,fun x hx=> ?_,fun x hx=> ?_,by omega,by omega,by omega⟩,by omega,by omega⟩
 ·obtain⟨y,hy,e⟩:=c6.dz h.k1 h.g1 hx
  rw[<-e];exact(hs.Ku _ _ hy).1
 ·obtain⟨y,hy,e⟩:=c6.dz h.k2 h.g2 hx
  rw[<-e];exact(hs.Ku _ _ hy).2.1
 ·obtain⟨y,hy,e⟩:=c6.dz h.k3 h.g3 hx
  rw[<-e];exact(hs.Ku _ _ hy).2.2.1
 ·obtain⟨y,hy,e⟩:=c6.dz h.k4 h.g4 hx
  rw[<-e];exact(hs.Ku _ _ hy).2.2.2
structure D0 (dz:Int->Option fj):Prop where
 one:∀o x k y e,dz o=some x->dz k=some y->bN x.1 e=true->bN y.1 e=true->o=k
 held:∀o x k y,dz o=some x->dz k=some y->∀u∈x.2.2.1++x.2.2.2,∀v∈y.2.2.1++y.2.2.2,u.1=v.1->u.2=v.2
theorem c6.one {dz:Int->Option fj} {b:av} (h:c6 dz b) (hx:D0 dz):kp b:=by
 intro e x hx1 y Nb h1 h2
 obtain⟨u,hu,e1⟩:=c6.dz h.k1 h.g1 hx1
 obtain⟨v,hv,e2⟩:=c6.dz h.k1 h.g1 Nb
 exact hx.one _ _ _ _ e hu hv (by rw[e1];exact h1) (by rw[e2];exact h2)
def Ik (x:fj) (e:Int):Option ba:=(x.2.2.1++x.2.2.2).find? fun n=>n.1==e
theorem c6.mc {dz:Int->Option fj} {b:av} (h:c6 dz b) (o e:Int):mc b o e=(dz o).bind fun x=>Ik x e:=by
 unfold YtjnappfomhkeeaaGreat.mc lZ
 rw[h.sV,h.guards]
 cases dz o with
 |none=>rfl
 |some x=>rfl
theorem c6.pH {dz:Int->Option fj} {b:av} (h:c6 dz b) (hx:D0 dz) (e:Int):pH b e:=by
 intro x hx1 y Nb u v hu hv
 rw[h.mc] at hu hv
 obtain⟨p,hp,hu⟩:=Option.bind_eq_some_iff.1 hu
 obtain⟨q,hq,hv⟩:=Option.bind_eq_some_iff.1 hv
 have e1:=List.find?_some hu
 have e2:=List.find?_some hv
 have e1:u.1=e:=by simpa using e1
 have e2:v.1=e:=by simpa using e2
 exact hx.held _ _ _ _ hp hq u (List.mem_of_find?_eq_some hu) v (List.mem_of_find?_eq_some hv) (e1.trans e2.symm)
theorem c6.ok {dz:Int->Option fj} {b:av} (h:c6 dz b) {n:Nat} (hs:AP n dz) (hn:n<=900) (hx:D0 dz):pV b:=
 ⟨(h.small hs hn).1,h.one hx,h.pH hx,fun _=>(h.small hs hn).1.vz.2.1⟩
theorem c6.owner {dz:Int->Option fj} {b:av} (h:c6 dz b) (hx:D0 dz) {o:Int} {x:fj} {e:Int} (ho:dz o=some x) (hm:bN x.1 e=true):fT b e=o:=by
 have h1:aW I b.2.1 o=some x.1:=by rw[h.g1,ho];rfl
 exact Ko (h.one hx e) (x:=(o,x.1)) (fM mL h1) hm
theorem Mp (l:List Int):(ob l l.length).Perm l:=vo l _ (Nat.le_refl _)
theorem c6.ab1 {dz:Int->Option fj} {b:av} (h:c6 dz b) (e o:Int):o∈lB b e↔∃x,dz o=some x/\bN x.2.1 e=true:=by
 unfold lB
 rw[(Mp _).mem_iff]
 unfold eF
 rw[List.mem_map]
 constructor
 ·rintro⟨x,hx,rfl⟩
  have hx:=List.mem_filter.1 hx
  obtain⟨y,hy,e1⟩:=c6.dz h.k2 h.g2 hx.1
  exact⟨y,hy,by rw[e1];exact hx.2⟩
 ·rintro⟨x,hx,hm⟩
  have h1:aW I b.2.2.1 o=some x.2.1:=by rw[h.g2,hx];rfl
  exact⟨(o,x.2.1),List.mem_filter.2 ⟨fM mL h1,hm⟩,rfl⟩
theorem FZ (sn o:List Bool) (g:Bool) (last:Nat):∀(k f:Nat),f+k<=last->f<=ng sn o g last k f/\ng sn o g last k f<=f+k
 |0,f,_=>⟨Nat.le_refl _,Nat.le_refl _⟩
 |k+1,f,h=>by
  unfold ng
  split
  ·have:=FZ sn o g last k (f+1) (by omega)
   exact⟨by omega,by omega⟩
  ·exact⟨Nat.le_refl _,by omega⟩
def MV (n:Nat) (l:cI):Prop:=l=gk\/((1<=l.1/\l.1<=3)/\(0<=l.2.1/\l.2.1<(n:Int))/\l.2.2.2.length=n/\(l.1≠3->l.2.1=0))
theorem Ki (a:Int):gr a a=[]:=by unfold gr;rw[show(a - a).toNat=0 by omega];rfl
theorem yM {n:Nat} {l:cI} {v:kS} (hl:MV n l) (h0:l.1≠0) (hv:v.1.length=n):
  ∃f:Nat,l.2.1<=(f:Int)/\f<=n/\(dc l v).2=gr l.2.1 (f:Int)/\(((dc l v).1=gk/\f=n)\/((dc l v).1.1≠0/\(dc l v).1.2.1=(f:Int)/\f<n))/\MV n (dc l v).1/\
   ((dc l v).1.1=2->(dc l v).1.2.2.1=false/\v.2.2.1=true/\v.2.2.2.1=true):=by
 rcases hl with rfl|⟨⟨s1,s2⟩,⟨f1,f2⟩,hs,hu⟩
 ·exact absurd rfl h0
 ·have hb:¬tc l v:=by
   unfold tc
   omega
  obtain⟨fr,wV⟩:∃fr:Nat,l.2.1=(fr:Int):=⟨l.2.1.toNat,by omega⟩
  rw[KP h0 hb wV,wV]
  have dQ:fr<n:=by omega
  have XT:=Dp v
  have Vf:(lr l.2.2.2 (mg v) v.1.length).length=n:=by rw[sq (by omega) (by omega)];exact hs
  generalize lr l.2.2.2 (mg v) v.1.length=sn at *
  generalize (l.2.2.1||v.2.2.2.2.2.2)=off
  rw[hv]
  unfold xG
  split
  ·rename_i h1
   have hz:fr=0:=by have:=hu h1.1;omega
   split
   ·exact⟨n,by omega,Nat.le_refl _,rfl,.inl ⟨rfl,rfl⟩,.inl rfl,fun h=>by cases h⟩
   ·split
    ·rename_i h3
     refine⟨fr,Int.le_refl _,by omega,(Ki _).symm,.inr ⟨show(2:Int)≠0 by decide,rfl,dQ⟩,.inr ⟨⟨show(1:Int)<=2 by decide,show(2:Int)<=3 by decide⟩,⟨by show(0:Int)<=(fr:Int);omega,by show(fr:Int)<_;omega⟩,Vf,fun _=>by show(fr:Int)=0;omega⟩,fun _=>⟨h3.1,h3.2⟩⟩
    ·refine⟨fr,Int.le_refl _,by omega,(Ki _).symm,.inr ⟨show(1:Int)≠0 by decide,rfl,dQ⟩,.inr ⟨⟨show(1:Int)<=1 by decide,show(1:Int)<=3 by decide⟩,⟨by show(0:Int)<=(fr:Int);omega,by show(fr:Int)<_;omega⟩,Vf,fun _=>by show(fr:Int)=0;omega⟩,fun h=>by cases h⟩
  ·have Dg:=FZ sn (mg v) v.2.1 (n - 1) (n - 1 - fr) fr (by omega)
   generalize ng sn (mg v) v.2.1 (n - 1) (n - 1 - fr) fr=g at *
   simp only
   split
   ·exact⟨n,by omega,Nat.le_refl _,rfl,.inl ⟨rfl,rfl⟩,.inl rfl,fun h=>by cases h⟩
   ·refine⟨g,by omega,by omega,rfl,.inr ⟨show(3:Int)≠0 by decide,rfl,by omega⟩,.inr ⟨⟨show(1:Int)<=3 by decide,show(3:Int)<=3 by decide⟩,⟨by show(0:Int)<=(g:Int);omega,by show(g:Int)<_;omega⟩,Vf,fun h=>absurd rfl h⟩,fun h=>by cases h⟩
def zf (l:List Int) (x:ba):Bool:= !bN l x.1
def nh (r:af) (k:Nat):fj:=((cw r).drop k,r.2.2.2.2.2.2.1,r.2.2.2.2.1.filter (zf ((cw r).take k)),r.2.2.2.2.2.1)
def zW (r:af) (l:cI):Option fj:=if l.1=0 then none else some (nh r l.2.1.toNat)
def mh (c:bO) (ls:List cI) (o:Int):Option fj:=if 0<=o/\o<(c.2.length:Int) then zW (aD c o) (ls.getD o.toNat gk) else none
theorem Sl (r:af):nh r 0=vN r:=by
 unfold nh vN
 have:r.2.2.2.2.1.filter (zf ((cw r).take 0))=r.2.2.2.2.1:=List.filter_eq_self.2 fun x _=>by unfold zf bN;rfl
 rw[this]
 rfl
theorem P7 {e:Int} {l:List Int}:(e::l).eraseIdx (fp (xN e) (e::l)).toNat=l:=by
 have:fp (xN e) (e::l)=0:=by
  have h:=rX (p:=xN e) (xs:=e::l) (s:=0) 0 (by simp) (by simp) (by unfold xN;simp)
  exact h.symm
 rw[this]
 rfl
theorem Vw {r:af} {k:Nat} (hk:k<(cw r).length):sY (nh r k) ((cw r).getD k 0)=nh r (k+1):=by
 have hd:(cw r).drop k=(cw r).getD k 0::(cw r).drop (k+1):=by rw[List.drop_eq_getElem_cons hk,eW 0 hk]
 unfold sY nh
 have h1:(((cw r).drop k).eraseIdx (fp (xN ((cw r).getD k 0)) ((cw r).drop k)).toNat)=(cw r).drop (k+1):=by
  rw[hd];exact P7
 have h2:(r.2.2.2.2.1.filter (zf ((cw r).take k))).filter (rN ((cw r).getD k 0))=r.2.2.2.2.1.filter (zf ((cw r).take (k+1))):=by
  rw[List.filter_filter]
  refine List.filter_congr fun x _=> ?_
  rw[eQ 0 hk]
  unfold zf rN
  rw[U1,Bool.not_or,fI,Bool.and_comm]
 show(_,_,_,_)=_
 rw[h1,h2]
def zX (r:af) (k:Nat):Option fj:=if Bm (nh r k)=true then some (nh r k) else none
theorem GQ {r:af} {k:Nat} (hk:k<(cw r).length):Bm (nh r k)=true:=by
 unfold Bm
 have:(nh r k).1.length=(cw r).length - k:=by unfold nh;rw[List.length_drop]
 exact decide_eq_true (by omega)
theorem Vv {r:af} {k:Nat} (hk:k<(cw r).length):IA (some (nh r k)) ((cw r).getD k 0)=zX r (k+1):=by
 have hm:bN (nh r k).1 ((cw r).getD k 0)=true:=by
  have hd:(nh r k).1=(cw r).getD k 0::(cw r).drop (k+1):=by
   show(cw r).drop k=_
   rw[List.drop_eq_getElem_cons hk,eW 0 hk]
  rw[hd]
  unfold bN
  simp
 show(if bN (nh r k).1 _=true then _ else _)=_
 rw[hm,if_pos rfl,Vw hk]
 rfl
def NC (r:af) (i:Int) (b:av) (pl:Int):av:=nM b i (gh r.2.2.2.1 pl.toNat).1
def pS (r:af) (i:Int) (out:List Int) (b:av):Nat->av
 |0=>b
 |k+1=>NC r i (pS r i out b k) (out.getD k 0)
theorem Yy (r:af) (k:Nat):(gh r.2.2.2.1 k).1=(cw r).getD k 0:=by
 unfold gh cw
 rw[List.getD_eq_getElem?_getD,List.getD_eq_getElem?_getD,List.getElem?_map]
 cases r.2.2.2.1[k]? <;>rfl
theorem ON {a:Int} {m k:Nat} (ha:0<=a) (hk:(k:Int)<(m:Int) - a):(gr a (m:Int)).getD k 0=a+(k:Int):=by
 unfold gr
 rw[List.getD_eq_getElem?_getD,List.getElem?_map,List.getElem?_range (by omega)]
 rfl
theorem Hw (a:Int) (m:Int):(gr a m).length=(m - a).toNat:=by unfold gr;rw[List.length_map,List.length_range]
theorem Iy {dz:Int->Option fj} {b:av} (h:c6 dz b) {r:af} {i:Int} {f m:Nat} (hi:dz i=some (nh r f)) (hm:m<=(cw r).length) (hf:f<(cw r).length):∀k,f+k<=m->c6 (jS dz i (zX r (f+k))) (pS r i (gr (f:Int) (m:Int)) b k)
 |0,_=>by
  have:jS dz i (zX r (f+0))=dz:=by
   funext j
   unfold jS zX
   by_cases hj:j=i
   ·subst hj;rw[if_pos rfl,Nat.add_zero,GQ hf,if_pos rfl,hi]
   ·rw[if_neg hj]
  rw[this]
  exact h
 |k+1,hk=>by
  have ih:=Iy h hi hm hf k (by omega)
  have wV:=ih.free i ((cw r).getD (f+k) 0)
  rw[G9,G8] at wV
  have h1:zX r (f+k)=some (nh r (f+k)):=by unfold zX;rw[GQ (by omega),if_pos rfl]
  rw[h1,Vv (by omega)] at wV
  show c6 _ (NC r i (pS r i (gr (f:Int) (m:Int)) b k) ((gr (f:Int) (m:Int)).getD k 0))
  unfold NC
  rw[ON (by omega) (by omega),Yy,show((f:Int)+(k:Int)).toNat=f+k by omega]
  exact wV
structure lA (c:bO):Prop where
 ok:Dy c
 rz:∀r∈c.2,xb c.1 r
 Sh:c.2.length<=64
 elems:c.1.1.length<=40
 sigs:c.1.2.2.1.length<=24
structure Inv (c:bO) (ls:List cI) (b:av):Prop where
 len:ls.length=c.2.length
 FI:∀i:Nat,i<c.2.length->MV (aD c i).2.2.2.1.length (ls.getD i gk)
 size:b.1=(c.1.1.length:Int)
 book:c6 (mh c ls) b
 F0:D0 (mh c ls)
 clear:∀o x k y e,mh c ls o=some x->mh c ls k=some y->bN x.1 e=true->bN y.2.1 e=false
theorem kX {c:bO} {o:Int} (h:0<=o/\o<(c.2.length:Int)):aD c o∈c.2:=fJ zR (by omega)
theorem r5 {c:bO} {ls:List cI} {o:Int} {x:fj} (h:mh c ls o=some x):(0<=o/\o<(c.2.length:Int))/\(ls.getD o.toNat gk).1≠0/\x=nh (aD c o) (ls.getD o.toNat gk).2.1.toNat:=by
 unfold mh at h
 split at h
 ·rename_i ho
  unfold zW at h
  split at h
  ·cases h
  ·rename_i h0
   cases h
   exact⟨ho,h0,rfl⟩
 ·cases h
theorem TG {c:bO} {ls:List cI} {o:Int} (ho:0<=o/\o<(c.2.length:Int)) (h0:(ls.getD o.toNat gk).1≠0):mh c ls o=some (nh (aD c o) (ls.getD o.toNat gk).2.1.toNat):=by
 unfold mh zW
 rw[if_pos ho,if_neg h0]
theorem VL {c:bO} {ls:List cI} {o:Int} (h0:(ls.getD o.toNat gk).1=0):mh c ls o=none:=by
 unfold mh zW
 rw[if_pos h0]
 split<;>rfl
theorem Ca {c:bO} (hc:lA c) (ls:List cI):AP 64 (mh c ls) where
 who o x h:=by
  have:=(r5 h).1
  have:=hc.Sh
  omega
 Ku o x h:=by
  obtain⟨ho,_,rfl⟩:=r5 h
  have hg:=hc.rz _ (kX ho)
  have h1:=hg.len
  have h2:=hg.small
  have h3:=hg.yE
  have h4:=List.length_filter_le (zf ((cw (aD c o)).take (ls.getD o.toNat gk).2.1.toNat)) (aD c o).2.2.2.2.1
  refine⟨?_,by show(aD c o).2.2.2.2.2.2.1.length<=1000;omega,by show List.length ((aD c o).2.2.2.2.1.filter _)<=1000;omega,h2.2⟩
  show((cw (aD c o)).drop _).length<=1000
  rw[List.length_drop,r6]
  omega
theorem Inv.full {c:bO} {ls:List cI} {b:av} (h:Inv c ls b):Full (mh c ls):=fun o x hx=>by
 obtain⟨ho,h0,rfl⟩:=r5 hx
 rcases h.FI o.toNat (by omega) with hz|⟨_,hf,_⟩
 ·rw[hz] at h0;exact absurd rfl h0
 ·rw[show((o.toNat:Nat):Int)=o by omega] at hf
  exact GQ (by rw[r6];omega)
theorem Inv.NW {c:bO} (hc:lA c) {ls:List cI} {b:av} (h:Inv c ls b):pV b:=h.book.ok (Ca hc ls) (by omega) h.F0
theorem U2 {l:List Int} {j k:Nat} (JM:j<=k) {e:Int} (h:bN (l.drop k) e=true):bN (l.drop j) e=true:=by
 unfold bN at h ⊢
 obtain⟨x,hx,he⟩:=List.any_eq_true.1 h
 have:l.drop k=(l.drop j).drop (k - j):=by rw[List.drop_drop];congr 1;omega
 rw[this] at hx
 exact List.any_eq_true.2 ⟨x,List.mem_of_mem_drop hx,he⟩
theorem UW {l:List Int} {j k:Nat} (JM:j<=k) {x:ba} (h:zf (l.take k) x=true):zf (l.take j) x=true:=by
 unfold zf bN at h ⊢
 rw[Bool.not_eq_true'] at h ⊢
 refine(List.any_eq_false.2 fun y hy=>List.any_eq_false.1 h y ?_)
 have:l.take j=(l.take k).take j:=by rw[List.take_take,Nat.min_eq_left JM]
 rw[this] at hy
 exact List.mem_of_mem_take hy
def RI (y x:fj):Prop:=(∀e,bN y.1 e=true->bN x.1 e=true)/\y.2.1=x.2.1/\∀u∈y.2.2.1++y.2.2.2,u∈x.2.2.1++x.2.2.2
theorem RH (r:af) {j k:Nat} (h:j<=k):RI (nh r k) (nh r j):=by
 refine⟨fun e he=>U2 h he,rfl,fun u hu=> ?_⟩
 rcases List.mem_append.1 hu with hu|hu
 ·refine List.mem_append_left _ ?_
  have hu:=List.mem_filter.1 hu
  exact List.mem_filter.2 ⟨hu.1,UW h hu.2⟩
 ·exact List.mem_append_right _ hu
theorem D0.less {dz abP:Int->Option fj} (h:D0 dz) (hl:∀o y,abP o=some y->∃x,dz o=some x/\RI y x):D0 abP where
 one o x k y e ho hk h1 h2:=by
  obtain⟨x',g1,g2⟩:=hl _ _ ho
  obtain⟨y',g3,g4⟩:=hl _ _ hk
  exact h.one _ _ _ _ e g1 g3 (g2.1 e h1) (g4.1 e h2)
 held o x k y ho hk u hu v hv:=by
  obtain⟨x',g1,g2⟩:=hl _ _ ho
  obtain⟨y',g3,g4⟩:=hl _ _ hk
  exact h.held _ _ _ _ g1 g3 u (g2.2.2 u hu) v (g4.2.2 v hv)
theorem xR {ls:List cI} {i j:Nat} {l:cI} (hi:i<ls.length):(ls.set i l).getD j gk=if j=i then l else ls.getD j gk:=by
 rw[List.getD_eq_getElem?_getD,List.getElem?_set,List.getD_eq_getElem?_getD]
 by_cases h:i=j
 ·subst h;rw[if_pos rfl,if_pos hi,if_pos rfl];rfl
 ·rw[if_neg h,if_neg (fun e=>h e.symm)]
theorem IK {c:bO} {ls:List cI} {i:Nat} {l:cI} (hi:i<ls.length) (hl:ls.length=c.2.length):mh c (ls.set i l)=jS (mh c ls) (i:Int) (zW (aD c i) l):=by
 funext o
 unfold jS mh
 by_cases ho:0<=o/\o<(c.2.length:Int)
 ·rw[if_pos ho,if_pos ho,xR hi]
  by_cases h:o=(i:Int)
  ·subst h;rw[if_pos rfl,if_pos (by omega)]
  ·rw[if_neg h,if_neg (by omega)]
 ·rw[if_neg ho,if_neg ho,if_neg (by intro h;subst h;exact ho ⟨by omega,by omega⟩)]
def tL (r:af) (i:Int) (g:cI×List Int) (b:av):av:=bif g.1.1==0 then lD (pS r i g.2 b g.2.length) i else pS r i g.2 b g.2.length
theorem Inv.step {c:bO} {ls:List cI} {b:av} (h:Inv c ls b) {i:Nat} (hi:i<c.2.length) (h0:(ls.getD i gk).1≠0) {v:kS} (hv:v.1.length=(aD c i).2.2.2.1.length):
  Inv c (ls.set i (dc (ls.getD i gk) v).1) (tL (aD c i) (i:Int) (dc (ls.getD i gk) v) b):=by
 have Vj:i<ls.length:=by rw[h.len];exact hi
 have X1:=h.FI i hi
 obtain⟨f,f1,f2,f3,f4,f5,f6⟩:=yM X1 h0 hv
 have BW:0<=(ls.getD i gk).2.1/\(ls.getD i gk).2.1<((aD c i).2.2.2.1.length:Int):=by
  rcases X1 with hz|⟨_,hf,_⟩
  ·rw[hz] at h0;exact absurd rfl h0
  ·exact hf
 generalize hg:dc (ls.getD i gk) v=g at *
 obtain⟨fr,wV⟩:∃fr:Nat,(ls.getD i gk).2.1=(fr:Int):=⟨(ls.getD i gk).2.1.toNat,by omega⟩
 have hei:mh c ls (i:Int)=some (nh (aD c i) fr):=by
  rw[TG ⟨by omega,by omega⟩ (by rw[Int.toNat_natCast];exact h0),Int.toNat_natCast,wV,Int.toNat_natCast]
 have No:=r6 (aD c i)
 have X9:=Iy h.book hei (m:=f) (by omega) (by omega) (f - fr) (by omega)
 have hlen:g.2.length=f - fr:=by rw[f3,Hw,wV];omega
 rw[show fr+(f - fr)=f by omega] at X9
 have aeN:c6 (mh c (ls.set i g.1)) (tL (aD c i) (i:Int) g b):=by
  rw[IK Vj h.len]
  unfold tL
  rw[hlen,f3,wV]
  rcases f4 with ⟨e1,e2⟩|⟨e1,e2,e3⟩
  ·have hE:zW (aD c i) g.1=none:=by rw[e1];rfl
   have:(g.1.1==0)=true:=by rw[e1];rfl
   rw[this,hE]
   show c6 _ (lD _ _)
   have hF:Full (jS (mh c ls) (i:Int) (zX (aD c i) f)):=fun o x hx=>by
    unfold jS at hx
    split at hx
    ·unfold zX at hx
     split at hx
     ·rename_i hh
      cases hx
      exact hh
     ·cases hx
    ·exact h.full o x hx
   have:=X9.drop hF (i:Int)
   rw[G8] at this
   exact this
  ·have hE:zW (aD c i) g.1=zX (aD c i) f:=by
    unfold zW zX
    rw[if_neg e1,e2,Int.toNat_natCast,GQ (by omega),if_pos rfl]
   rw[beq_false_of_ne e1,hE]
   exact X9
 have R1:∀o y,mh c (ls.set i g.1) o=some y->∃x,mh c ls o=some x/\RI y x:=fun o y hy=>by
  rw[IK Vj h.len] at hy
  unfold jS at hy
  split at hy
  ·rename_i ho
   subst ho
   refine⟨_,hei,?_⟩
   unfold zW at hy
   split at hy
   ·cases hy
   ·rename_i kz
    cases hy
    rcases f4 with ⟨e1,_⟩|⟨_,e2,_⟩
    ·rw[e1] at kz;exact absurd rfl kz
    ·rw[e2,Int.toNat_natCast]
     exact RH _ (by omega)
  ·exact⟨y,hy,fun _ h=>h,rfl,fun _ h=>h⟩
 refine⟨by rw[List.length_set];exact h.len,fun j hj=> ?_,?_,aeN,h.F0.less R1,fun o x k y e ho hk hm=> ?_⟩
 ·rw[xR Vj]
  split
  ·rename_i e;subst e;exact f5
  ·exact h.FI j hj
 ·have aeV:∀(b:av) (o e:Int),(nM b o e).1=b.1:=fun b o e=>by
   unfold nM
   cases decide (iq b o e<0) with
   |true=>rfl
   |false=>cases iD (oy b o e) o<;>rfl
  have Yq:∀k,(pS (aD c i) (i:Int) g.2 b k).1=b.1:=fun k=>by
   induction k with
   |zero=>rfl
   |succ k ih=>exact(aeV _ _ _).trans ih
  unfold tL
  cases g.1.1==0 with
  |false=>exact(Yq _).trans h.size
  |true=>
   refine Eq.trans ?_ ((Yq g.2.length).trans h.size)
   show(lD _ _).1=_
   unfold lD
   cases iD (pS (aD c i) (i:Int) g.2 b g.2.length) (i:Int)<;>rfl
 ·obtain⟨x',g1,g2⟩:=R1 _ _ ho
  obtain⟨y',g3,g4⟩:=R1 _ _ hk
  rw[g4.2.1]
  exact h.clear _ _ _ _ e g1 g3 (g2.1 e hm)
theorem TZ {p:Nat->Bool}:∀{n k:Nat},cj p n=false->k<n->p k=false
 |0,_,_,hk=>by omega
 |n+1,k,h,hk=>by
  have h:=Bool.or_eq_false_iff.1 (show(cj p n||p n)=false from h)
  by_cases e:k=n
  ·rw[e];exact h.2
  ·exact TZ h.1 (by omega)
structure akJ (b:av) (o:Int) (r:af):Prop where
 pos:0<=o
 has:iD b o=false
 right:ot b r=true
 steps:r.2.2.2.1.any (k8 b)=false
 nu:(r.2.2.2.2.2.2.1.any fun e=>decide (0<=fT b e))=false
 held:(aR r).any (ln b)=false
theorem U3 {b:av} {o:Int} {r:af}:jE b o r=0↔akJ b o r:=by
 unfold jE
 cases h1:(decide (o<0)||(iD b o|| !ot b r)) with
 |true=>
  refine⟨fun h=>absurd h (show ¬(1:Int)=0 by decide),fun h=> ?_⟩
  have:=h.pos
  rw[decide_eq_false (show ¬o<0 by omega),h.has,h.right] at h1
  cases h1
 |false=>
  have h2:=Bool.or_eq_false_iff.1 h1
  have h3:=Bool.or_eq_false_iff.1 h2.2
  cases h4:r.2.2.2.1.any (k8 b) with
  |true=>exact⟨fun h=>absurd h (show ¬(14:Int)=0 by decide),fun h=>by rw[h.steps] at h4;cases h4⟩
  |false=>
   cases h5:(r.2.2.2.2.2.2.1.any fun e=>decide (0<=fT b e)) with
   |true=>exact⟨fun h=>absurd h (show ¬(14:Int)=0 by decide),fun h=>by rw[h.nu] at h5;cases h5⟩
   |false=>
    cases h6:(aR r).any (ln b) with
    |true=>exact⟨fun h=>absurd h (show ¬(15:Int)=0 by decide),fun h=>by rw[h.held] at h6;cases h6⟩
    |false=>exact⟨fun _=>⟨by have:=of_decide_eq_false h2.1;omega,h3.1,by simpa using h3.2,h4,h5,h6⟩,fun _=>rfl⟩
structure abW (c:bO) (ls:List cI) (b:av) (t:eJ) (inn:gQ) (k:Int):Prop where
 Tn:0<=k/\k<(c.2.length:Int)
 bare:(aD c k).2.2.2.2.2.2.2.2=false
 same:cj (uz c ls k (aD c k)) c.2.length=false
 iL:(aD c k).2.2.2.1.any (sC c.1 inn.1)=false
 ahW:(aD c k).2.2.2.2.2.2.1.any (lq c.1 inn.1)=false
 may:jE b k (aD c k)=0
 points:(aR (aD c k)).any (nF c.1 inn)=false
 line:mv t (aD c k) inn.1 b=0
theorem JZ {c:bO} {ls:List cI} {b:av} {t:eJ} {inn:gQ} {k:Int}:zM c ls b t inn k=0↔abW c ls b t inn k:=by
 unfold zM
 cases h0:sa c k with
 |false=>
  refine⟨fun h=>absurd h (show ¬(10:Int)=0 by decide),fun h=> ?_⟩
  unfold sa at h0
  rw[decide_eq_true h.Tn.1,decide_eq_true h.Tn.2] at h0
  cases h0
 |true=>
  have nJ:0<=k/\k<(c.2.length:Int):=by
   unfold sa at h0
   simpa only[Bool.and_eq_true,decide_eq_true_eq] using h0
  show Ag c ls b t inn k (aD c k)=0↔_
  unfold Ag
  cases h1:(aD c k).2.2.2.2.2.2.2.2 with
  |true=>exact⟨fun h=>absurd h (show ¬(11:Int)=0 by decide),fun h=>by rw[h.bare] at h1;cases h1⟩
  |false=>
   cases h2:cj (uz c ls k (aD c k)) c.2.length with
   |true=>exact⟨fun h=>absurd h (show ¬(12:Int)=0 by decide),fun h=>by rw[h.same] at h2;cases h2⟩
   |false=>
    cases h3:(aD c k).2.2.2.1.any (sC c.1 inn.1) with
    |true=>exact⟨fun h=>absurd h (show ¬(13:Int)=0 by decide),fun h=>by rw[h.iL] at h3;cases h3⟩
    |false=>
     cases h4:(aD c k).2.2.2.2.2.2.1.any (lq c.1 inn.1) with
     |true=>exact⟨fun h=>absurd h (show ¬(13:Int)=0 by decide),fun h=>by rw[h.ahW] at h4;cases h4⟩
     |false=>
      cases h5:(jE b k (aD c k)==0) with
      |false=>
       have kz:jE b k (aD c k)≠0:=fun e=>by rw[e] at h5;cases h5
       exact⟨fun h=>absurd h kz,fun h=>absurd h.may kz⟩
      |true=>
       have h5:jE b k (aD c k)=0:=eq_of_beq h5
       cases h6:(aR (aD c k)).any (nF c.1 inn) with
       |true=>exact⟨fun h=>absurd h (show ¬(15:Int)=0 by decide),fun h=>by rw[h.points] at h6;cases h6⟩
       |false=>exact⟨fun h=>⟨nJ,h1,h2,h3,h4,h5,h6,h⟩,fun h=>h.line⟩
theorem VJ {c:bO} {ls:List cI} {o:Int} {x:fj} (h:mh c ls o=some x) {u:ba} (hu:u∈x.2.2.1++x.2.2.2):u∈aR (aD c o):=by
 obtain⟨_,_,rfl⟩:=r5 h
 unfold aR
 rcases List.mem_append.1 hu with hu|hu
 ·exact List.mem_append_left _ (List.mem_filter.1 hu).1
 ·exact List.mem_append_right _ hu
theorem HQ {l:List Int} {e:Int} (h:bN l e=true):e∈l:=by
 unfold bN at h
 obtain⟨x,hx,he⟩:=List.any_eq_true.1 h
 rw[<-eq_of_beq he]
 exact hx
theorem L8 {n:Nat} (h:1<=n/\n<=12):nN (n:Int)=(1,0,false,List.replicate n false):=by
 unfold nN
 have h1:(decide ((n:Int)<1)||decide ((n:Int)>12))=false:=by
  rw[decide_eq_false (by omega),decide_eq_false (by omega)];rfl
 rw[h1]
 rfl
theorem Inv.call {c:bO} (hc:lA c) {ls:List cI} {b:av} (h:Inv c ls b) {t:eJ} {inn:gQ} {k:Int} (hw:abW c ls b t inn k):
  Inv c (ls.set k.toNat (nN ((aD c k).2.2.2.1.length:Int))) (oq b k (aD c k))/\(ls.getD k.toNat gk).1=0:=by
 have nJ:=hw.Tn
 have hm:=U3.1 hw.may
 have hr:=hc.rz _ (kX nJ)
 have Vj:k.toNat<ls.length:=by rw[h.len];omega
 have AY:((k.toNat:Nat):Int)=k:=by omega
 have aeD:(ls.getD k.toNat gk).1=0:=by
  have:=TZ (k:=k.toNat) hw.same (by omega)
  unfold uz at this
  rw[AY,show((k==k):Bool)=true by simp,Bool.true_or,Bool.true_and] at this
  unfold zU at this
  rw[Bool.not_eq_false'] at this
  rcases Bool.or_eq_true _ _|>.mp this with h1|h1
  ·have:=of_decide_eq_true h1;omega
  ·exact eq_of_beq h1
 have hT:oq b k (aD c k)=taken b k (aD c k):=by unfold oq;rw[hw.may];rfl
 have hE:zW (aD c k) (nN ((aD c k).2.2.2.1.length:Int))=some (vN (aD c k)):=by
  rw[L8 hr.len]
  unfold zW
  rw[if_neg (show(1:Int)≠0 by decide)]
  exact congrArg some (Sl _)
 have zw:mh c (ls.set k.toNat (nN ((aD c k).2.2.2.1.length:Int)))=jS (mh c ls) k (some (vN (aD c k))):=by
  have:=IK (c:=c) (l:=nN ((aD c k).2.2.2.1.length:Int)) Vj h.len
  rw[AY,hE] at this
  exact this
 have ai0:=h.NW hc
 have free:∀o x e,mh c ls o=some x->bN (cw (aD c k)) e=true->bN x.1 e=false/\bN x.2.1 e=false:=fun o x e ho he=>by
  have Vm:=HQ he
  unfold cw at Vm
  obtain⟨s,hs,rfl⟩:=List.mem_map.1 Vm
  have h1:=List.any_eq_false.1 hm.steps s hs
  unfold k8 at h1
  have h1:(decide (0<=fT b s.1)||decide (0<(lB b s.1).length))=false:=by simpa using h1
  have h2:=Bool.or_eq_false_iff.1 h1
  have h3:=of_decide_eq_false h2.1
  have h4:=of_decide_eq_false h2.2
  constructor
  ·cases hx:bN x.1 s.1 with
   |false=>rfl
   |true=>
    have:=h.book.owner h.F0 ho hx
    have:=(r5 ho).1
    omega
  ·cases hx:bN x.2.1 s.1 with
   |false=>rfl
   |true=>
    have:=(h.book.ab1 s.1 o).2 ⟨x,ho,hx⟩
    have:=List.length_pos_of_mem this
    omega
 have aeU:∀o x e,mh c ls o=some x->bN x.1 e=true->bN (aD c k).2.2.2.2.2.2.1 e=false:=fun o x e ho hx=>by
  cases hz:bN (aD c k).2.2.2.2.2.2.1 e with
  |false=>rfl
  |true=>
   have h1:=List.any_eq_false.1 hm.nu e (HQ hz)
   have h1:¬0<=fT b e:=by simpa using h1
   have:=h.book.owner h.F0 ho hx
   have:=(r5 ho).1
   omega
 have points:∀o x,mh c ls o=some x->∀u∈aR (aD c k),∀v∈x.2.2.1++x.2.2.2,u.1=v.1->u.2=v.2:=fun o x ho u hu v hv RV=>by
  have h1:=List.any_eq_false.1 hm.held u hu
  obtain⟨w,XJ⟩:∃w,Ik x u.1=some w:=by
   cases hh:Ik x u.1 with
   |some w=>exact⟨w,rfl⟩
   |none=>
    have:=List.find?_eq_none.1 hh v hv
    simp[RV] at this
  have hwm:=List.mem_of_find?_eq_some XJ
  have hwe:w.1=u.1:=by have:=List.find?_some XJ;simpa using this
  have hg:aW I b.2.2.2.1 o=some x.2.2.1:=by rw[h.book.g3,ho];rfl
  have vG:gd b u.1 b.2.2.2.1=w.2:=xP (ai0.held u.1) (fun _ h=>h) (x:=(o,x.2.2.1)) (fM mL hg) (by rw[h.book.mc,ho];exact XJ)
  have hw2:=(hc.rz _ (kX (r5 ho).1)).sV.each w (VJ ho hwm)
  have e1:(lK b u.1).1=w.2:=by unfold lK;exact vG
  unfold ln at h1
  rw[e1,beq_false_of_ne (show w.2≠0 by omega)] at h1
  have h1:w.2=u.2:=by simpa using h1
  rw[<-h1]
  exact h.F0.held _ _ _ _ ho ho w hwm v hv (hwe.trans RV)
 have hnd:∀u,u∈(vN (aD c k)).2.2.1++(vN (aD c k)).2.2.2->u∈aR (aD c k):=fun u hu=>by unfold aR;exact hu
 have aeI:D0 (jS (mh c ls) k (some (vN (aD c k)))):=by
  constructor
  ·intro o x j y e ho hj h1 h2
   unfold jS at ho hj
   split at ho
   ·rename_i eo
    cases ho
    split at hj
    ·rename_i ej;rw[eo,ej]
    ·have:=(free j y e hj h1).1
     rw[this] at h2;cases h2
   ·split at hj
    ·cases hj
     have:=(free o x e ho h2).1
     rw[this] at h1;cases h1
    ·exact h.F0.one _ _ _ _ e ho hj h1 h2
  ·intro o x j y ho hj u hu v hv RV
   unfold jS at ho hj
   split at ho
   ·cases ho
    split at hj
    ·cases hj
     exact hr.sV.one u (hnd u hu) v (hnd v hv) RV
    ·exact points j y hj u (hnd u hu) v hv RV
   ·split at hj
    ·cases hj
     exact(points o x ho v (hnd v hv) u hu RV.symm).symm
    ·exact h.F0.held _ _ _ _ ho hj u hu v hv RV
 refine⟨⟨by rw[List.length_set];exact h.len,fun j hj=> ?_,by rw[hT];exact h.size,by rw[zw,hT];exact h.book.take k (aD c k),by rw[zw];exact aeI,fun o x j y e ho hj h1=> ?_⟩,aeD⟩
 ·rw[xR Vj]
  split
  ·rename_i e
   subst e
   rw[AY,L8 hr.len]
   exact .inr ⟨⟨show(1:Int)<=1 by decide,show(1:Int)<=3 by decide⟩,⟨show(0:Int)<=0 by decide,by have:=hr.len;show(0:Int)<_;omega⟩,List.length_replicate,fun _=>rfl⟩
  ·exact h.FI j hj
 ·rw[zw] at ho hj
  unfold jS at ho hj
  split at ho
  ·cases ho
   split at hj
   ·cases hj
    cases hz:bN (vN (aD c k)).2.1 e with
    |false=>rfl
    |true=>
     have:=(hr.nu e (HQ hz)).2
     rw[show bN (vN (aD c k)).1 e=bN (cw (aD c k)) e from rfl,this] at h1
     cases h1
   ·exact(free j y e hj h1).2
  ·split at hj
   ·cases hj
    exact aeU o x e ho h1
   ·exact h.clear _ _ _ _ e ho hj h1
def CL (p:ab) (iL:List Bool) (i:Nat):Bool:=iL.getD i false&& !((p.1.getD i zE).2.1==4)
def gC (p:ab) (iL:List Bool) (k:Nat):List Bool:=(List.range k).map (CL p iL)++iL.drop k
@[irreducible] def ie (p:ab) (inn:gQ):gQ:=(gC p inn.1 inn.1.length,inn.2)
def HF (iL:List Bool) (s:cu):Bool:=iL.getD s.1.toNat false
def yJ (iL:List Bool) (s:cu):Bool:= !iL.getD s.1.toNat false
def Cw (iL:List Bool) (e:Int):Bool:= !iL.getD e.toNat false
def liesAt (pos:List Int) (n:ba):Bool:=pos.getD n.1.toNat 0==n.2
def Yp (gone:List (Int×Bool)) (i:Int):Bool:=(aW I gone i).getD false
@[irreducible] def q6 (r:af) (inn:gQ) (i:Int) (gone:List (Int×Bool)):kS:=
 (r.2.2.2.1.map (HF inn.1),r.2.2.1==2,(aR r).all (liesAt inn.2.1),r.2.2.2.1.all (yJ inn.1)&&r.2.2.2.2.2.2.1.all (Cw inn.1),inn.2.2.1.getD r.1.toNat false,inn.2.2.2.getD r.1.toNat false,Yp gone i)
def gL (l:List Int):Nat->List (Int×Bool)
 |0=>[]
 |k+1=>df I (gL l k) (l.getD k 0) true
abbrev yc:=List cI×av
def qg (c:bO) (inn:gQ) (gone:List (Int×Bool)) (s:yc) (i:Nat):yc:=
 if(s.1.getD i gk).1=0 then s else
  (s.1.set i (dc (s.1.getD i gk) (q6 (aD c i) inn i gone)).1,tL (aD c i) i (dc (s.1.getD i gk) (q6 (aD c i) inn i gone)) s.2)
def lh (c:bO) (inn:gQ) (gone:List (Int×Bool)) (s:yc):Nat->yc
 |0=>s
 |k+1=>qg c inn gone (lh c inn gone s k) k
abbrev wo:=List cI×av×eJ×List Int
def lT (c:bO) (inn:gQ) (s:wo) (x:Int):wo:=
 if zM c s.1 s.2.1 s.2.2.1 inn x=0 then
  (s.1.set x.toNat (nN ((aD c x).2.2.2.1.length:Int)),oq s.2.1 x (aD c x),TE s.2.2.1 (aD c x) inn.1 s.2.1,s.2.2.2++[mv s.2.2.1 (aD c x) inn.1 s.2.1])
 else(s.1,s.2.1,s.2.2.1,s.2.2.2++[zM c s.1 s.2.1 s.2.2.1 inn x])
def rb (c:bO) (inn:gQ) (l:List Int) (s:wo):Nat->wo
 |0=>s
 |k+1=>lT c inn (rb c inn l s k) (l.getD k 0)
def D9 (p:ab) (b:av) (e:Nat):Int:=if(p.1.getD e zE).2.1=2 then(lK b (e:Int)).1 else 0
def jy (p:ab) (b:av) (k:Nat):List Int:=(List.range k).map (D9 p b)++List.replicate (p.1.length - k) 0
abbrev Jp:=List Int×List Int×List Int
def oE (p:ab) (inn:gQ):Bool:=inn.1.length==p.1.length&&(inn.2.1.length==p.1.length&&(inn.2.2.1.length==p.2.2.1.length&&inn.2.2.2.length==p.2.2.1.length))
def QO (W:fh) (inn:gQ) (calls cancels:List Int):wo:=
 rb W.1 (ie W.1.1 inn) calls ((lh W.1 (ie W.1.1 inn) (gL cancels cancels.length) (W.2.1,W.2.2.1) W.2.1.length).1,(lh W.1 (ie W.1.1 inn) (gL cancels cancels.length) (W.2.1,W.2.2.1) W.2.1.length).2,W.2.2.2.1,[]) calls.length
@[irreducible] def gq (W:fh) (inn:gQ) (calls cancels:List Int):fh×Jp×Int:=
 if oE W.1.1 inn=true then
  let s:=QO W inn calls cancels
  ((W.1,s.1,s.2.1,s.2.2.1,fW W.1 s.1),(fW W.1 s.1,jy W.1.1 s.2.1 W.1.1.1.length,s.2.2.2),0)
 else(W,([],[],[]),1)
theorem J4 (p:ab) (inn:gQ):(ie p inn).1.length=inn.1.length/\(ie p inn).2=inn.2:=by
 unfold ie
 refine⟨?_,rfl⟩
 show(gC p inn.1 inn.1.length).length=_
 unfold gC
 rw[List.length_append,List.length_map,List.length_range,List.length_drop]
 omega
theorem D8 (r:af) (inn:gQ) (i:Int) (gone:List (Int×Bool)):(q6 r inn i gone).1.length=r.2.2.2.1.length:=by unfold q6;exact List.length_map _
theorem Inv.roads {c:bO} {inn:gQ} {gone:List (Int×Bool)} {s:yc} (h:Inv c s.1 s.2):∀k,k<=c.2.length->Inv c (lh c inn gone s k).1 (lh c inn gone s k).2
 |0,_=>h
 |k+1,hk=>by
  have ih:=Inv.roads (inn:=inn) (gone:=gone) h k (by omega)
  show Inv c (qg c inn gone _ k).1 (qg c inn gone _ k).2
  unfold qg
  split
  ·exact ih
  ·rename_i h0
   exact ih.step (by omega) h0 (D8 _ _ _ _)
theorem Inv.calls {c:bO} (hc:lA c) {inn:gQ} {l:List Int} {s:wo} (h:Inv c s.1 s.2.1):∀k,Inv c (rb c inn l s k).1 (rb c inn l s k).2.1
 |0=>h
 |k+1=>by
  have ih:=Inv.calls hc (inn:=inn) (l:=l) h k
  show Inv c (lT c inn _ _).1 (lT c inn _ _).2.1
  unfold lT
  split
  ·rename_i h0
   exact(ih.call hc (JZ.1 h0)).1
  ·exact ih
theorem Cc {c:bO} {inn:gQ} {l:List Int} {s:wo}:∀k,(rb c inn l s k).2.2.1.1=s.2.2.1.1
 |0=>rfl
 |k+1=>by
  have ih:=Cc (c:=c) (inn:=inn) (l:=l) (s:=s) k
  show(lT c inn _ _).2.2.1.1=_
  unfold lT
  split
  ·exact ih
  ·exact ih
end YtjnappfomhkeeaaGreat
end Go.Proofs
end
