/-
  A box's tick, plainly: what is told and seen, a road's step, a call; and what stays true of lives and locks; A box's tick, plainly: a call keeps the locks right; what a tick does; Contracts of the program's box, with annotations; The program's box: what it tells, what it is told, what a road sees: proofs; The program's Tick: proof; Contracts of New, of the document's New, and of what the laws make and tell, with annotations; New, the document's New, what the laws make and tell: proofs; A box from New on, plainly: what holds after every Tick, and what the book then says of the roads; Contracts of known and of the first laws, with annotations; known; BoxApart: proofs; What the statements' proofs share.
-/
import Derived.Test.YtjnappfomhkeeaaGreatM5
import Derived.Test.YtjnappfomhkeeaaGreatM3
import Derived.Test.YtjnappfomhkeeaaGreatRows
import Derived.Test.YtjnappfomhkeeaaGreatM4
import Derived.WalkKit
import Derived.ProofKit
import Derived.OpenShut
import Derived.ShutString
import Derived.ChangeOld
import Derived.Below

section
set_option maxRecDepth 100000
set_option linter.unusedVariables false
set_option linter.unusedSimpArgs false
set_option maxHeartbeats 8000000
namespace Go.Proofs
open Go Go.Vc
namespace YtjnappfomhkeeaaGreat
theorem FK (sn o:List Bool) (g:Bool) (last:Nat):∀(k f:Nat),f+k≤last→f≤m7 sn o g last k f∧m7 sn o g last k f≤f+k
 |0,f,_=>⟨Nat.le_refl _,Nat.le_refl _⟩
 |k+1,f,h=>by
  unfold m7
  split
  ·have:=FK sn o g last k (f+1) (by omega)
   exact⟨by omega,by omega⟩
  ·exact⟨Nat.le_refl _,by omega⟩
def MG (n:Nat) (l:cM):Prop:=l=gR∨((1≤l.1∧l.1≤3)∧(0≤l.2.1∧l.2.1<(n:Int))∧l.2.2.2.length=n∧(l.1≠3→l.2.1=0))
theorem J4 (a:Int):gp a a=[]:=by unfold gp;rw[show(a - a).toNat=0 by omega];rfl
theorem EW {n:Nat} {l:cM} {v:kN} (hl:MG n l) (h0:l.1≠0) (hv:v.1.length=n):
  ∃f:Nat,l.2.1≤(f:Int)∧f≤n∧(da l v).2=gp l.2.1 (f:Int)∧(((da l v).1=gR∧f=n)∨((da l v).1.1≠0∧(da l v).1.2.1=(f:Int)∧f<n))∧MG n (da l v).1∧
   ((da l v).1.1=2→(da l v).1.2.2.1=false∧v.2.2.1=true∧v.2.2.2.1=true):=by
 rcases hl with rfl|⟨⟨s1,s2⟩,⟨f1,f2⟩,hs,hu⟩
 ·exact absurd rfl h0
 ·have hb:¬sP l v:=by
   unfold sP
   omega
  obtain⟨fr,uJ⟩:∃fr:Nat,l.2.1=(fr:Int):=⟨l.2.1.toNat,by omega⟩
  rw[Kx h0 hb uJ,uJ]
  have dK:fr<n:=by omega
  have XK:=Da v
  have U5:(lg l.2.2.2 (lV v) v.1.length).length=n:=by rw[r5 (by omega) (by omega)];exact hs
  generalize lg l.2.2.2 (lV v) v.1.length=sn at *
  generalize (l.2.2.1||v.2.2.2.2.2.2)=off
  rw[hv]
  unfold xq
  split
  ·rename_i h1
   have hz:fr=0:=by have:=hu h1.1;omega
   split
   ·exact⟨n,by omega,Nat.le_refl _,rfl,.inl ⟨rfl,rfl⟩,.inl rfl,fun h=>by cases h⟩
   ·split
    ·rename_i h3
     refine⟨fr,Int.le_refl _,by omega,(J4 _).symm,.inr ⟨show(2:Int)≠0 by decide,rfl,dK⟩,.inr ⟨⟨show(1:Int)≤2 by decide,show(2:Int)≤3 by decide⟩,⟨by show(0:Int)≤(fr:Int);omega,by show(fr:Int)<_;omega⟩,U5,fun _=>by show(fr:Int)=0;omega⟩,fun _=>⟨h3.1,h3.2⟩⟩
    ·refine⟨fr,Int.le_refl _,by omega,(J4 _).symm,.inr ⟨show(1:Int)≠0 by decide,rfl,dK⟩,.inr ⟨⟨show(1:Int)≤1 by decide,show(1:Int)≤3 by decide⟩,⟨by show(0:Int)≤(fr:Int);omega,by show(fr:Int)<_;omega⟩,U5,fun _=>by show(fr:Int)=0;omega⟩,fun h=>by cases h⟩
  ·have C1:=FK sn (lV v) v.2.1 (n - 1) (n - 1 - fr) fr (by omega)
   generalize m7 sn (lV v) v.2.1 (n - 1) (n - 1 - fr) fr=g at *
   simp only
   split
   ·exact⟨n,by omega,Nat.le_refl _,rfl,.inl ⟨rfl,rfl⟩,.inl rfl,fun h=>by cases h⟩
   ·refine⟨g,by omega,by omega,rfl,.inr ⟨show(3:Int)≠0 by decide,rfl,by omega⟩,.inr ⟨⟨show(1:Int)≤3 by decide,show(3:Int)≤3 by decide⟩,⟨by show(0:Int)≤(g:Int);omega,by show(g:Int)<_;omega⟩,U5,fun h=>absurd rfl h⟩,fun h=>by cases h⟩
def yK (l:List Int) (x:aY):Bool:= !bG l x.1
def lW (r:af) (k:Nat):eW:=((cm r).drop k,r.2.2.2.2.2.2.1,r.2.2.2.2.1.filter (yK ((cm r).take k)),r.2.2.2.2.2.1)
def zp (r:af) (l:cM):Option eW:=if l.1=0 then none else some (lW r l.2.1.toNat)
def lX (c:bP) (ls:List cM) (o:Int):Option eW:=if 0≤o∧o<(c.2.length:Int) then zp (aF c o) (ls.getD o.toNat gR) else none
theorem Sb (r:af):lW r 0=vB r:=by
 unfold lW vB
 have:r.2.2.2.2.1.filter (yK ((cm r).take 0))=r.2.2.2.2.1:=List.filter_eq_self.2 fun x _=>by unfold yK bG;rfl
 rw[this]
 rfl
theorem PR {e:Int} {l:List Int}:(e::l).eraseIdx (fj (xy e) (e::l)).toNat=l:=by
 have:fj (xy e) (e::l)=0:=by
  have h:=rJ (p:=xy e) (xs:=e::l) (s:=0) 0 (by simp) (by simp) (by unfold xy;simp)
  exact h.symm
 rw[this]
 rfl
theorem Vp {r:af} {k:Nat} (hk:k<(cm r).length):sL (lW r k) ((cm r).getD k 0)=lW r (k+1):=by
 have hd:(cm r).drop k=(cm r).getD k 0::(cm r).drop (k+1):=by rw[List.drop_eq_getElem_cons hk,eA 0 hk]
 unfold sL lW
 have h1:(((cm r).drop k).eraseIdx (fj (xy ((cm r).getD k 0)) ((cm r).drop k)).toNat)=(cm r).drop (k+1):=by
  rw[hd];exact PR
 have h2:(r.2.2.2.2.1.filter (yK ((cm r).take k))).filter (rB ((cm r).getD k 0))=r.2.2.2.2.1.filter (yK ((cm r).take (k+1))):=by
  rw[List.filter_filter]
  refine List.filter_congr fun x _=> ?_
  rw[eM 0 hk]
  unfold yK rB
  rw[UR,Bool.not_or,fF,Bool.and_comm]
 show(_,_,_,_)=_
 rw[h1,h2]
def zq (r:af) (k:Nat):Option eW:=if AZ (lW r k)=true then some (lW r k) else none
theorem GB {r:af} {k:Nat} (hk:k<(cm r).length):AZ (lW r k)=true:=by
 unfold AZ
 have:(lW r k).1.length=(cm r).length - k:=by unfold lW;rw[List.length_drop]
 exact decide_eq_true (by omega)
theorem Vo {r:af} {k:Nat} (hk:k<(cm r).length):Io (some (lW r k)) ((cm r).getD k 0)=zq r (k+1):=by
 have hm:bG (lW r k).1 ((cm r).getD k 0)=true:=by
  have hd:(lW r k).1=(cm r).getD k 0::(cm r).drop (k+1):=by
   show(cm r).drop k=_
   rw[List.drop_eq_getElem_cons hk,eA 0 hk]
  rw[hd]
  unfold bG
  simp
 show(if bG (lW r k).1 _=true then _ else _)=_
 rw[hm,if_pos rfl,Vp hk]
 rfl
def No (r:af) (i:Int) (b:av) (pl:Int):av:=nF b i (fP r.2.2.2.1 pl.toNat).1
def pQ (r:af) (i:Int) (out:List Int) (b:av):Nat→av
 |0=>b
 |k+1=>No r i (pQ r i out b k) (out.getD k 0)
theorem PW (r:af) (k:Nat):(fP r.2.2.2.1 k).1=(cm r).getD k 0:=by
 unfold fP cm
 rw[List.getD_eq_getElem?_getD,List.getD_eq_getElem?_getD,List.getElem?_map]
 cases r.2.2.2.1[k]? <;>rfl
theorem OD {a:Int} {m k:Nat} (ha:0≤a) (hk:(k:Int)<(m:Int) - a):(gp a (m:Int)).getD k 0=a+(k:Int):=by
 unfold gp
 rw[List.getD_eq_getElem?_getD,List.getElem?_map,List.getElem?_range (by omega)]
 rfl
theorem Hj (a:Int) (m:Int):(gp a m).length=(m - a).toNat:=by unfold gp;rw[List.length_map,List.length_range]
theorem Il {c9:Int→Option eW} {b:av} (h:cI c9 b) {r:af} {i:Int} {f m:Nat} (hi:c9 i=some (lW r f)) (hm:m≤(cm r).length) (hf:f<(cm r).length):∀k,f+k≤m→cI (jK c9 i (zq r (f+k))) (pQ r i (gp (f:Int) (m:Int)) b k)
 |0,_=>by
  have:jK c9 i (zq r (f+0))=c9:=by
   funext j
   unfold jK zq
   by_cases hj:j=i
   ·subst hj;rw[if_pos rfl,Nat.add_zero,GB hf,if_pos rfl,hi]
   ·rw[if_neg hj]
  rw[this]
  exact h
 |k+1,hk=>by
  have ih:=Il h hi hm hf k (by omega)
  have uJ:=ih.free i ((cm r).getD (f+k) 0)
  rw[GY,GX] at uJ
  have h1:zq r (f+k)=some (lW r (f+k)):=by unfold zq;rw[GB (by omega),if_pos rfl]
  rw[h1,Vo (by omega)] at uJ
  show cI _ (No r i (pQ r i (gp (f:Int) (m:Int)) b k) ((gp (f:Int) (m:Int)).getD k 0))
  unfold No
  rw[OD (by omega) (by omega),PW,show((f:Int)+(k:Int)).toNat=f+k by omega]
  exact uJ
structure lp (c:bP):Prop where
 ok:Dk c
 qF:∀r∈c.2,EM c.1 r
 Nr:c.2.length≤64
 elems:c.1.1.length≤40
 sigs:c.1.2.2.1.length≤24
structure Inv (c:bP) (ls:List cM) (b:av):Prop where
 len:ls.length=c.2.length
 Fu:∀i:Nat,i<c.2.length→MG (aF c i).2.2.2.1.length (ls.getD i gR)
 size:b.1=(c.1.1.length:Int)
 book:cI (lX c ls) b
 x6:A6 (lX c ls)
 clear:∀o x k y e,lX c ls o=some x→lX c ls k=some y→bG x.1 e=true→bG y.2.1 e=false
theorem jN {c:bP} {o:Int} (h:0≤o∧o<(c.2.length:Int)):aF c o∈c.2:=fw zR (by omega)
theorem rN {c:bP} {ls:List cM} {o:Int} {x:eW} (h:lX c ls o=some x):(0≤o∧o<(c.2.length:Int))∧(ls.getD o.toNat gR).1≠0∧x=lW (aF c o) (ls.getD o.toNat gR).2.1.toNat:=by
 unfold lX at h
 split at h
 ·rename_i ho
  unfold zp at h
  split at h
  ·cases h
  ·rename_i h0
   cases h
   exact⟨ho,h0,rfl⟩
 ·cases h
theorem Df {c:bP} {ls:List cM} {o:Int} (ho:0≤o∧o<(c.2.length:Int)) (h0:(ls.getD o.toNat gR).1≠0):lX c ls o=some (lW (aF c o) (ls.getD o.toNat gR).2.1.toNat):=by
 unfold lX zp
 rw[if_pos ho,if_neg h0]
theorem KC {c:bP} {ls:List cM} {o:Int} (h0:(ls.getD o.toNat gR).1=0):lX c ls o=none:=by
 unfold lX zp
 rw[if_pos h0]
 split<;>rfl
theorem BM {c:bP} (hc:lp c) (ls:List cM):Ar 64 (lX c ls) where
 who o x h:=by
  have:=(rN h).1
  have:=hc.Nr
  omega
 Kh o x h:=by
  obtain⟨ho,_,rfl⟩:=rN h
  have hg:=hc.qF _ (jN ho)
  have h1:=hg.len
  have h2:=hg.small
  have h3:=hg.yl
  have h4:=List.length_filter_le (yK ((cm (aF c o)).take (ls.getD o.toNat gR).2.1.toNat)) (aF c o).2.2.2.2.1
  refine⟨?_,by show(aF c o).2.2.2.2.2.2.1.length≤1000;omega,by show List.length ((aF c o).2.2.2.2.1.filter _)≤1000;omega,h2.2⟩
  show((cm (aF c o)).drop _).length≤1000
  rw[List.length_drop,rO]
  omega
theorem Inv.full {c:bP} {ls:List cM} {b:av} (h:Inv c ls b):Full (lX c ls):=fun o x hx=>by
 obtain⟨ho,h0,rfl⟩:=rN hx
 rcases h.Fu o.toNat (by omega) with hz|⟨_,hf,_⟩
 ·rw[hz] at h0;exact absurd rfl h0
 ·rw[show((o.toNat:Nat):Int)=o by omega] at hf
  exact GB (by rw[rO];omega)
theorem Inv.GI {c:bP} (hc:lp c) {ls:List cM} {b:av} (h:Inv c ls b):pT b:=h.book.ok (BM hc ls) (by omega) h.x6
theorem US {l:List Int} {j k:Nat} (JB:j≤k) {e:Int} (h:bG (l.drop k) e=true):bG (l.drop j) e=true:=by
 unfold bG at h ⊢
 obtain⟨x,hx,he⟩:=List.any_eq_true.1 h
 have:l.drop k=(l.drop j).drop (k - j):=by rw[List.drop_drop];congr 1;omega
 rw[this] at hx
 exact List.any_eq_true.2 ⟨x,List.mem_of_mem_drop hx,he⟩
theorem UM {l:List Int} {j k:Nat} (JB:j≤k) {x:aY} (h:yK (l.take k) x=true):yK (l.take j) x=true:=by
 unfold yK bG at h ⊢
 rw[Bool.not_eq_true'] at h ⊢
 refine(List.any_eq_false.2 fun y hy=>List.any_eq_false.1 h y ?_)
 have:l.take j=(l.take k).take j:=by rw[List.take_take,Nat.min_eq_left JB]
 rw[this] at hy
 exact List.mem_of_mem_take hy
def Rx (y x:eW):Prop:=(∀e,bG y.1 e=true→bG x.1 e=true)∧y.2.1=x.2.1∧∀u∈y.2.2.1++y.2.2.2,u∈x.2.2.1++x.2.2.2
theorem Rw (r:af) {j k:Nat} (h:j≤k):Rx (lW r k) (lW r j):=by
 refine⟨fun e he=>US h he,rfl,fun u hu=> ?_⟩
 rcases List.mem_append.1 hu with hu|hu
 ·refine List.mem_append_left _ ?_
  have hu:=List.mem_filter.1 hu
  exact List.mem_filter.2 ⟨hu.1,UM h hu.2⟩
 ·exact List.mem_append_right _ hu
theorem A6.less {c9 abC:Int→Option eW} (h:A6 c9) (hl:∀o y,abC o=some y→∃x,c9 o=some x∧Rx y x):A6 abC where
 one o x k y e ho hk h1 h2:=by
  obtain⟨x',g1,g2⟩:=hl _ _ ho
  obtain⟨y',g3,g4⟩:=hl _ _ hk
  exact h.one _ _ _ _ e g1 g3 (g2.1 e h1) (g4.1 e h2)
 held o x k y ho hk u hu v hv:=by
  obtain⟨x',g1,g2⟩:=hl _ _ ho
  obtain⟨y',g3,g4⟩:=hl _ _ hk
  exact h.held _ _ _ _ g1 g3 u (g2.2.2 u hu) v (g4.2.2 v hv)
theorem BG {ls:List cM} {i j:Nat} {l:cM} (hi:i<ls.length):(ls.set i l).getD j gR=if j=i then l else ls.getD j gR:=by
 rw[List.getD_eq_getElem?_getD,List.getElem?_set,List.getD_eq_getElem?_getD]
 by_cases h:i=j
 ·subst h;rw[if_pos rfl,if_pos hi,if_pos rfl];rfl
 ·rw[if_neg h,if_neg (fun e=>h e.symm)]
theorem Iz {c:bP} {ls:List cM} {i:Nat} {l:cM} (hi:i<ls.length) (hl:ls.length=c.2.length):lX c (ls.set i l)=jK (lX c ls) (i:Int) (zp (aF c i) l):=by
 funext o
 unfold jK lX
 by_cases ho:0≤o∧o<(c.2.length:Int)
 ·rw[if_pos ho,if_pos ho,BG hi]
  by_cases h:o=(i:Int)
  ·subst h;rw[if_pos rfl,if_pos (by omega)]
  ·rw[if_neg h,if_neg (by omega)]
 ·rw[if_neg ho,if_neg ho,if_neg (by intro h;subst h;exact ho ⟨by omega,by omega⟩)]
def tw (r:af) (i:Int) (g:cM×List Int) (b:av):av:=bif g.1.1==0 then lr (pQ r i g.2 b g.2.length) i else pQ r i g.2 b g.2.length
theorem Inv.step {c:bP} {ls:List cM} {b:av} (h:Inv c ls b) {i:Nat} (hi:i<c.2.length) (h0:(ls.getD i gR).1≠0) {v:kN} (hv:v.1.length=(aF c i).2.2.2.1.length):
  Inv c (ls.set i (da (ls.getD i gR) v).1) (tw (aF c i) (i:Int) (da (ls.getD i gR) v) b):=by
 have U9:i<ls.length:=by rw[h.len];exact hi
 have XS:=h.Fu i hi
 obtain⟨f,f1,f2,f3,f4,f5,f6⟩:=EW XS h0 hv
 have CY:0≤(ls.getD i gR).2.1∧(ls.getD i gR).2.1<((aF c i).2.2.2.1.length:Int):=by
  rcases XS with hz|⟨_,hf,_⟩
  ·rw[hz] at h0;exact absurd rfl h0
  ·exact hf
 generalize hg:da (ls.getD i gR) v=g at *
 obtain⟨fr,uJ⟩:∃fr:Nat,(ls.getD i gR).2.1=(fr:Int):=⟨(ls.getD i gR).2.1.toNat,by omega⟩
 have hei:lX c ls (i:Int)=some (lW (aF c i) fr):=by
  rw[Df ⟨by omega,by omega⟩ (by rw[Int.toNat_natCast];exact h0),Int.toNat_natCast,uJ,Int.toNat_natCast]
 have M9:=rO (aF c i)
 have XY:=Il h.book hei (m:=f) (by omega) (by omega) (f - fr) (by omega)
 have hlen:g.2.length=f - fr:=by rw[f3,Hj,uJ];omega
 rw[show fr+(f - fr)=f by omega] at XY
 have aev:cI (lX c (ls.set i g.1)) (tw (aF c i) (i:Int) g b):=by
  rw[Iz U9 h.len]
  unfold tw
  rw[hlen,f3,uJ]
  rcases f4 with ⟨e1,e2⟩|⟨e1,e2,e3⟩
  ·have hE:zp (aF c i) g.1=none:=by rw[e1];rfl
   have:(g.1.1==0)=true:=by rw[e1];rfl
   rw[this,hE]
   show cI _ (lr _ _)
   have hF:Full (jK (lX c ls) (i:Int) (zq (aF c i) f)):=fun o x hx=>by
    unfold jK at hx
    split at hx
    ·unfold zq at hx
     split at hx
     ·rename_i hh
      cases hx
      exact hh
     ·cases hx
    ·exact h.full o x hx
   have:=XY.drop hF (i:Int)
   rw[GX] at this
   exact this
  ·have hE:zp (aF c i) g.1=zq (aF c i) f:=by
    unfold zp zq
    rw[if_neg e1,e2,Int.toNat_natCast,GB (by omega),if_pos rfl]
   rw[beq_false_of_ne e1,hE]
   exact XY
 have RQ:∀o y,lX c (ls.set i g.1) o=some y→∃x,lX c ls o=some x∧Rx y x:=fun o y hy=>by
  rw[Iz U9 h.len] at hy
  unfold jK at hy
  split at hy
  ·rename_i ho
   subst ho
   refine⟨_,hei,?_⟩
   unfold zp at hy
   split at hy
   ·cases hy
   ·rename_i jS
    cases hy
    rcases f4 with ⟨e1,_⟩|⟨_,e2,_⟩
    ·rw[e1] at jS;exact absurd rfl jS
    ·rw[e2,Int.toNat_natCast]
     exact Rw _ (by omega)
  ·exact⟨y,hy,fun _ h=>h,rfl,fun _ h=>h⟩
 refine⟨by rw[List.length_set];exact h.len,fun j hj=> ?_,?_,aev,h.x6.less RQ,fun o x k y e ho hk hm=> ?_⟩
 ·rw[BG U9]
  split
  ·rename_i e;subst e;exact f5
  ·exact h.Fu j hj
 ·have aeB:∀(b:av) (o e:Int),(nF b o e).1=b.1:=fun b o e=>by
   unfold nF
   cases decide (ib b o e<0) with
   |true=>rfl
   |false=>cases gE (om b o e) o<;>rfl
  have Yd:∀k,(pQ (aF c i) (i:Int) g.2 b k).1=b.1:=fun k=>by
   induction k with
   |zero=>rfl
   |succ k ih=>exact(aeB _ _ _).trans ih
  unfold tw
  cases g.1.1==0 with
  |false=>exact(Yd _).trans h.size
  |true=>
   refine Eq.trans ?_ ((Yd g.2.length).trans h.size)
   show(lr _ _).1=_
   unfold lr
   cases gE (pQ (aF c i) (i:Int) g.2 b g.2.length) (i:Int)<;>rfl
 ·obtain⟨x',g1,g2⟩:=RQ _ _ ho
  obtain⟨y',g3,g4⟩:=RQ _ _ hk
  rw[g4.2.1]
  exact h.clear _ _ _ _ e g1 g3 (g2.1 e hm)
theorem TT {p:Nat→Bool}:∀{n k:Nat},cd p n=false→k<n→p k=false
 |0,_,_,hk=>by omega
 |n+1,k,h,hk=>by
  have h:=Bool.or_eq_false_iff.1 (show(cd p n||p n)=false from h)
  by_cases e:k=n
  ·rw[e];exact h.2
  ·exact TT h.1 (by omega)
structure akm (b:av) (o:Int) (r:af):Prop where
 pos:0≤o
 has:gE b o=false
 right:oh b r=true
 steps:r.2.2.2.1.any (kV b)=false
 nk:(r.2.2.2.2.2.2.1.any fun e=>decide (0≤eT b e))=false
 held:(bC r).any (ld b)=false
theorem UT {b:av} {o:Int} {r:af}:jv b o r=0↔akm b o r:=by
 unfold jv
 cases h1:(decide (o<0)||(gE b o|| !oh b r)) with
 |true=>
  refine⟨fun h=>absurd h (show ¬(1:Int)=0 by decide),fun h=> ?_⟩
  have:=h.pos
  rw[decide_eq_false (show ¬o<0 by omega),h.has,h.right] at h1
  cases h1
 |false=>
  have h2:=Bool.or_eq_false_iff.1 h1
  have h3:=Bool.or_eq_false_iff.1 h2.2
  cases h4:r.2.2.2.1.any (kV b) with
  |true=>exact⟨fun h=>absurd h (show ¬(14:Int)=0 by decide),fun h=>by rw[h.steps] at h4;cases h4⟩
  |false=>
   cases h5:(r.2.2.2.2.2.2.1.any fun e=>decide (0≤eT b e)) with
   |true=>exact⟨fun h=>absurd h (show ¬(14:Int)=0 by decide),fun h=>by rw[h.nk] at h5;cases h5⟩
   |false=>
    cases h6:(bC r).any (ld b) with
    |true=>exact⟨fun h=>absurd h (show ¬(15:Int)=0 by decide),fun h=>by rw[h.held] at h6;cases h6⟩
    |false=>exact⟨fun _=>⟨by have:=of_decide_eq_false h2.1;omega,h3.1,by simpa using h3.2,h4,h5,h6⟩,fun _=>rfl⟩
structure abJ (c:bP) (ls:List cM) (b:av) (t:eG) (inn:iO) (k:Int):Prop where
 Te:0≤k∧k<(c.2.length:Int)
 bare:(aF c k).2.2.2.2.2.2.2.2=false
 same:cd (uh c ls k (aF c k)) c.2.length=false
 iC:(aF c k).2.2.2.1.any (sc c.1 inn.1)=false
 ahC:(aF c k).2.2.2.2.2.2.1.any (lf c.1 inn.1)=false
 may:jv b k (aF c k)=0
 points:(bC (aF c k)).any (nz c.1 inn)=false
 line:mh t (aF c k) inn.1 b=0
theorem JN {c:bP} {ls:List cM} {b:av} {t:eG} {inn:iO} {k:Int}:zj c ls b t inn k=0↔abJ c ls b t inn k:=by
 unfold zj
 cases h0:rR c k with
 |false=>
  refine⟨fun h=>absurd h (show ¬(10:Int)=0 by decide),fun h=> ?_⟩
  unfold rR at h0
  rw[decide_eq_true h.Te.1,decide_eq_true h.Te.2] at h0
  cases h0
 |true=>
  have oE:0≤k∧k<(c.2.length:Int):=by
   unfold rR at h0
   simpa only[Bool.and_eq_true,decide_eq_true_eq] using h0
  show zF c ls b t inn k (aF c k)=0↔_
  unfold zF
  cases h1:(aF c k).2.2.2.2.2.2.2.2 with
  |true=>exact⟨fun h=>absurd h (show ¬(11:Int)=0 by decide),fun h=>by rw[h.bare] at h1;cases h1⟩
  |false=>
   cases h2:cd (uh c ls k (aF c k)) c.2.length with
   |true=>exact⟨fun h=>absurd h (show ¬(12:Int)=0 by decide),fun h=>by rw[h.same] at h2;cases h2⟩
   |false=>
    cases h3:(aF c k).2.2.2.1.any (sc c.1 inn.1) with
    |true=>exact⟨fun h=>absurd h (show ¬(13:Int)=0 by decide),fun h=>by rw[h.iC] at h3;cases h3⟩
    |false=>
     cases h4:(aF c k).2.2.2.2.2.2.1.any (lf c.1 inn.1) with
     |true=>exact⟨fun h=>absurd h (show ¬(13:Int)=0 by decide),fun h=>by rw[h.ahC] at h4;cases h4⟩
     |false=>
      cases h5:(jv b k (aF c k)==0) with
      |false=>
       have jS:jv b k (aF c k)≠0:=fun e=>by rw[e] at h5;cases h5
       exact⟨fun h=>absurd h jS,fun h=>absurd h.may jS⟩
      |true=>
       have h5:jv b k (aF c k)=0:=eq_of_beq h5
       cases h6:(bC (aF c k)).any (nz c.1 inn) with
       |true=>exact⟨fun h=>absurd h (show ¬(15:Int)=0 by decide),fun h=>by rw[h.points] at h6;cases h6⟩
       |false=>exact⟨fun h=>⟨oE,h1,h2,h3,h4,h5,h6,h⟩,fun h=>h.line⟩
theorem VC {c:bP} {ls:List cM} {o:Int} {x:eW} (h:lX c ls o=some x) {u:aY} (hu:u∈x.2.2.1++x.2.2.2):u∈bC (aF c o):=by
 obtain⟨_,_,rfl⟩:=rN h
 unfold bC
 rcases List.mem_append.1 hu with hu|hu
 ·exact List.mem_append_left _ (List.mem_filter.1 hu).1
 ·exact List.mem_append_right _ hu
theorem CE {l:List Int} {e:Int} (h:bG l e=true):e∈l:=by
 unfold bG at h
 obtain⟨x,hx,he⟩:=List.any_eq_true.1 h
 rw[←eq_of_beq he]
 exact hx
theorem Jd {l:List Int} {e:Int} (h:e∈l):bG l e=true:=by
 unfold bG
 exact List.any_eq_true.2 ⟨e,h,by simp⟩
theorem LS {n:Nat} (h:1≤n∧n≤12):o8 (n:Int)=(1,0,false,List.replicate n false):=by
 unfold o8
 have h1:(decide ((n:Int)<1)||decide ((n:Int)>12))=false:=by
  rw[decide_eq_false (by omega),decide_eq_false (by omega)];rfl
 rw[h1]
 rfl
theorem Inv.call {c:bP} (hc:lp c) {ls:List cM} {b:av} (h:Inv c ls b) {t:eG} {inn:iO} {k:Int} (hw:abJ c ls b t inn k):
  Inv c (ls.set k.toNat (o8 ((aF c k).2.2.2.1.length:Int))) (og b k (aF c k))∧(ls.getD k.toNat gR).1=0:=by
 have oE:=hw.Te
 have hm:=UT.1 hw.may
 have hr:=hc.qF _ (jN oE)
 have U9:k.toNat<ls.length:=by rw[h.len];omega
 have AD:((k.toNat:Nat):Int)=k:=by omega
 have aem:(ls.getD k.toNat gR).1=0:=by
  have:=TT (k:=k.toNat) hw.same (by omega)
  unfold uh at this
  rw[AD,show((k==k):Bool)=true by simp,Bool.true_or,Bool.true_and] at this
  unfold zn at this
  rw[Bool.not_eq_false'] at this
  rcases Bool.or_eq_true _ _|>.mp this with h1|h1
  ·have:=of_decide_eq_true h1;omega
  ·exact eq_of_beq h1
 have hT:og b k (aF c k)=taken b k (aF c k):=by unfold og;rw[hw.may];rfl
 have hE:zp (aF c k) (o8 ((aF c k).2.2.2.1.length:Int))=some (vB (aF c k)):=by
  rw[LS hr.len]
  unfold zp
  rw[if_neg (show(1:Int)≠0 by decide)]
  exact congrArg some (Sb _)
 have CV:lX c (ls.set k.toNat (o8 ((aF c k).2.2.2.1.length:Int)))=jK (lX c ls) k (some (vB (aF c k))):=by
  have:=Iz (c:=c) (l:=o8 ((aF c k).2.2.2.1.length:Int)) U9 h.len
  rw[AD,hE] at this
  exact this
 have aiG:=h.GI hc
 have free:∀o x e,lX c ls o=some x→bG (cm (aF c k)) e=true→bG x.1 e=false∧bG x.2.1 e=false:=fun o x e ho he=>by
  have Vd:=CE he
  unfold cm at Vd
  obtain⟨s,hs,rfl⟩:=List.mem_map.1 Vd
  have h1:=List.any_eq_false.1 hm.steps s hs
  unfold kV at h1
  have h1:(decide (0≤eT b s.1)||decide (0<(kb b s.1).length))=false:=by simpa using h1
  have h2:=Bool.or_eq_false_iff.1 h1
  have h3:=of_decide_eq_false h2.1
  have h4:=of_decide_eq_false h2.2
  constructor
  ·cases hx:bG x.1 s.1 with
   |false=>rfl
   |true=>
    have:=h.book.owner h.x6 ho hx
    have:=(rN ho).1
    omega
  ·cases hx:bG x.2.1 s.1 with
   |false=>rfl
   |true=>
    have:=(h.book.Qq s.1 o).2 ⟨x,ho,hx⟩
    have:=List.length_pos_of_mem this
    omega
 have aeA:∀o x e,lX c ls o=some x→bG x.1 e=true→bG (aF c k).2.2.2.2.2.2.1 e=false:=fun o x e ho hx=>by
  cases hz:bG (aF c k).2.2.2.2.2.2.1 e with
  |false=>rfl
  |true=>
   have h1:=List.any_eq_false.1 hm.nk e (CE hz)
   have h1:¬0≤eT b e:=by simpa using h1
   have:=h.book.owner h.x6 ho hx
   have:=(rN ho).1
   omega
 have points:∀o x,lX c ls o=some x→∀u∈bC (aF c k),∀v∈x.2.2.1++x.2.2.2,u.1=v.1→u.2=v.2:=fun o x ho u hu v hv RK=>by
  have h1:=List.any_eq_false.1 hm.held u hu
  obtain⟨w,Xz⟩:∃w,H6 x u.1=some w:=by
   cases hh:H6 x u.1 with
   |some w=>exact⟨w,rfl⟩
   |none=>
    have:=List.find?_eq_none.1 hh v hv
    simp[RK] at this
  have hwm:=List.mem_of_find?_eq_some Xz
  have hwe:w.1=u.1:=by have:=List.find?_some Xz;simpa using this
  have hg:aT I b.2.2.2.1 o=some x.2.2.1:=by rw[h.book.g3,ho];rfl
  have vu:gd b u.1 b.2.2.2.1=w.2:=xA (aiG.held u.1) (fun _ h=>h) (x:=(o,x.2.2.1)) (fI mF hg) (by rw[h.book.lS,ho];exact Xz)
  have hw2:=(hc.qF _ (jN (rN ho).1)).uv.each w (VC ho hwm)
  have e1:(lA b u.1).1=w.2:=by unfold lA;exact vu
  unfold ld at h1
  rw[e1,beq_false_of_ne (show w.2≠0 by omega)] at h1
  have h1:w.2=u.2:=by simpa using h1
  rw[←h1]
  exact h.x6.held _ _ _ _ ho ho w hwm v hv (hwe.trans RK)
 have hnd:∀u,u∈(vB (aF c k)).2.2.1++(vB (aF c k)).2.2.2→u∈bC (aF c k):=fun u hu=>by unfold bC;exact hu
 have aer:A6 (jK (lX c ls) k (some (vB (aF c k)))):=by
  constructor
  ·intro o x j y e ho hj h1 h2
   unfold jK at ho hj
   split at ho
   ·rename_i eo
    cases ho
    split at hj
    ·rename_i ej;rw[eo,ej]
    ·have:=(free j y e hj h1).1
     rw[this] at h2;cases h2
   ·split at hj
    ·cases hj
     have:=(free o x e ho h2).1
     rw[this] at h1;cases h1
    ·exact h.x6.one _ _ _ _ e ho hj h1 h2
  ·intro o x j y ho hj u hu v hv RK
   unfold jK at ho hj
   split at ho
   ·cases ho
    split at hj
    ·cases hj
     exact hr.uv.one u (hnd u hu) v (hnd v hv) RK
    ·exact points j y hj u (hnd u hu) v hv RK
   ·split at hj
    ·cases hj
     exact(points o x ho v (hnd v hv) u hu RK.symm).symm
    ·exact h.x6.held _ _ _ _ ho hj u hu v hv RK
 refine⟨⟨by rw[List.length_set];exact h.len,fun j hj=> ?_,by rw[hT];exact h.size,by rw[CV,hT];exact h.book.take k (aF c k),by rw[CV];exact aer,fun o x j y e ho hj h1=> ?_⟩,aem⟩
 ·rw[BG U9]
  split
  ·rename_i e
   subst e
   rw[AD,LS hr.len]
   exact .inr ⟨⟨show(1:Int)≤1 by decide,show(1:Int)≤3 by decide⟩,⟨show(0:Int)≤0 by decide,by have:=hr.len;show(0:Int)<_;omega⟩,List.length_replicate,fun _=>rfl⟩
  ·exact h.Fu j hj
 ·rw[CV] at ho hj
  unfold jK at ho hj
  split at ho
  ·cases ho
   split at hj
   ·cases hj
    cases hz:bG (vB (aF c k)).2.1 e with
    |false=>rfl
    |true=>
     have:=(hr.nk e (CE hz)).2
     rw[show bG (vB (aF c k)).1 e=bG (cm (aF c k)) e from rfl,this] at h1
     cases h1
   ·exact(free j y e hj h1).2
  ·split at hj
   ·cases hj
    exact aeA o x e ho h1
   ·exact h.clear _ _ _ _ e ho hj h1
def Hs (p:ab) (iC:List Bool) (i:Nat):Bool:=iC.getD i false&& !((p.1.getD i zE).2.1==4)
def nu (p:ab) (iC:List Bool) (k:Nat):List Bool:=(List.range k).map (Hs p iC)++iC.drop k
@[irreducible] def ko (p:ab) (inn:iO):iO:=(nu p inn.1 inn.1.length,inn.2)
def Ht (iC:List Bool) (s:cv):Bool:=iC.getD s.1.toNat false
def GW (iC:List Bool) (s:cv):Bool:= !iC.getD s.1.toNat false
def N8 (iC:List Bool) (e:Int):Bool:= !iC.getD e.toNat false
def liesAt (pos:List Int) (n:aY):Bool:=pos.getD n.1.toNat 0==n.2
def Yc (gone:List (Int×Bool)) (i:Int):Bool:=(aT I gone i).getD false
@[irreducible] def uQ (r:af) (inn:iO) (i:Int) (gone:List (Int×Bool)):kN:=
 (r.2.2.2.1.map (Ht inn.1),r.2.2.1==2,(bC r).all (liesAt inn.2.1),r.2.2.2.1.all (GW inn.1)&&r.2.2.2.2.2.2.1.all (N8 inn.1),inn.2.2.1.getD r.1.toNat false,inn.2.2.2.getD r.1.toNat false,Yc gone i)
def iF (l:List Int):Nat→List (Int×Bool)
 |0=>[]
 |k+1=>dc I (iF l k) (l.getD k 0) true
abbrev Ap:=List cM×av
def tx (c:bP) (inn:iO) (gone:List (Int×Bool)) (s:Ap) (i:Nat):Ap:=
 if(s.1.getD i gR).1=0 then s else
  (s.1.set i (da (s.1.getD i gR) (uQ (aF c i) inn i gone)).1,tw (aF c i) i (da (s.1.getD i gR) (uQ (aF c i) inn i gone)) s.2)
def pz (c:bP) (inn:iO) (gone:List (Int×Bool)) (s:Ap):Nat→Ap
 |0=>s
 |k+1=>tx c inn gone (pz c inn gone s k) k
abbrev xR:=List cM×av×eG×List Int
def nZ (c:bP) (inn:iO) (s:xR) (x:Int):xR:=
 if zj c s.1 s.2.1 s.2.2.1 inn x=0 then
  (s.1.set x.toNat (o8 ((aF c x).2.2.2.1.length:Int)),og s.2.1 x (aF c x),Tu s.2.2.1 (aF c x) inn.1 s.2.1,s.2.2.2++[mh s.2.2.1 (aF c x) inn.1 s.2.1])
 else(s.1,s.2.1,s.2.2.1,s.2.2.2++[zj c s.1 s.2.1 s.2.2.1 inn x])
def uW (c:bP) (inn:iO) (l:List Int) (s:xR):Nat→xR
 |0=>s
 |k+1=>nZ c inn (uW c inn l s k) (l.getD k 0)
def DT (p:ab) (b:av) (e:Nat):Int:=if(p.1.getD e zE).2.1=2 then(lA b (e:Int)).1 else 0
def jo (p:ab) (b:av) (k:Nat):List Int:=(List.range k).map (DT p b)++List.replicate (p.1.length - k) 0
abbrev Qi:=List Int×List Int×List Int
def we (p:ab) (inn:iO):Bool:=inn.1.length==p.1.length&&(inn.2.1.length==p.1.length&&(inn.2.2.1.length==p.2.2.1.length&&inn.2.2.2.length==p.2.2.1.length))
def QE (W:gh) (inn:iO) (calls bw:List Int):xR:=
 uW W.1 (ko W.1.1 inn) calls ((pz W.1 (ko W.1.1 inn) (iF bw bw.length) (W.2.1,W.2.2.1) W.2.1.length).1,(pz W.1 (ko W.1.1 inn) (iF bw bw.length) (W.2.1,W.2.2.1) W.2.1.length).2,W.2.2.2.1,[]) calls.length
@[irreducible] def jU (W:gh) (inn:iO) (calls bw:List Int):gh×Qi×Int:=
 if we W.1.1 inn=true then
  let s:=QE W inn calls bw
  ((W.1,s.1,s.2.1,s.2.2.1,iM W.1 s.1),(iM W.1 s.1,jo W.1.1 s.2.1 W.1.1.1.length,s.2.2.2),0)
 else(W,([],[],[]),1)
theorem Uo (p:ab) (inn:iO):(ko p inn).1.length=inn.1.length∧(ko p inn).2=inn.2:=by
 unfold ko
 refine⟨?_,rfl⟩
 show(nu p inn.1 inn.1.length).length=_
 unfold nu
 rw[List.length_append,List.length_map,List.length_range,List.length_drop]
 omega
theorem JP (r:af) (inn:iO) (i:Int) (gone:List (Int×Bool)):(uQ r inn i gone).1.length=r.2.2.2.1.length:=by unfold uQ;exact List.length_map _
theorem Inv.roads {c:bP} {inn:iO} {gone:List (Int×Bool)} {s:Ap} (h:Inv c s.1 s.2):∀k,k≤c.2.length→Inv c (pz c inn gone s k).1 (pz c inn gone s k).2
 |0,_=>h
 |k+1,hk=>by
  have ih:=Inv.roads (inn:=inn) (gone:=gone) h k (by omega)
  show Inv c (tx c inn gone _ k).1 (tx c inn gone _ k).2
  unfold tx
  split
  ·exact ih
  ·rename_i h0
   exact ih.step (by omega) h0 (JP _ _ _ _)
theorem Inv.calls {c:bP} (hc:lp c) {inn:iO} {l:List Int} {s:xR} (h:Inv c s.1 s.2.1):∀k,Inv c (uW c inn l s k).1 (uW c inn l s k).2.1
 |0=>h
 |k+1=>by
  have ih:=Inv.calls hc (inn:=inn) (l:=l) h k
  show Inv c (nZ c inn _ _).1 (nZ c inn _ _).2.1
  unfold nZ
  split
  ·rename_i h0
   exact(ih.call hc (JN.1 h0)).1
  ·exact ih
theorem BQ {c:bP} {inn:iO} {l:List Int} {s:xR}:∀k,(uW c inn l s k).2.2.1.1=s.2.2.1.1
 |0=>rfl
 |k+1=>by
  have ih:=BQ (c:=c) (inn:=inn) (l:=l) (s:=s) k
  show(nZ c inn _ _).2.2.1.1=_
  unfold nZ
  split
  ·exact ih
  ·exact ih
structure lZ (W:gh):Prop where
 Kv:lp W.1
 inv:Inv W.1 W.2.1 W.2.2.1
 net:gL W.2.2.2.1.1
 asp:W.2.2.2.2.length≤1000
def GJ (S:St) (b:Nat) (l:List (Nat×C)):c5:=
 match find S.bl b with
 |some (.cells cs)=> .cells (l.foldl (fun cs p=>cs.set p.1 p.2) cs)
 |_=> .cells []
def Yu:fq where
 args:=[.row 73 ml]
 outs:=[.row 73 ml]
 pre:=fun(x:List cM×Unit)=>cQ x.1
 fn:=fun(x:List cM×Unit)=>x
def BV:fq where
 args:=[F1]
 outs:=[.row 73 ml]
 pre:=fun(x:gh×Unit)=>lZ x.1
 fn:=fun(x:gh×Unit)=>(x.1.2.1,())
def YL:List Nat:=[1000000,1000001,1000002,1000003,1000004,1000005,1000006,1000007,1000008,1000009]
def a17 (x:gh×Unit):eC:=bj [(3,fun _=>mN x.1.2.1.length 12 3 1000 73 ml (fun _=>x.1.2.1) [0,11] YL)]
def YA:fq where
 args:=[F1]
 outs:=[.row 3 I]
 pre:=fun(x:gh×Unit)=>lZ x.1
 fn:=fun(x:gh×Unit)=>(x.1.2.2.2.2,())
def yh:fq where
 args:=[F1]
 outs:=[v7]
 pre:=fun(x:gh×Unit)=>True
 fn:=fun(x:gh×Unit)=>(x.1.2.2.1,())
def yi:fq where
 args:=[F1]
 outs:=[.aC mH]
 pre:=fun(x:gh×Unit)=>cS x.1.1.1
 fn:=fun(x:gh×Unit)=>((cx x.1.1.1).1,())
def VT:fq where
 args:=[F1,.aC Ql]
 outs:=[.aC Ql]
 pre:=fun(x:gh×iO×Unit)=>x.2.1.1.length=x.1.1.1.1.length∧cQ x.2.1.1
 fn:=fun(x:gh×iO×Unit)=>(ko x.1.1.1 x.2.1,())
def a65 (x:gh×iO×Unit):eC:=bj [(3,fun S=>{
 σ:=Nat
 ok:=fun k=>k≤x.2.1.1.length
 mu:=fun k=>x.2.1.1.length - k
 sl:=fun k=>[(13,.one (.aC I (k:Int)))]
 bl:=fun k=>[(8,.row false 4 .bool (nu x.1.1.1 x.2.1.1 k))]
 keep:=[0,3,4,12]
 cy:=[3,4]++YL})]
def Ce (c:bP) (inn:iO) (i:Int):Prop:=lp c∧(0≤i∧i<(c.2.length:Int))∧inn.1.length=c.1.1.length∧inn.2.1.length=c.1.1.length∧inn.2.2.1.length=c.1.2.2.1.length∧inn.2.2.2.length=c.1.2.2.1.length
abbrev ae9:eQ:= .pair (.row 4 .bool) (.aC (.pair .bool (.pair .bool (.pair .bool (.pair .bool (.pair .bool .bool))))))
def Yr:fq where
 args:=[.aC (.ref Zt),.aC Ql,.aC I,.aC (.map I .bool)]
 outs:=[ae9]
 pre:=fun(x:F3×iO×Int×List (Int×Bool)×Unit)=>Ce x.1.1 x.2.1 x.2.2.1
 fn:=fun(x:F3×iO×Int×List (Int×Bool)×Unit)=>(uQ (aF x.1.1 x.2.2.1) x.2.1 x.2.2.1 x.2.2.2.1,())
 fO:=fun x=>x
def c67:bh where
 args:=[.ref Zt,Ql,I,.map I .bool]
 out:= .fresh [SA]
 pre:=fun(x:F3×iO×Int×List (Int×Bool)×Unit)=>Ce x.1.1 x.2.1 x.2.2.1
 fn:=fun(x:F3×iO×Int×List (Int×Bool)×Unit)=>(uQ (aF x.1.1 x.2.2.1) x.2.1 x.2.2.1 x.2.2.2.1,())
def a67 (x:F3×iO×Int×List (Int×Bool)×Unit):eC:=
 bj [(4,fun S=>{
  σ:=Nat
  ok:=fun k=>k≤(aF x.1.1 x.2.2.1).2.2.2.1.length
  mu:=fun k=>(aF x.1.1 x.2.2.1).2.2.2.1.length - k
  sl:=fun k=>[(47,.one (.aC I (k:Int)))]
  bl:=fun k=>[(10,GJ S 10 [(0,.row .bool 1000),(3,.aC .bool (((aF x.1.1 x.2.2.1).2.2.2.1.take k).all (GW x.2.1.1)))]),(1000,.row false 4 .bool (((aF x.1.1 x.2.2.1).2.2.2.1.take k).map (Ht x.2.1.1)))]
  keep:=[5,8,9,10,45,46]
  cy:=[5,8,9]}),
 (10,fun S=>{
  σ:=Nat
  ok:=fun k=>k≤(aF x.1.1 x.2.2.1).2.2.2.2.2.2.1.length
  mu:=fun k=>(aF x.1.1 x.2.2.1).2.2.2.2.2.2.1.length - k
  sl:=fun k=>[(78,.one (.aC I (k:Int)))]
  bl:=fun k=>[(10,GJ S 10 [(3,.aC .bool ((aF x.1.1 x.2.2.1).2.2.2.1.all (GW x.2.1.1)&&((aF x.1.1 x.2.2.1).2.2.2.2.2.2.1.take k).all (N8 x.2.1.1)))])]
  keep:=[5,8,9,10,76,77]
  cy:=[5,8,9,1000]}),
 (15,fun S=>{
  σ:=Nat
  ok:=fun k=>k≤(bC (aF x.1.1 x.2.2.1)).length
  mu:=fun k=>(bC (aF x.1.1 x.2.2.1)).length - k
  sl:=fun k=>[(101,.one (.aC I (k:Int)))]
  bl:=fun k=>[(10,GJ S 10 [(2,.aC .bool (((bC (aF x.1.1 x.2.2.1)).take k).all (liesAt x.2.1.2.1)))])]
  keep:=[5,8,9,10,99,100]
  cy:=[5,8,9,99,1000]})]
def r9 (W:gh) (inn:iO) (calls bw:List Int):Prop:=lZ W∧calls.length≤1000∧bw.length≤1000
def NF:fq where
 args:=[F1,.aC Ql,.aC (.list I),.aC (.list I)]
 outs:=[.aC (.pair (.list I) (.pair (.list I) (.list I))),.aC I]
 pre:=fun(x:gh×iO×List Int×List Int×Unit)=>r9 x.1 x.2.1 x.2.2.1 x.2.2.2.1
 fn:=fun(x:gh×iO×List Int×List Int×Unit)=>((jU x.1 x.2.1 x.2.2.1 x.2.2.2.1).2.1,(jU x.1 x.2.1 x.2.2.1 x.2.2.2.1).2.2,())
 fO:=fun(x:gh×iO×List Int×List Int×Unit)=>((jU x.1 x.2.1 x.2.2.1 x.2.2.2.1).1,x.2)
def roadsOf (x:gh×iO×List Int×List Int×Unit) (k:Nat):Ap:=pz x.1.1 (ko x.1.1.1 x.2.1) (iF x.2.2.2.1 x.2.2.2.1.length) (x.1.2.1,x.1.2.2.1) k
def bx (x:gh×iO×List Int×List Int×Unit) (k:Nat):xR:=uW x.1.1 (ko x.1.1.1 x.2.1) x.2.2.1 ((roadsOf x x.1.2.1.length).1,(roadsOf x x.1.2.1.length).2,x.1.2.2.2.1,[]) k
def Ni (x:gh×iO×List Int×List Int×Unit) (k:Nat):cM×List Int:=da ((roadsOf x k).1.getD k gR) (uQ (aF x.1.1 (k:Int)) (ko x.1.1.1 x.2.1) (k:Int) (iF x.2.2.2.1 x.2.2.2.1.length))
def gM (x:gh×iO×List Int×List Int×Unit) (i:Int) (k:Nat):av:=pQ (aF x.1.1 i) i (Ni x i.toNat).2 (roadsOf x i.toNat).2 k
def IW (W:gh) (n:Nat):List (Nat×c5):=[
 (1000000,.cells (flat mH W.1++[.row ml n,.ptr 1000002 0,.ptr 1000007 0,.row I (n+1)])),
 (1000002,.cells [.aC I W.2.2.1.1,.map I (.list I) (n+2),.map I (.list I) (n+3),.map I (.list ek) (n+4),.map I (.list ek) (n+5)]),
 (1000007,.cells [.aC (.ptr jn) W.2.2.2.1.1,.map lk .bool (n+6)]),
 (n,.row false 73 ml W.2.1),(n+1,.row false 3 I W.2.2.2.2),
 (n+2,.map false I (.list I) W.2.2.1.2.1 none),(n+3,.map false I (.list I) W.2.2.1.2.2.1 none),(n+4,.map false I (.list ek) W.2.2.1.2.2.2.1 none),(n+5,.map false I (.list ek) W.2.2.1.2.2.2.2 none),
 (n+6,.map false lk .bool W.2.2.2.1.2 none)]
def a26 (x:gh×iO×List Int×List Int×Unit):eC:=bj [
 (7,fun S=>{
  σ:=Nat
  ok:=fun k=>k≤x.2.2.2.1.length
  mu:=fun k=>x.2.2.2.1.length - k
  sl:=fun k=>[(73,.one (.aC I (k:Int)))]
  bl:=fun k=>(70,.map false I .bool (iF x.2.2.2.1 k) none)::IW x.1 2000
  keep:=[0,2,5,8,10,11,12,71,72]
  cy:=[5,8]}),
 (12,fun S=>{
  σ:=Nat
  ok:=fun k=>k≤x.1.2.1.length
  mu:=fun k=>x.1.2.1.length - k
  sl:=fun k=>[(85,.one (.aC I (k:Int)))]
  bl:=fun k=>(70,.map false I .bool (iF x.2.2.2.1 x.2.2.2.1.length) none)::IW (x.1.1,(roadsOf x k).1,(roadsOf x k).2,x.1.2.2.2.1,x.1.2.2.2.2) 2000
  keep:=[0,2,5,8,10,11,12,84]
  cy:=[5,8]}),
 (18,fun S=>{
  σ:=Nat
  ok:=fun k=>k≤(Ni x (dC S 15).toNat).2.length
  mu:=fun k=>(Ni x (dC S 15).toNat).2.length - k
  sl:=fun k=>[(122,.one (.aC I (k:Int)))]
  bl:=fun k=>IW (x.1.1,(roadsOf x (dC S 15).toNat).1.set (dC S 15).toNat (Ni x (dC S 15).toNat).1,gM x (dC S 15) k,x.1.2.2.2.1,x.1.2.2.2.2) 2000
  keep:=[0,2,5,8,10,11,12,15,16,84,85,120,121]
  cy:=[5,8,16,70]}),
 (27,fun S=>{
  σ:=Nat
  ok:=fun k=>k≤x.2.2.1.length
  mu:=fun k=>x.2.2.1.length - k
  sl:=fun k=>[(158,.one (.aC I (k:Int)))]
  bl:=fun k=>(20,GJ S 20 [(2,.row I 1000)])::(1000,.row false 35 I (bx x k).2.2.2)::IW (x.1.1,(bx x k).1,(bx x k).2.1,(bx x k).2.2.1,x.1.2.2.2.2) 2000
  keep:=[0,5,8,10,11,20,156,157]
  cy:=[5,8]}),
 (41,fun S=>{
  σ:=Nat
  ok:=fun k=>k≤x.1.1.1.1.length
  mu:=fun k=>x.1.1.1.1.length - k
  sl:=fun k=>[(248,.one (.aC I (k:Int)))]
  bl:=fun k=>(20,.cells [.row I 1001,.row I 1002,.row I 1000])::(1000,.row false 35 I (bx x x.2.2.1.length).2.2.2)::(1001,.row false 3 I (iM x.1.1 (bx x x.2.2.1.length).1))::(1002,.row false 3 I (jo x.1.1.1 (bx x x.2.2.1.length).2.1 k))::
   IW (x.1.1,(bx x x.2.2.1.length).1,(bx x x.2.2.1.length).2.1,(bx x x.2.2.1.length).2.2.1,iM x.1.1 (bx x x.2.2.1.length).1) 2000
  keep:=[0,8,10,20,247]
  cy:=[8]})]
theorem v57 (l:List (Int×Int×Bool×List Bool)):bN (ah ay []) Tryz.f57 Yu aq (l,())=(
U (List.replicate (0:Nat) ((0:Int),(0:Int),false,[])) fun(y1:List (Int×Int×Bool×List Bool))=>
∀(b2:Bool),(b2=true→l=[])→(b2=true→[]=l∧l=l∧True)∧(b2=false→roomFor (y1.length+l.length) (48:Nat)∧y1++l=l∧l=l∧True)):=by kernel_rfl
theorem ahi:ew Tryz.prog 57 Yu:=
 ew.bZ (l:=[]) (A:=fun _=>aq) aH trivial Tryz.func57 (by kernel_rfl) (by kernel_rfl) fun x hw hp=>by
  obtain⟨l,⟨⟩⟩:=x
  have hp:l.length≤1000:=hp
  rw[v57]
  refine U.mk fun y1 e1 b h=>⟨fun e=>⟨(h e).symm,rfl,trivial⟩,fun _=> ?_⟩
  have e1:y1=[]:=e1
  rw[e1]
  exact⟨c6 (by show 0+_≤_;omega) (by decide),rfl,rfl,trivial⟩
theorem Inv.seen {c:bP} (hc:lp c) {ls:List cM} {b:av} (h:Inv c ls b) (i:Nat):(ls.getD i gR).2.2.2.length≤12:=by
 by_cases hi:i<c.2.length
 ·have hr:=(hc.qF _ (jN (c:=c) (o:=(i:Int)) (by omega))).len.2
  rcases h.Fu i hi with e|e
  ·rw[e];exact Nat.zero_le _
  ·rw[e.2.2.1];exact hr
 ·rw[List.getD_eq_getElem?_getD,List.getElem?_eq_none (by rw[h.len];omega)]
  exact Nat.zero_le _
def Zo (W:((ab)×List (af))×List (Int×Int×Bool×List Bool)×(av)×(Option (aX)×List ((Int×Int)×Bool))×List Int) (R:Prop):Prop:=(↑W.snd.fst.length:Int)=(↑W.snd.fst.length:Int)∧W.snd.fst=W.snd.fst∧W.fst.fst.fst=W.fst.fst.fst∧W.fst.fst.snd.fst=W.fst.fst.snd.fst∧W.fst.fst.snd.snd.fst=W.fst.fst.snd.snd.fst∧W.fst.fst.snd.snd.snd.fst=W.fst.fst.snd.snd.snd.fst∧W.fst.fst.snd.snd.snd.snd.fst=W.fst.fst.snd.snd.snd.snd.fst∧W.fst.fst.snd.snd.snd.snd.snd.fst=W.fst.fst.snd.snd.snd.snd.snd.fst∧W.fst.fst.snd.snd.snd.snd.snd.snd.fst=W.fst.fst.snd.snd.snd.snd.snd.snd.fst∧W.fst.fst.snd.snd.snd.snd.snd.snd.snd.fst=W.fst.fst.snd.snd.snd.snd.snd.snd.snd.fst∧W.fst.fst.snd.snd.snd.snd.snd.snd.snd.snd=W.fst.fst.snd.snd.snd.snd.snd.snd.snd.snd∧W.fst.snd=W.fst.snd∧W.snd.fst=W.snd.fst∧W.snd.snd.fst.fst=W.snd.snd.fst.fst∧W.snd.snd.fst.snd.fst=W.snd.snd.fst.snd.fst∧W.snd.snd.fst.snd.snd.fst=W.snd.snd.fst.snd.snd.fst∧W.snd.snd.fst.snd.snd.snd.fst=W.snd.snd.fst.snd.snd.snd.fst∧W.snd.snd.fst.snd.snd.snd.snd=W.snd.snd.fst.snd.snd.snd.snd∧W.snd.snd.snd.fst.fst=W.snd.snd.snd.fst.fst∧W.snd.snd.snd.fst.snd=W.snd.snd.snd.fst.snd∧W.snd.snd.snd.snd=W.snd.snd.snd.snd∧R
def Zn (W:((ab)×List (af))×List (Int×Int×Bool×List Bool)×(av)×(Option (aX)×List ((Int×Int)×Bool))×List Int) (R:Prop):Prop:=W.fst.fst.fst=W.fst.fst.fst∧W.fst.fst.snd.fst=W.fst.fst.snd.fst∧W.fst.fst.snd.snd.fst=W.fst.fst.snd.snd.fst∧W.fst.fst.snd.snd.snd.fst=W.fst.fst.snd.snd.snd.fst∧W.fst.fst.snd.snd.snd.snd.fst=W.fst.fst.snd.snd.snd.snd.fst∧W.fst.fst.snd.snd.snd.snd.snd.fst=W.fst.fst.snd.snd.snd.snd.snd.fst∧W.fst.fst.snd.snd.snd.snd.snd.snd.fst=W.fst.fst.snd.snd.snd.snd.snd.snd.fst∧W.fst.fst.snd.snd.snd.snd.snd.snd.snd.fst=W.fst.fst.snd.snd.snd.snd.snd.snd.snd.fst∧W.fst.fst.snd.snd.snd.snd.snd.snd.snd.snd=W.fst.fst.snd.snd.snd.snd.snd.snd.snd.snd∧W.fst.snd=W.fst.snd∧W.snd.fst=W.snd.fst∧W.snd.snd.fst.fst=W.snd.snd.fst.fst∧W.snd.snd.fst.snd.fst=W.snd.snd.fst.snd.fst∧W.snd.snd.fst.snd.snd.fst=W.snd.snd.fst.snd.snd.fst∧W.snd.snd.fst.snd.snd.snd.fst=W.snd.snd.fst.snd.snd.snd.fst∧W.snd.snd.fst.snd.snd.snd.snd=W.snd.snd.fst.snd.snd.snd.snd∧W.snd.snd.snd.fst.fst=W.snd.snd.snd.fst.fst∧W.snd.snd.snd.fst.snd=W.snd.snd.snd.fst.snd∧W.snd.snd.snd.snd=W.snd.snd.snd.snd∧R
def Zm (W:((ab)×List (af))×List (Int×Int×Bool×List Bool)×(av)×(Option (aX)×List ((Int×Int)×Bool))×List Int) (R:Prop):Prop:=W.fst=W.fst∧W.snd.fst=W.snd.fst∧W.snd.snd.fst.fst=W.snd.snd.fst.fst∧R
theorem v17 (W:((ab)×List (af))×List (Int×Int×Bool×List Bool)×(av)×(Option (aX)×List ((Int×Int)×Bool))×List Int):bN (ah ay [(57,Yu),(58,IM)]) Tryz.f17 BV (a17 (W,())) (W,())=(
U ((0:Int),(0:Int),false,[]) fun(y1:Int×Int×Bool×List Bool)=>
cQ W.2.1∧
(∃(dp:Nat),dp≤W.2.1.length∧
(↑dp:Int)=(0:Int)∧Zo W (True))∧∀(s2:Nat),U (decide ((↑s2:Int)<(↑W.2.1.length:Int))) fun(y3:Bool)=>
U (W.2.1.getD (↑s2:Int).toNat y1) fun(y4:Int×Int×Bool×List Bool)=>
s2≤W.2.1.length→
(y3=true→aQ (↑s2:Int) W.2.1.length∧cQ y4.2.2.2∧aQ (↑s2:Int) W.2.1.length∧bq IntKind.i64 ((↑s2:Int)+(1:Int))∧∃(fQ:Nat),fQ≤W.2.1.length∧W.2.1.length - fQ<W.2.1.length - s2∧
(↑fQ:Int)=(↑s2:Int)+(1:Int)∧
(↑W.2.1.length:Int)=(↑W.2.1.length:Int)∧W.2.1=W.2.1.set (↑s2:Int).toNat y4∧Zn W (True))∧
(y3=false→W.2.1=W.2.1∧Zm W (W.2.2.1.2.1.Perm W.2.2.1.2.1∧W.2.2.1.2.2.1.Perm W.2.2.1.2.2.1∧W.2.2.1.2.2.2.1.Perm W.2.2.1.2.2.2.1∧W.2.2.1.2.2.2.2.Perm W.2.2.1.2.2.2.2∧W.2.2.2.1.1=W.2.2.2.1.1∧W.2.2.2.1.2.Perm W.2.2.2.1.2∧W.2.2.2.2=W.2.2.2.2∧True))):=by kernel_rfl
theorem b17 (W:gh) (hp:lZ W):bN (ah ay [(57,Yu),(58,IM)]) Tryz.f17 BV (a17 (W,())) (W,()):=by
 have hl:W.2.1.length≤64:=by rw[hp.inv.len];exact hp.Kv.Nr
 rw[v17]
 simp only[Zo,Zn,Zm,true_and,and_true,eq_self,List.Perm.refl]
 refine U.mk fun y1 e1=>⟨by show _≤_;omega,⟨0,Nat.zero_le _,rfl⟩,fun s=>U.mk fun y3 e3=>U.mk fun y4 e4 hs=>⟨fun h=> ?_,fun _=>trivial⟩⟩
 rw[e3] at h
 have h:=of_decide_eq_true h
 rw[Int.toNat_natCast] at *
 have e4:y4=W.2.1.getD s gR:=by rw[e4,e1];rfl
 refine⟨⟨by omega,by omega⟩,?_,⟨by omega,by omega⟩,bg (by omega) (by omega),s+1,by omega,by omega,by omega,?_⟩
 ·rw[e4]
  have:=hp.inv.seen hp.Kv s
  show _≤1000
  omega
 ·rw[e4,DZ (d:=gR) (by omega) rfl]
theorem abh:ew Tryz.prog 17 BV:=
 ew.bZ (l:=[(57,Yu),(58,IM)]) (A:=a17) aH ⟨ahi,WO,trivial⟩ Tryz.func17 (by kernel_rfl) (by kernel_rfl) fun x hw hp=>b17 x.1 hp
def Zl (W:((ab)×List (af))×List (Int×Int×Bool×List Bool)×(av)×(Option (aX)×List ((Int×Int)×Bool))×List Int) (R:Prop):Prop:=W.snd.snd.snd.snd=W.snd.snd.snd.snd∧W.fst=W.fst∧W.snd.fst=W.snd.fst∧W.snd.snd.fst.fst=W.snd.snd.fst.fst∧R
theorem v18 (W:((ab)×List (af))×List (Int×Int×Bool×List Bool)×(av)×(Option (aX)×List ((Int×Int)×Bool))×List Int):bN (ah ay [(59,IL)]) Tryz.f18 YA aq (W,())=(
cQ W.2.2.2.2∧Zl W (W.2.2.1.2.1.Perm W.2.2.1.2.1∧W.2.2.1.2.2.1.Perm W.2.2.1.2.2.1∧W.2.2.1.2.2.2.1.Perm W.2.2.1.2.2.2.1∧W.2.2.1.2.2.2.2.Perm W.2.2.1.2.2.2.2∧W.2.2.2.1.1=W.2.2.2.1.1∧W.2.2.2.1.2.Perm W.2.2.2.1.2∧W.2.2.2.2=W.2.2.2.2∧True)):=by kernel_rfl
theorem ahz:ew Tryz.prog 18 YA:=
 ew.bZ (l:=[(59,IL)]) (A:=fun _=>aq) aH ⟨S4,trivial⟩ Tryz.func18 (by kernel_rfl) (by kernel_rfl) fun x hw hp=>by
  obtain⟨W,⟨⟩⟩:=x
  have hp:lZ W:=hp
  rw[v18]
  simp only[Zl,true_and,and_true,eq_self,List.Perm.refl]
  exact hp.asp
def Zk (W:((ab)×List (af))×List (Int×Int×Bool×List Bool)×(av)×(Option (aX)×List ((Int×Int)×Bool))×List Int) (R:Prop):Prop:=W.fst=W.fst∧W.snd.fst=W.snd.fst∧W.snd.snd.fst.fst=W.snd.snd.fst.fst∧R
theorem v19 (W:((ab)×List (af))×List (Int×Int×Bool×List Bool)×(av)×(Option (aX)×List ((Int×Int)×Bool))×List Int):bN (ah ay [(60,c60)]) Tryz.f19 yh aq (W,())=(
True∧W.2.2.1.1=W.2.2.1.1∧W.2.2.1.2.1.Perm W.2.2.1.2.1∧W.2.2.1.2.2.1.Perm W.2.2.1.2.2.1∧W.2.2.1.2.2.2.1.Perm W.2.2.1.2.2.2.1∧W.2.2.1.2.2.2.2.Perm W.2.2.1.2.2.2.2∧Zk W (W.2.2.1.2.1.Perm W.2.2.1.2.1∧W.2.2.1.2.2.1.Perm W.2.2.1.2.2.1∧W.2.2.1.2.2.2.1.Perm W.2.2.1.2.2.2.1∧W.2.2.1.2.2.2.2.Perm W.2.2.1.2.2.2.2∧W.2.2.2.1.1=W.2.2.2.1.1∧W.2.2.2.1.2.Perm W.2.2.2.1.2∧W.2.2.2.2=W.2.2.2.2∧True)):=by kernel_rfl
theorem ahy:ew Tryz.prog 19 yh:=
 ew.bZ (l:=[(60,c60)]) (A:=fun _=>aq) aH ⟨ahh,trivial⟩ Tryz.func19 (by kernel_rfl) (by kernel_rfl) fun x hw hp=>by
  obtain⟨W,⟨⟩⟩:=x
  rw[v19]
  simp only[Zk,true_and,and_true,eq_self,List.Perm.refl]
def Zp (W:((ab)×List (af))×List (Int×Int×Bool×List Bool)×(av)×(Option (aX)×List ((Int×Int)×Bool))×List Int) (R:Prop):Prop:=(cx W.fst.fst).fst=(cx W.fst.fst).fst∧W.fst=W.fst∧W.snd.fst=W.snd.fst∧W.snd.snd.fst.fst=W.snd.snd.fst.fst∧R
theorem v16 (W:((ab)×List (af))×List (Int×Int×Bool×List Bool)×(av)×(Option (aX)×List ((Int×Int)×Bool))×List Int):bN (ah ay [(44,P2)]) Tryz.f16 yi aq (W,())=(
cS W.1.1∧Zp W (W.2.2.1.2.1.Perm W.2.2.1.2.1∧W.2.2.1.2.2.1.Perm W.2.2.1.2.2.1∧W.2.2.1.2.2.2.1.Perm W.2.2.1.2.2.2.1∧W.2.2.1.2.2.2.2.Perm W.2.2.1.2.2.2.2∧W.2.2.2.1.1=W.2.2.2.1.1∧W.2.2.2.1.2.Perm W.2.2.2.1.2∧W.2.2.2.2=W.2.2.2.2∧True)):=by kernel_rfl
theorem ahA:ew Tryz.prog 16 yi:=
 ew.bZ (l:=[(44,P2)]) (A:=fun _=>aq) aH ⟨abc,trivial⟩ Tryz.func16 (by kernel_rfl) (by kernel_rfl) fun x hw hp=>by
  obtain⟨W,⟨⟩⟩:=x
  rw[v16]
  simp only[Zp,true_and,and_true,eq_self,List.Perm.refl]
  exact hp
theorem Oa (p:ab) (iC:List Bool) {k:Nat} (h:k≤iC.length):(nu p iC k).length=iC.length:=by
 unfold nu
 rw[List.length_append,List.length_map,List.length_range,List.length_drop]
 omega
theorem QD (p:ab) (iC:List Bool) {k:Nat} (h:k<iC.length):(nu p iC k).getD k false=iC.getD k false:=by
 unfold nu
 rw[List.getD_eq_getElem?_getD,List.getElem?_append_right (by simp),List.length_map,List.length_range,Nat.sub_self,List.getElem?_drop,List.getD_eq_getElem?_getD]
 rfl
theorem L4 (p:ab) (iC:List Bool) {k:Nat} (h:k<iC.length):nu p iC (k+1)=(nu p iC k).set k (Hs p iC k):=by
 unfold nu
 rw[List.set_append_right _ _ (by simp),List.length_map,List.length_range,Nat.sub_self,List.range_succ,List.map_append,List.append_assoc,List.drop_eq_getElem_cons h,List.set_cons_zero]
 rfl
def SD (inn:List Bool×List Int×List Bool×List Bool) (W:((ab)×List (af))×List (Int×Int×Bool×List Bool)×(av)×(Option (aX)×List ((Int×Int)×Bool))×List Int) (R:Prop):Prop:=inn.snd.fst=inn.snd.fst∧inn.snd.snd.fst=inn.snd.snd.fst∧inn.snd.snd.snd=inn.snd.snd.snd∧W.fst.fst.fst=W.fst.fst.fst∧W.fst.fst.snd.fst=W.fst.fst.snd.fst∧W.fst.fst.snd.snd.fst=W.fst.fst.snd.snd.fst∧W.fst.fst.snd.snd.snd.fst=W.fst.fst.snd.snd.snd.fst∧W.fst.fst.snd.snd.snd.snd.fst=W.fst.fst.snd.snd.snd.snd.fst∧W.fst.fst.snd.snd.snd.snd.snd.fst=W.fst.fst.snd.snd.snd.snd.snd.fst∧W.fst.fst.snd.snd.snd.snd.snd.snd.fst=W.fst.fst.snd.snd.snd.snd.snd.snd.fst∧W.fst.fst.snd.snd.snd.snd.snd.snd.snd.fst=W.fst.fst.snd.snd.snd.snd.snd.snd.snd.fst∧W.fst.fst.snd.snd.snd.snd.snd.snd.snd.snd=W.fst.fst.snd.snd.snd.snd.snd.snd.snd.snd∧W.fst.snd=W.fst.snd∧W.snd.fst=W.snd.fst∧W.snd.snd.fst.fst=W.snd.snd.fst.fst∧W.snd.snd.fst.snd.fst=W.snd.snd.fst.snd.fst∧W.snd.snd.fst.snd.snd.fst=W.snd.snd.fst.snd.snd.fst∧W.snd.snd.fst.snd.snd.snd.fst=W.snd.snd.fst.snd.snd.snd.fst∧W.snd.snd.fst.snd.snd.snd.snd=W.snd.snd.fst.snd.snd.snd.snd∧W.snd.snd.snd.fst.fst=W.snd.snd.snd.fst.fst∧W.snd.snd.snd.fst.snd=W.snd.snd.snd.fst.snd∧W.snd.snd.snd.snd=W.snd.snd.snd.snd∧R
def Ze (W:((ab)×List (af))×List (Int×Int×Bool×List Bool)×(av)×(Option (aX)×List ((Int×Int)×Bool))×List Int) (R:Prop):Prop:=W.fst=W.fst∧W.snd.fst=W.snd.fst∧W.snd.snd.fst.fst=W.snd.snd.fst.fst∧R
theorem v65 (W:((ab)×List (af))×List (Int×Int×Bool×List Bool)×(av)×(Option (aX)×List ((Int×Int)×Bool))×List Int) (inn:List Bool×List Int×List Bool×List Bool):bN (ah ay [(58,IM)]) Tryz.f65 VT (a65 (W,inn,())) (W,inn,())=(
cQ inn.1∧
(∃(dp:Nat),dp≤inn.1.length∧
(↑dp:Int)=(0:Int)∧
(↑inn.1.length:Int)=(↑inn.1.length:Int)∧nu W.1.1 inn.1 dp=inn.1∧SD inn W (True))∧∀(s2:Nat),U (decide ((↑s2:Int)<(↑inn.1.length:Int))) fun(y3:Bool)=>
U (nu W.1.1 inn.1 s2) fun(y4:List Bool)=>
U (y4.getD (↑s2:Int).toNat false) fun(y5:Bool)=>
s2≤inn.1.length→
(y3=true→aQ (↑s2:Int) y4.length∧
(y5=true→aQ (↑s2:Int) W.1.1.1.length)∧aQ (↑s2:Int) y4.length∧bq IntKind.i64 ((↑s2:Int)+(1:Int))∧∃(eR:Nat),eR≤inn.1.length∧inn.1.length - eR<inn.1.length - s2∧
(↑eR:Int)=(↑s2:Int)+(1:Int)∧
(↑inn.1.length:Int)=(↑inn.1.length:Int)∧nu W.1.1 inn.1 eR=y4.set (↑s2:Int).toNat (bif y5 then(W.1.1.1.getD (↑s2:Int).toNat ([],(0:Int),(0:Int))).2.1 !=(4:Int) else false)∧SD inn W (True))∧
(y3=false→
(y4,inn.2)=ko W.1.1 inn∧Ze W (W.2.2.1.2.1.Perm W.2.2.1.2.1∧W.2.2.1.2.2.1.Perm W.2.2.1.2.2.1∧W.2.2.1.2.2.2.1.Perm W.2.2.1.2.2.2.1∧W.2.2.1.2.2.2.2.Perm W.2.2.1.2.2.2.2∧W.2.2.2.1.1=W.2.2.2.1.1∧W.2.2.2.1.2.Perm W.2.2.2.1.2∧W.2.2.2.2=W.2.2.2.2∧True))):=by kernel_rfl
theorem b65 (W:gh) (inn:iO) (hp:inn.1.length=W.1.1.1.length∧inn.1.length≤1000):bN (ah ay [(58,IM)]) Tryz.f65 VT (a65 (W,inn,())) (W,inn,()):=by
 rw[v65]
 simp only[SD,Ze,true_and,and_true,eq_self,List.Perm.refl]
 refine⟨hp.2,⟨0,Nat.zero_le _,rfl,by unfold nu;rfl⟩,fun s=>U.mk fun y3 e3=>U.mk fun y4 e4=>U.mk fun y5 e5 hs=>⟨fun h=> ?_,fun h=> ?_⟩⟩
 ·rw[e3] at h
  have h:=of_decide_eq_true h
  have dK:s<inn.1.length:=by omega
  have hl4:y4.length=inn.1.length:=by rw[e4];exact Oa _ _ hs
  rw[Int.toNat_natCast] at *
  have e5:y5=inn.1.getD s false:=by rw[e5,e4];exact QD _ _ dK
  refine⟨⟨by omega,by omega⟩,fun _=>⟨by omega,by omega⟩,⟨by omega,by omega⟩,bg (by omega) (by omega),s+1,by omega,by omega,by omega,?_⟩
  rw[L4 _ _ dK,←e4,e5]
  unfold Hs
  have key:∀a b:Bool,(a&& !b)=bif a then !b else false:=by decide
  rw[key]
  rfl
 ·rw[e3] at h
  have h:=of_decide_eq_false h
  have:s=inn.1.length:=by omega
  rw[e4,this]
  unfold ko
  rfl
theorem ahe:ew Tryz.prog 65 VT:=
 ew.bZ (l:=[(58,IM)]) (A:=a65) aH ⟨WO,trivial⟩ Tryz.func65 (by kernel_rfl) (by kernel_rfl) fun x hw hp=>b65 x.1 x.2.1 hp
theorem EE {α:Type} (f:α→Bool) (l:List α) (d:α) {k:Nat} (h:k<l.length):(l.take (k+1)).all f=((l.take k).all f&&f (l.getD k d)):=by
 rw[eM d h,List.all_append,List.all_cons,List.all_nil,Bool.and_true]
theorem Aj (a b:Bool):(bif a then b else false)=(a&&b):=by cases a<;>rfl
def NW (y4:af) (y6:Bool) (R:Prop):Prop:=y4.snd.snd.snd.fst=y4.snd.snd.snd.fst∧(↑y4.snd.snd.snd.fst.length:Int)=(↑y4.snd.snd.snd.fst.length:Int)∧y6=y6∧true=true∧R
def NV (y7:Bool) (y8:Bool) (y9:Bool) (R:Prop):Prop:=y7=y7∧y8=y8∧y9=y9∧R
def NU (inn:List Bool×List Int×List Bool×List Bool) (R:Prop):Prop:=inn.fst=inn.fst∧inn.snd.fst=inn.snd.fst∧inn.snd.snd.fst=inn.snd.snd.fst∧inn.snd.snd.snd=inn.snd.snd.snd∧false=false∧false=false∧false=false∧false=false∧false=false∧false=false∧R
def NT (y4:af) (y6:Bool) (R:Prop):Prop:=y4.snd.snd.snd.snd.snd.snd.fst=y4.snd.snd.snd.snd.snd.snd.fst∧(↑y4.snd.snd.snd.snd.snd.snd.fst.length:Int)=(↑y4.snd.snd.snd.snd.snd.snd.fst.length:Int)∧y6=y6∧true=true∧R
def NS (y7:Bool) (y8:Bool) (y9:Bool) (inn:List Bool×List Int×List Bool×List Bool) (R:Prop):Prop:=y7=y7∧y8=y8∧y9=y9∧inn.fst=inn.fst∧inn.snd.fst=inn.snd.fst∧inn.snd.snd.fst=inn.snd.snd.fst∧inn.snd.snd.snd=inn.snd.snd.snd∧false=false∧false=false∧false=false∧false=false∧false=false∧false=false∧R
def NR (eX:Bool) (y7:Bool) (y8:Bool) (y9:Bool) (inn:List Bool×List Int×List Bool×List Bool) (R:Prop):Prop:=eX=eX∧y7=y7∧y8=y8∧y9=y9∧inn.fst=inn.fst∧inn.snd.fst=inn.snd.fst∧inn.snd.snd.fst=inn.snd.snd.fst∧inn.snd.snd.snd=inn.snd.snd.snd∧false=false∧false=false∧false=false∧false=false∧false=false∧false=false∧R
theorem afG (b:((ab)×List (af))×List (Int×Int×Bool×List Bool)×Option (av)×Option (Option (aX)×List ((Int×Int)×Bool))×List Int) (inn:List Bool×List Int×List Bool×List Bool) (i:Int) (gone:List (Int×Bool)):bN (ah ay [(76,BR)]) Tryz.f67 Yr (a67 (b,inn,i,gone,())) (b,inn,i,gone,())=(
U (b.1.2.getD i.toNat ((0:Int),(0:Int),(0:Int),[],[],[],[],[],false)) fun(y4:af)=>
U (aF b.1 i).2.2.2 fun(y5:List cv×List aY×List aY×List Int×List Int×Bool)=>
U (y4.2.2.1==(2:Int)) fun(y6:Bool)=>
U (inn.2.2.1.getD y4.1.toNat false) fun(y7:Bool)=>
U (inn.2.2.2.getD y4.1.toNat false) fun(y8:Bool)=>
U ((aT I gone i).getD false) fun(y9:Bool)=>
U (y5.1.all (GW inn.1)) fun(bp:Bool)=>
U (bC (aF b.1 i)).length fun(bI:Nat)=>
U (y4.2.2.2.2.1++y4.2.2.2.2.2.1) fun(aw:List (Int×Int))=>
U (uQ (aF b.1 i) inn i gone) fun(cb:kN)=>
aQ i b.1.2.length∧aQ y4.1 inn.2.2.1.length∧aQ y4.1 inn.2.2.2.length∧
(∃(Fb:Nat),Fb≤y5.1.length∧
(↑Fb:Int)=(0:Int)∧NW y4 y6 ((List.take Fb y5.1).all (GW inn.1)=true∧NV y7 y8 y9 (List.map (Ht inn.1) (List.take Fb y5.1)=[]∧NU inn (aE y4 (True)))))∧∀(u7:Nat),U (decide ((↑u7:Int)<(↑y4.2.2.2.1.length:Int))) fun(bz:Bool)=>
U (y4.2.2.2.1.getD (↑u7:Int).toNat ((0:Int),(0:Int),(0:Int))).1 fun(cT:Int)=>
U (List.map (Ht inn.1) (List.take u7 y5.1)) fun(cF:List Bool)=>
U (inn.1.getD cT.toNat false) fun(dI:Bool)=>
U ((List.replicate (1:Nat) false).set (0:Nat) dI) fun(fC:List Bool)=>
U ((List.take u7 y5.1).all (GW inn.1)) fun(dJ:Bool)=>
u7≤y5.1.length→
(bz=true→aQ (↑u7:Int) y4.2.2.2.1.length∧aQ cT inn.1.length∧roomFor (cF.length+fC.length) (1:Nat)∧
(dJ=true→aQ cT inn.1.length)∧bq IntKind.i64 ((↑u7:Int)+(1:Int))∧∃(Ot:Nat),Ot≤y5.1.length∧y5.1.length - Ot<y5.1.length - u7∧
(↑Ot:Int)=(↑u7:Int)+(1:Int)∧NW y4 y6 (((List.take Ot y5.1).all (GW inn.1)=bif dJ then !dI else false)∧NV y7 y8 y9 (List.map (Ht inn.1) (List.take Ot y5.1)=cF++fC∧NU inn (aE y4 (True)))))∧
(bz=false→
(∃(Wx:Nat),Wx≤y5.2.2.2.1.length∧
(↑Wx:Int)=(0:Int)∧NT y4 y6 ((bp&&(List.take Wx y5.2.2.2.1).all (N8 inn.1))=dJ∧NS y7 y8 y9 inn (aE y4 (cF=cF∧True))))∧∀(Om:Nat),U (decide ((↑Om:Int)<(↑y4.2.2.2.2.2.2.1.length:Int))) fun(dG:Bool)=>
U (bp&&(List.take Om y5.2.2.2.1).all (N8 inn.1)) fun(eX:Bool)=>
U (y4.2.2.2.2.2.2.1.getD (↑Om:Int).toNat (0:Int)) fun(gS:Int)=>
Om≤y5.2.2.2.1.length→
(dG=true→aQ (↑Om:Int) y4.2.2.2.2.2.2.1.length∧
(eX=true→aQ gS inn.1.length)∧bq IntKind.i64 ((↑Om:Int)+(1:Int))∧∃(rj:Nat),rj≤y5.2.2.2.1.length∧y5.2.2.2.1.length - rj<y5.2.2.2.1.length - Om∧
(↑rj:Int)=(↑Om:Int)+(1:Int)∧NT y4 y6 (((bp&&(List.take rj y5.2.2.2.1).all (N8 inn.1))=bif eX then !inn.1.getD gS.toNat false else false)∧NS y7 y8 y9 inn (aE y4 (cF=cF∧True))))∧
(dG=false→cQ y4.2.2.2.2.1∧roomFor (y4.2.2.2.2.1.length+y4.2.2.2.2.2.1.length) (16:Nat)∧
(∃(J0:Nat),J0≤bI∧
(↑J0:Int)=(0:Int)∧
(↑aw.length:Int)=(↑aw.length:Int)∧y6=y6∧
(List.take J0 (bC (aF b.1 i))).all (YtjnappfomhkeeaaGreat.liesAt inn.2.1)=true∧NR eX y7 y8 y9 inn (aE y4 (aw=aw∧cF=cF∧True)))∧∀(yw:Nat),U (decide ((↑yw:Int)<(↑aw.length:Int))) fun(lK:Bool)=>
U ((List.take yw (bC (aF b.1 i))).all (YtjnappfomhkeeaaGreat.liesAt inn.2.1)) fun(l8:Bool)=>
U (aw.getD (↑yw:Int).toNat ((0:Int),(0:Int))) fun(ym:Int×Int)=>
yw≤bI→
(lK=true→aQ (↑yw:Int) aw.length∧
(l8=true→aQ ym.1 inn.2.1.length)∧bq IntKind.i64 ((↑yw:Int)+(1:Int))∧∃(SS:Nat),SS≤bI∧bI - SS<bI - yw∧
(↑SS:Int)=(↑yw:Int)+(1:Int)∧
(↑aw.length:Int)=(↑aw.length:Int)∧y6=y6∧
((List.take SS (bC (aF b.1 i))).all (YtjnappfomhkeeaaGreat.liesAt inn.2.1)=bif l8 then inn.2.1.getD ym.1.toNat (0:Int)==ym.2 else false)∧NR eX y7 y8 y9 inn (aE y4 (aw=aw∧cF=cF∧True)))∧
(lK=false→cF=cb.1∧
(y6,l8,eX,y7,y8,y9)=cb.2∧True)))):=by kernel_rfl
theorem b67 (b:F3) (inn:iO) (i:Int) (gone:List (Int×Bool)) (hp:Ce b.1 inn i):bN (ah ay [(76,BR)]) Tryz.f67 Yr (a67 (b,inn,i,gone,())) (b,inn,i,gone,()):=by
 obtain⟨hc,hi,h1,h2,h3,h4⟩:=hp
 have hr:=hc.qF _ (jN hi)
 have AE:=hc.elems
 have Vg:=hc.sigs
 rw[afG]
 simp only[NW,NV,NU,NT,NS,NR,true_and,and_true,eq_self,List.Perm.refl]
 refine U.mk fun y4 e4=>U.mk fun y5 e5=>U.mk fun y6 e6=>U.mk fun y7 e7=>U.mk fun y8 e8=>U.mk fun y9 e9=>U.mk fun bp du=>U.mk fun bI eH=>U.mk fun aw dM=>U.mk fun cb hX=> ?_
 have e4:y4=aF b.1 i:=e4
 have Yk:y4.2.2.2=y5:=by rw[e4,e5]
 rw[Yk]
 rw[←e4] at hr e5 eH hX ⊢
 have M4:=hr
 obtain⟨g1,g2,g3,g4,g5,g6,g7,g8,g9,_,_⟩:=hr
 rw[←e5] at g2 g3 g5 g6 g7 g9
 have xY:aw=bC y4:=by rw[dM];unfold bC;rfl
 have anH:bI≤2000:=by rw[eH];unfold bC;rw[List.length_append];rw[Yk];omega
 rw[←xY] at eH g8
 simp only[dz,and_true]
 refine⟨⟨hi.1,hi.2⟩,⟨g1.1,by omega⟩,⟨g1.1,by omega⟩,⟨0,Nat.zero_le _,rfl,rfl,rfl⟩,fun s=>U.mk fun bz gJ=>U.mk fun cT kT=>U.mk fun cF iN=>U.mk fun dI m8=>U.mk fun fC nH=>U.mk fun dJ pb hs=>⟨fun h=> ?_,fun h=> ?_⟩⟩
 ·rw[gJ] at h
  have h:=of_decide_eq_true h
  have dK:s<y5.1.length:=by omega
  rw[Int.toNat_natCast] at *
  have hm:=g3 _ (fw ((0:Int),(0:Int),(0:Int)) dK)
  rw[←kT] at hm
  have nH:fC=[dI]:=nH
  have anE:cF.length=s:=by rw[iN,List.length_map,List.length_take];omega
  refine⟨⟨by omega,by omega⟩,⟨by omega,by omega⟩,c6 (by rw[nH];show _+1≤_;omega) (by decide),fun _=>⟨by omega,by omega⟩,bg (by omega) (by omega),s+1,by omega,by omega,by omega,?_,?_⟩
  ·rw[EE _ _ ((0:Int),(0:Int),(0:Int)) dK,←pb,Aj,m8,kT]
   rfl
  ·rw[eM ((0:Int),(0:Int),(0:Int)) dK,List.map_append,←iN,nH,m8,kT]
   rfl
 ·rw[gJ] at h
  have h:=of_decide_eq_false h
  have Bx:s=y5.1.length:=by omega
  subst Bx
  rw[List.take_length] at iN pb
  refine⟨⟨0,Nat.zero_le _,rfl,by rw[pb,du];exact Bool.and_true _⟩,fun t=>U.mk fun dG sB=>U.mk fun eX xJ=>U.mk fun gS wQ ht=>⟨fun h=> ?_,fun h=> ?_⟩⟩
  ·rw[sB] at h
   have h:=of_decide_eq_true h
   have dK:t<y5.2.2.2.1.length:=by omega
   rw[Int.toNat_natCast] at *
   have hm:=(g5 _ (fw (0:Int) dK)).1
   rw[←wQ] at hm
   refine⟨⟨by omega,by omega⟩,fun _=>⟨by omega,by omega⟩,bg (by omega) (by omega),t+1,by omega,by omega,by omega,?_⟩
   rw[EE _ _ (0:Int) dK,←Bool.and_assoc,←xJ,Aj,wQ]
   rfl
  ·rw[sB] at h
   have h:=of_decide_eq_false h
   have ht1:t=y5.2.2.2.1.length:=by omega
   subst ht1
   rw[List.take_length] at xJ
   refine⟨g9.1,c6 (by omega) (by decide),⟨0,Nat.zero_le _,rfl,rfl⟩,fun u=>U.mk fun lK BN=>U.mk fun l8 Dg=>U.mk fun ym Sf hu=>⟨fun h=> ?_,fun h=> ?_⟩⟩
   ·rw[BN] at h
    have h:=of_decide_eq_true h
    have dK:u<aw.length:=by omega
    rw[Int.toNat_natCast] at *
    have hm:=(g8.each _ (fw ((0:Int),(0:Int)) dK))
    rw[←Sf] at hm
    refine⟨⟨by omega,by omega⟩,fun _=>⟨by omega,by omega⟩,bg (by omega) (by omega),u+1,by omega,by omega,by omega,?_⟩
    rw[←xY] at Dg ⊢
    rw[EE _ _ ((0:Int),(0:Int)) dK,←Dg,Aj,Sf]
    rfl
   ·rw[BN] at h
    have h:=of_decide_eq_false h
    have XB:u=aw.length:=by omega
    subst XB
    rw[←xY,List.take_length] at Dg
    rw[hX,iN,Dg,xJ,du,e6,e7,e8,e9,e5,xY]
    unfold uQ
    exact⟨rfl,rfl⟩
theorem ab4:ew Tryz.prog 67 Yr:=
 ew.bZ (l:=[(76,BR)]) (A:=a67) aH ⟨OM,trivial⟩ Tryz.func67 (by kernel_rfl) (by kernel_rfl) fun x hw hp=>b67 x.1 x.2.1 x.2.2.1 x.2.2.2.1 hp
theorem ahc:aM Tryz.prog 67 c67:=ew.Ja rfl rfl ab4
theorem PV {p:ab} {r:af} (hg:EM p r) (k:Nat):(lW r k).1.length≤1000∧(lW r k).2.1.length≤1000∧(lW r k).2.2.1.length≤1000∧(lW r k).2.2.2.length≤1000:=by
 have h1:=hg.len
 have h2:=hg.small
 have h3:=hg.yl
 have h4:=List.length_filter_le (yK ((cm r).take k)) r.2.2.2.2.1
 refine⟨?_,by show r.2.2.2.2.2.2.1.length≤1000;omega,by show List.length (r.2.2.2.2.1.filter _)≤1000;omega,h2.2⟩
 show((cm r).drop _).length≤1000
 rw[List.length_drop,rO]
 omega
theorem Inv.aez {c:bP} (hc:lp c) {ls:List cM} {b:av} (h:Inv c ls b) {i:Nat} (hi:i<c.2.length) (h0:(ls.getD i gR).1≠0) {v:kN} (hv:v.1.length=(aF c i).2.2.2.1.length):
  ∃fr f:Nat,fr≤f∧f≤(aF c i).2.2.2.1.length∧(da (ls.getD i gR) v).2=gp (fr:Int) (f:Int)∧(∀k,fr+k≤f→YtjnappfomhkeeaaGreat.tT (pQ (aF c i) i (da (ls.getD i gR) v).2 b k)):=by
 have XS:=h.Fu i hi
 obtain⟨f,f1,f2,f3,f4,f5,f6⟩:=EW XS h0 hv
 have CY:0≤(ls.getD i gR).2.1∧(ls.getD i gR).2.1<((aF c i).2.2.2.1.length:Int):=by
  rcases XS with hz|⟨_,hf,_⟩
  ·rw[hz] at h0;exact absurd rfl h0
  ·exact hf
 obtain⟨fr,uJ⟩:∃fr:Nat,(ls.getD i gR).2.1=(fr:Int):=⟨(ls.getD i gR).2.1.toNat,by omega⟩
 have hei:lX c ls (i:Int)=some (lW (aF c i) fr):=by
  rw[Df ⟨by omega,by omega⟩ (by rw[Int.toNat_natCast];exact h0),Int.toNat_natCast,uJ,Int.toNat_natCast]
 have M9:=rO (aF c i)
 refine⟨fr,f,by omega,f2,by rw[f3,uJ],fun k hk=> ?_⟩
 have XY:=Il h.book hei (m:=f) (by omega) (by omega) k hk
 rw[f3,uJ]
 refine XY.small (n:=64) ⟨fun o x hx=> ?_,fun o x hx=> ?_⟩ (by omega)
 ·unfold jK at hx
  split at hx
  ·rename_i ho
   have:=hc.Nr
   omega
  ·exact(BM hc ls).who o x hx
 ·unfold jK at hx
  split at hx
  ·unfold zq at hx
   split at hx
   ·cases hx
    exact PV (hc.qF _ (jN (c:=c) (o:=(i:Int)) (by omega))) _
   ·cases hx
  ·exact(BM hc ls).Kh o x hx
theorem Z3 (a b:Nat):((a:Int) !=(b:Int))= !(a==b):=by
 by_cases h:a=b
 ·subst h;simp
 ·have h2:(a:Int)≠(b:Int):=by omega
  rw[beq_false_of_ne h]
  unfold bne
  rw[beq_false_of_ne h2]
theorem Ch (p:ab) (b:av) {k:Nat} (h:k≤p.1.length):(jo p b k).length=p.1.length:=by
 unfold jo
 simp
 omega
theorem Jn (p:ab) (b:av) {k:Nat} (h:k<p.1.length):jo p b (k+1)=(jo p b k).set k (DT p b k):=by
 unfold jo
 have e:p.1.length - k=(p.1.length - (k+1))+1:=by omega
 rw[List.set_append_right _ _ (by simp),List.length_map,List.length_range,Nat.sub_self,e,List.replicate_succ,List.set_cons_zero,List.range_succ,List.map_append,List.append_assoc]
 rfl
theorem Oc (p:ab) (b:av) {k:Nat} (h:k<p.1.length):(jo p b k).getD k 0=0:=by
 unfold jo
 rw[List.getD_eq_getElem?_getD,List.getElem?_append_right (by simp)]
 simp
 have:0<p.1.length - k:=by omega
 simp[this]
theorem IK {c:bP} {inn:iO} {l:List Int} {s:xR}:∀k,(uW c inn l s k).2.2.2.length=s.2.2.2.length+k
 |0=>rfl
 |k+1=>by
  have ih:=IK (c:=c) (inn:=inn) (l:=l) (s:=s) k
  show(nZ c inn _ _).2.2.2.length=_
  unfold nZ
  split
  ·show List.length (_++_)=_
   rw[List.length_append,ih];rfl
  ·show List.length (_++_)=_
   rw[List.length_append,ih];rfl
def SI (calls:List Int) (W:((ab)×List (af))×List (Int×Int×Bool×List Bool)×(av)×(Option (aX)×List ((Int×Int)×Bool))×List Int) (bw:List Int) (R:Prop):Prop:=calls=calls∧(↑W.fst.fst.fst.length:Int)=(↑W.fst.fst.fst.length:Int)∧(↑W.fst.fst.snd.snd.fst.length:Int)=(↑W.fst.fst.snd.snd.fst.length:Int)∧bw=bw∧(↑bw.length:Int)=(↑bw.length:Int)∧R
def SH (W:((ab)×List (af))×List (Int×Int×Bool×List Bool)×(av)×(Option (aX)×List ((Int×Int)×Bool))×List Int) (y7:List Bool) (y8:List Int×List Bool×List Bool) (R:Prop):Prop:=W.fst.fst.fst=W.fst.fst.fst∧W.fst.fst.snd.fst=W.fst.fst.snd.fst∧W.fst.fst.snd.snd.fst=W.fst.fst.snd.snd.fst∧W.fst.fst.snd.snd.snd.fst=W.fst.fst.snd.snd.snd.fst∧W.fst.fst.snd.snd.snd.snd.fst=W.fst.fst.snd.snd.snd.snd.fst∧W.fst.fst.snd.snd.snd.snd.snd.fst=W.fst.fst.snd.snd.snd.snd.snd.fst∧W.fst.fst.snd.snd.snd.snd.snd.snd.fst=W.fst.fst.snd.snd.snd.snd.snd.snd.fst∧W.fst.fst.snd.snd.snd.snd.snd.snd.snd.fst=W.fst.fst.snd.snd.snd.snd.snd.snd.snd.fst∧W.fst.fst.snd.snd.snd.snd.snd.snd.snd.snd=W.fst.fst.snd.snd.snd.snd.snd.snd.snd.snd∧W.fst.snd=W.fst.snd∧W.snd.snd.fst.fst=W.snd.snd.fst.fst∧W.snd.snd.snd.fst.fst=W.snd.snd.snd.fst.fst∧W.snd.fst=W.snd.fst∧W.snd.snd.snd.snd=W.snd.snd.snd.snd∧W.snd.snd.fst.snd.fst=W.snd.snd.fst.snd.fst∧W.snd.snd.fst.snd.snd.fst=W.snd.snd.fst.snd.snd.fst∧W.snd.snd.fst.snd.snd.snd.fst=W.snd.snd.fst.snd.snd.snd.fst∧W.snd.snd.fst.snd.snd.snd.snd=W.snd.snd.fst.snd.snd.snd.snd∧W.snd.snd.snd.fst.snd=W.snd.snd.snd.fst.snd∧y7=y7∧y8.fst=y8.fst∧y8.snd.fst=y8.snd.fst∧y8.snd.snd=y8.snd.snd∧R
def Zj (calls:List Int) (W:((ab)×List (af))×List (Int×Int×Bool×List Bool)×(av)×(Option (aX)×List ((Int×Int)×Bool))×List Int) (R:Prop):Prop:=calls=calls∧(↑W.fst.fst.fst.length:Int)=(↑W.fst.fst.fst.length:Int)∧(↑W.fst.fst.snd.snd.fst.length:Int)=(↑W.fst.fst.snd.snd.fst.length:Int)∧(↑W.snd.fst.length:Int)=(↑W.snd.fst.length:Int)∧R
def EN (W:((ab)×List (af))×List (Int×Int×Bool×List Bool)×(av)×(Option (aX)×List ((Int×Int)×Bool))×List Int) (R:Prop):Prop:=W.fst.fst.fst=W.fst.fst.fst∧W.fst.fst.snd.fst=W.fst.fst.snd.fst∧W.fst.fst.snd.snd.fst=W.fst.fst.snd.snd.fst∧W.fst.fst.snd.snd.snd.fst=W.fst.fst.snd.snd.snd.fst∧W.fst.fst.snd.snd.snd.snd.fst=W.fst.fst.snd.snd.snd.snd.fst∧W.fst.fst.snd.snd.snd.snd.snd.fst=W.fst.fst.snd.snd.snd.snd.snd.fst∧W.fst.fst.snd.snd.snd.snd.snd.snd.fst=W.fst.fst.snd.snd.snd.snd.snd.snd.fst∧W.fst.fst.snd.snd.snd.snd.snd.snd.snd.fst=W.fst.fst.snd.snd.snd.snd.snd.snd.snd.fst∧W.fst.fst.snd.snd.snd.snd.snd.snd.snd.snd=W.fst.fst.snd.snd.snd.snd.snd.snd.snd.snd∧W.fst.snd=W.fst.snd∧R
def Ji (W:((ab)×List (af))×List (Int×Int×Bool×List Bool)×(av)×(Option (aX)×List ((Int×Int)×Bool))×List Int) (y7:List Bool) (y8:List Int×List Bool×List Bool) (R:Prop):Prop:=W.snd.snd.snd.fst.snd=W.snd.snd.snd.fst.snd∧y7=y7∧y8.fst=y8.fst∧y8.snd.fst=y8.snd.fst∧y8.snd.snd=y8.snd.snd∧R
def NX (calls:List Int) (W:((ab)×List (af))×List (Int×Int×Bool×List Bool)×(av)×(Option (aX)×List ((Int×Int)×Bool))×List Int) (bw:List Int) (R:Prop):Prop:=calls=calls∧(↑W.fst.fst.fst.length:Int)=(↑W.fst.fst.fst.length:Int)∧(↑W.fst.fst.snd.snd.fst.length:Int)=(↑W.fst.fst.snd.snd.fst.length:Int)∧(↑W.snd.fst.length:Int)=(↑W.snd.fst.length:Int)∧iF bw bw.length=iF bw bw.length∧W.fst.fst.fst=W.fst.fst.fst∧W.fst.fst.snd.fst=W.fst.fst.snd.fst∧W.fst.fst.snd.snd.fst=W.fst.fst.snd.snd.fst∧W.fst.fst.snd.snd.snd.fst=W.fst.fst.snd.snd.snd.fst∧W.fst.fst.snd.snd.snd.snd.fst=W.fst.fst.snd.snd.snd.snd.fst∧W.fst.fst.snd.snd.snd.snd.snd.fst=W.fst.fst.snd.snd.snd.snd.snd.fst∧W.fst.fst.snd.snd.snd.snd.snd.snd.fst=W.fst.fst.snd.snd.snd.snd.snd.snd.fst∧W.fst.fst.snd.snd.snd.snd.snd.snd.snd.fst=W.fst.fst.snd.snd.snd.snd.snd.snd.snd.fst∧W.fst.fst.snd.snd.snd.snd.snd.snd.snd.snd=W.fst.fst.snd.snd.snd.snd.snd.snd.snd.snd∧W.fst.snd=W.fst.snd∧R
def SG (calls:List Int) (W:((ab)×List (af))×List (Int×Int×Bool×List Bool)×(av)×(Option (aX)×List ((Int×Int)×Bool))×List Int) (ic:Nat) (dJ:Int×Int×Bool×List Bool) (eX:kN) (R:Prop):Prop:=calls=calls∧(↑W.fst.fst.fst.length:Int)=(↑W.fst.fst.fst.length:Int)∧(↑W.fst.fst.snd.snd.fst.length:Int)=(↑W.fst.fst.snd.snd.fst.length:Int)∧(↑ic:Int)=(↑ic:Int)∧(↑W.snd.fst.length:Int)=(↑W.snd.fst.length:Int)∧(↑ic:Int)=(↑ic:Int)∧(da dJ eX).snd=(da dJ eX).snd∧(↑(da dJ eX).snd.length:Int)=(↑(da dJ eX).snd.length:Int)∧W.fst.fst.fst=W.fst.fst.fst∧W.fst.fst.snd.fst=W.fst.fst.snd.fst∧W.fst.fst.snd.snd.fst=W.fst.fst.snd.snd.fst∧W.fst.fst.snd.snd.snd.fst=W.fst.fst.snd.snd.snd.fst∧W.fst.fst.snd.snd.snd.snd.fst=W.fst.fst.snd.snd.snd.snd.fst∧W.fst.fst.snd.snd.snd.snd.snd.fst=W.fst.fst.snd.snd.snd.snd.snd.fst∧W.fst.fst.snd.snd.snd.snd.snd.snd.fst=W.fst.fst.snd.snd.snd.snd.snd.snd.fst∧W.fst.fst.snd.snd.snd.snd.snd.snd.snd.fst=W.fst.fst.snd.snd.snd.snd.snd.snd.snd.fst∧W.fst.fst.snd.snd.snd.snd.snd.snd.snd.snd=W.fst.fst.snd.snd.snd.snd.snd.snd.snd.snd∧W.fst.snd=W.fst.snd∧R
def SF (W:((ab)×List (af))×List (Int×Int×Bool×List Bool)×(av)×(Option (aX)×List ((Int×Int)×Bool))×List Int) (y7:List Bool) (y8:List Int×List Bool×List Bool) (dJ:Int×Int×Bool×List Bool) (eX:kN) (lK:Int) (l8:Bool×List Bool) (bw:List Int) (R:Prop):Prop:=W.snd.snd.snd.fst.snd=W.snd.snd.snd.fst.snd∧y7=y7∧y8.fst=y8.fst∧y8.snd.fst=y8.snd.fst∧y8.snd.snd=y8.snd.snd∧(da dJ eX).fst.fst=(da dJ eX).fst.fst∧lK=lK∧l8.fst=l8.fst∧l8.snd=l8.snd∧iF bw bw.length=iF bw bw.length∧R
def Zi (W:((ab)×List (af))×List (Int×Int×Bool×List Bool)×(av)×(Option (aX)×List ((Int×Int)×Bool))×List Int) (kE:List cM) (R:Prop):Prop:=W.snd.snd.snd.fst.fst=W.snd.snd.snd.fst.fst∧kE=kE∧W.snd.snd.snd.snd=W.snd.snd.snd.snd∧R
def GN (W:((ab)×List (af))×List (Int×Int×Bool×List Bool)×(av)×(Option (aX)×List ((Int×Int)×Bool))×List Int) (calls:List Int) (R:Prop):Prop:=(↑W.fst.fst.fst.length:Int)=(↑W.fst.fst.fst.length:Int)∧(↑W.fst.fst.snd.snd.fst.length:Int)=(↑W.fst.fst.snd.snd.fst.length:Int)∧calls=calls∧(↑calls.length:Int)=(↑calls.length:Int)∧R
def GM (y7:List Bool) (y8:List Int×List Bool×List Bool) (R:Prop):Prop:=y7=y7∧y8.fst=y8.fst∧y8.snd.fst=y8.snd.fst∧y8.snd.snd=y8.snd.snd∧R
def TZ (W:((ab)×List (af))×List (Int×Int×Bool×List Bool)×(av)×(Option (aX)×List ((Int×Int)×Bool))×List Int) (aw:List Int) (cb:eG×List Int) (cW:List Int) (R:Prop):Prop:=(↑W.fst.fst.fst.length:Int)=(↑W.fst.fst.fst.length:Int)∧(↑aw.length:Int)=(↑aw.length:Int)∧cb.snd=cb.snd∧cW=cW∧R
def TY (W:((ab)×List (af))×List (Int×Int×Bool×List Bool)×(av)×(Option (aX)×List ((Int×Int)×Bool))×List Int) (bz:av) (cb:eG×List Int) (y9:(((ab)×List (af))×List (Int×Int×Bool×List Bool)×(av)×(Option (aX)×List ((Int×Int)×Bool))×List Int)×(List Bool×List Int×List Bool×List Bool)×List Int×List Int×Unit) (calls:List Int) (cW:List Int) (R:Prop):Prop:=W.fst.fst.fst=W.fst.fst.fst∧W.fst.fst.snd.fst=W.fst.fst.snd.fst∧W.fst.fst.snd.snd.fst=W.fst.fst.snd.snd.fst∧W.fst.fst.snd.snd.snd.fst=W.fst.fst.snd.snd.snd.fst∧W.fst.fst.snd.snd.snd.snd.fst=W.fst.fst.snd.snd.snd.snd.fst∧W.fst.fst.snd.snd.snd.snd.snd.fst=W.fst.fst.snd.snd.snd.snd.snd.fst∧W.fst.fst.snd.snd.snd.snd.snd.snd.fst=W.fst.fst.snd.snd.snd.snd.snd.snd.fst∧W.fst.fst.snd.snd.snd.snd.snd.snd.snd.fst=W.fst.fst.snd.snd.snd.snd.snd.snd.snd.fst∧W.fst.fst.snd.snd.snd.snd.snd.snd.snd.snd=W.fst.fst.snd.snd.snd.snd.snd.snd.snd.snd∧W.fst.snd=W.fst.snd∧bz.fst=bz.fst∧cb.fst.fst=cb.fst.fst∧(bx y9 calls.length).fst=(bx y9 calls.length).fst∧cW=cW∧bz.snd.fst=bz.snd.fst∧bz.snd.snd.fst=bz.snd.snd.fst∧bz.snd.snd.snd.fst=bz.snd.snd.snd.fst∧bz.snd.snd.snd.snd=bz.snd.snd.snd.snd∧cb.fst.snd=cb.fst.snd∧R
theorem v26 (W:((ab)×List (af))×List (Int×Int×Bool×List Bool)×(av)×(Option (aX)×List ((Int×Int)×Bool))×List Int) (inn:List Bool×List Int×List Bool×List Bool) (calls:List Int) (bw:List Int):bN (ah ay [(65,VT),(67,c67),(66,VS),(68,VR),(43,Yy),(69,VQ),(70,VP),(71,VO),(72,VN),(73,VM),(18,YA),(33,ND)]) Tryz.f26 NF (a26 (W,inn,calls,bw,())) (W,inn,calls,bw,())=(
U (bif bif bif(↑inn.1.length:Int) !=(↑W.1.1.1.length:Int) then true else(↑inn.2.1.length:Int) !=(↑W.1.1.1.length:Int) then true else(↑inn.2.2.1.length:Int) !=(↑W.1.1.2.2.1.length:Int) then true else(↑inn.2.2.2.length:Int) !=(↑W.1.1.2.2.1.length:Int)) fun(y4:Bool)=>
U (jU W inn calls bw).2 fun(y5:Qi×Int)=>
U (jU W inn calls bw).1 fun(y6:gh)=>
U (ko W.1.1 inn).1 fun(y7:List Bool)=>
U (ko W.1.1 inn).2 fun(y8:List Int×List Bool×List Bool)=>
U (W,inn,calls,bw,()) fun(y9:(((ab)×List (af))×List (Int×Int×Bool×List Bool)×(av)×(Option (aX)×List ((Int×Int)×Bool))×List Int)×(List Bool×List Int×List Bool×List Bool)×List Int×List Int×Unit)=>
U ((0:Int),(0:Int),false,[]) fun(bp:Int×Int×Bool×List Bool)=>
U ((0:Int),(0:Int),(0:Int),[],[],[],[],[],false) fun(bI:af)=>
U (List.replicate (↑W.1.1.1.length:Int).toNat (0:Int)) fun(aw:List Int)=>
U (bx y9 calls.length).2.2 fun(cb:eG×List Int)=>
U (iM W.1 (bx y9 calls.length).1) fun(cW:List Int)=>
U (bx y9 calls.length).2.1 fun(bz:av)=>
(y4=true→
([],[],[])=y5.1∧
(1:Int)=y5.2∧W.1=y6.1∧W.2.1=y6.2.1∧W.2.2.1.1=y6.2.2.1.1∧W.2.2.1.2.1.Perm y6.2.2.1.2.1∧W.2.2.1.2.2.1.Perm y6.2.2.1.2.2.1∧W.2.2.1.2.2.2.1.Perm y6.2.2.1.2.2.2.1∧W.2.2.1.2.2.2.2.Perm y6.2.2.1.2.2.2.2∧W.2.2.2.1.1=y6.2.2.2.1.1∧W.2.2.2.1.2.Perm y6.2.2.2.1.2∧W.2.2.2.2=y6.2.2.2.2∧True)∧
(y4=false→
(inn.1.length=W.1.1.1.length∧cQ inn.1)∧
(∃(Fa:Nat),Fa≤bw.length∧
(↑Fa:Int)=(0:Int)∧SI calls W bw (iF bw Fa=[]∧SH W y7 y8 (True)))∧∀(yc:Nat),U (decide ((↑yc:Int)<(↑bw.length:Int))) fun(cF:Bool)=>
yc≤bw.length→
(cF=true→aQ (↑yc:Int) bw.length∧bq IntKind.i64 ((↑yc:Int)+(1:Int))∧∃(eO:Nat),eO≤bw.length∧bw.length - eO<bw.length - yc∧
(↑eO:Int)=(↑yc:Int)+(1:Int)∧SI calls W bw (iF bw eO=dc I (iF bw yc) (bw.getD (↑yc:Int).toNat (0:Int)) true∧SH W y7 y8 (True)))∧
(cF=false→
(∃(E9:Nat),E9≤W.2.1.length∧
(↑E9:Int)=(0:Int)∧Zj calls W (iF bw bw.length=iF bw yc∧EN W ((roadsOf y9 E9).2.1=W.2.2.1.1∧W.2.2.2.1.1=W.2.2.2.1.1∧
(roadsOf y9 E9).1=W.2.1∧W.2.2.2.2=W.2.2.2.2∧
(roadsOf y9 E9).2.2.1=W.2.2.1.2.1∧
(roadsOf y9 E9).2.2.2.1=W.2.2.1.2.2.1∧
(roadsOf y9 E9).2.2.2.2.1=W.2.2.1.2.2.2.1∧
(roadsOf y9 E9).2.2.2.2.2=W.2.2.1.2.2.2.2∧Ji W y7 y8 (True))))∧∀(ic:Nat),U (decide ((↑ic:Int)<(↑W.2.1.length:Int))) fun(fC:Bool)=>
U ((roadsOf y9 ic).1.getD (↑ic:Int).toNat bp) fun(dJ:Int×Int×Bool×List Bool)=>
U (roadsOf y9 ic).2.2.1 fun(fo:List (Int×List Int))=>
U (roadsOf y9 ic).2.2.2 fun(dG:List (Int×List Int)×List (Int×List aY)×List (Int×List aY))=>
U (uQ (aF W.1 (↑ic:Int)) (ko W.1.1 inn) (↑ic:Int) (iF bw bw.length)) fun(eX:kN)=>
U (Ni y9 (↑ic:Int).toNat).2.length fun(gS:Nat)=>
U ((roadsOf y9 (↑ic:Int).toNat).1.set (↑ic:Int).toNat (Ni y9 (↑ic:Int).toNat).1) fun(kE:List cM)=>
U (da dJ eX).1.2.1 fun(lK:Int)=>
U (da dJ eX).1.2.2 fun(l8:Bool×List Bool)=>
U (W.1.2.getD (↑ic:Int).toNat bI).2.2.2.1 fun(ym:List (Int×Int×Int))=>
U ((da dJ eX).1.1==(0:Int)) fun(N6:Bool)=>
ic≤W.2.1.length→
(fC=true→aQ (↑ic:Int) (roadsOf y9 ic).1.length∧
((dJ.1==(0:Int))=true→bq IntKind.i64 ((↑ic:Int)+(1:Int))∧∃(sg:Nat),sg≤W.2.1.length∧W.2.1.length - sg<W.2.1.length - ic∧
(↑sg:Int)=(↑ic:Int)+(1:Int)∧NX calls W bw ((roadsOf y9 sg).2.1=(roadsOf y9 ic).2.1∧W.2.2.2.1.1=W.2.2.2.1.1∧
(roadsOf y9 sg).1=(roadsOf y9 ic).1∧W.2.2.2.2=W.2.2.2.2∧
(roadsOf y9 sg).2.2.1=fo∧
(roadsOf y9 sg).2.2.2.1=dG.1∧
(roadsOf y9 sg).2.2.2.2.1=dG.2.1∧
(roadsOf y9 sg).2.2.2.2.2=dG.2.2∧Ji W y7 y8 (True)))∧
((dJ.1==(0:Int))=false→aQ (↑ic:Int) (roadsOf y9 ic).1.length∧Ce W.1 (ko W.1.1 inn) (↑ic:Int)∧
(cQ dJ.2.2.2∧cQ eX.1)∧aQ (↑ic:Int) (roadsOf y9 ic).1.length∧
(∃(qC:Nat),qC≤gS∧
(↑qC:Int)=(0:Int)∧SG calls W ic dJ eX ((gM y9 (↑ic:Int) qC).1=(roadsOf y9 ic).2.1∧W.2.2.2.1.1=W.2.2.2.1.1∧kE=(roadsOf y9 ic).1.set (↑ic:Int).toNat (da dJ eX).1∧W.2.2.2.2=W.2.2.2.2∧
(gM y9 (↑ic:Int) qC).2.1=fo∧
(gM y9 (↑ic:Int) qC).2.2.1=dG.1∧
(gM y9 (↑ic:Int) qC).2.2.2.1=dG.2.1∧
(gM y9 (↑ic:Int) qC).2.2.2.2=dG.2.2∧SF W y7 y8 dJ eX lK l8 bw (True)))∧∀(mz:Nat),U (decide ((↑mz:Int)<(↑(da dJ eX).2.length:Int))) fun(Qv:Bool)=>
U ((da dJ eX).2.getD (↑mz:Int).toNat (0:Int)) fun(wa:Int)=>
U (nF (gM y9 (↑ic:Int) mz) (↑ic:Int) (ym.getD wa.toNat ((0:Int),(0:Int),(0:Int))).1) fun(As:av)=>
U (lr (gM y9 (↑ic:Int) mz) (↑ic:Int)) fun(DR:av)=>
U (gM y9 (↑ic:Int) mz).2 fun(A7:List (Int×List Int)×List (Int×List Int)×List (Int×List aY)×List (Int×List aY))=>
mz≤gS→
(Qv=true→aQ (↑mz:Int) (da dJ eX).2.length∧aQ (↑ic:Int) W.1.2.length∧aQ wa ym.length∧tT (gM y9 (↑ic:Int) mz)∧bq IntKind.i64 ((↑mz:Int)+(1:Int))∧∃(mv:Nat),mv≤gS∧gS - mv<gS - mz∧
(↑mv:Int)=(↑mz:Int)+(1:Int)∧SG calls W ic dJ eX ((gM y9 (↑ic:Int) mv).1=As.1∧Zi W kE ((gM y9 (↑ic:Int) mv).2.1=As.2.1∧
(gM y9 (↑ic:Int) mv).2.2.1=As.2.2.1∧
(gM y9 (↑ic:Int) mv).2.2.2.1=As.2.2.2.1∧
(gM y9 (↑ic:Int) mv).2.2.2.2=As.2.2.2.2∧SF W y7 y8 dJ eX lK l8 bw (True))))∧
(Qv=false→
(N6=true→ga (gM y9 (↑ic:Int) mz)∧bq IntKind.i64 ((↑ic:Int)+(1:Int))∧∃(mv:Nat),mv≤W.2.1.length∧W.2.1.length - mv<W.2.1.length - ic∧
(↑mv:Int)=(↑ic:Int)+(1:Int)∧NX calls W bw ((roadsOf y9 mv).2.1=DR.1∧W.2.2.2.1.1=W.2.2.2.1.1∧
(roadsOf y9 mv).1=kE∧W.2.2.2.2=W.2.2.2.2∧
(roadsOf y9 mv).2.2.1=DR.2.1∧
(roadsOf y9 mv).2.2.2.1=DR.2.2.1∧
(roadsOf y9 mv).2.2.2.2.1=DR.2.2.2.1∧
(roadsOf y9 mv).2.2.2.2.2=DR.2.2.2.2∧Ji W y7 y8 (True)))∧
(N6=false→bq IntKind.i64 ((↑ic:Int)+(1:Int))∧∃(mv:Nat),mv≤W.2.1.length∧W.2.1.length - mv<W.2.1.length - ic∧
(↑mv:Int)=(↑ic:Int)+(1:Int)∧NX calls W bw ((roadsOf y9 mv).2.1=(gM y9 (↑ic:Int) mz).1∧W.2.2.2.1.1=W.2.2.2.1.1∧
(roadsOf y9 mv).1=kE∧W.2.2.2.2=W.2.2.2.2∧
(roadsOf y9 mv).2.2.1=A7.1∧
(roadsOf y9 mv).2.2.2.1=A7.2.1∧
(roadsOf y9 mv).2.2.2.2.1=A7.2.2.1∧
(roadsOf y9 mv).2.2.2.2.2=A7.2.2.2∧Ji W y7 y8 (True))))))∧
(fC=false→
(∃(qC:Nat),qC≤calls.length∧
(↑qC:Int)=(0:Int)∧GN W calls ((bx y9 qC).2.2.2=[]∧EN W ((bx y9 qC).2.1.1=(roadsOf y9 ic).2.1∧
(bx y9 qC).2.2.1.1=W.2.2.2.1.1∧
(bx y9 qC).1=(roadsOf y9 ic).1∧W.2.2.2.2=W.2.2.2.2∧
(bx y9 qC).2.1.2.1=fo∧
(bx y9 qC).2.1.2.2.1=dG.1∧
(bx y9 qC).2.1.2.2.2.1=dG.2.1∧
(bx y9 qC).2.1.2.2.2.2=dG.2.2∧
(bx y9 qC).2.2.1.2=W.2.2.2.1.2∧GM y7 y8 (True))))∧∀(mz:Nat),U (decide ((↑mz:Int)<(↑calls.length:Int))) fun(Qv:Bool)=>
U (bx y9 mz).2.2.1 fun(wa:eG)=>
U (calls.getD (↑mz:Int).toNat (0:Int)) fun(As:Int)=>
U (zj W.1 (bx y9 mz).1 (bx y9 mz).2.1 wa (ko W.1.1 inn) As) fun(DR:Int)=>
U (W.1.2.getD As.toNat bI) fun(A7:af)=>
U (bx y9 mz).2.2.2 fun(Qu:List Int)=>
U (mh wa A7 y7 (bx y9 mz).2.1) fun(ZI:Int)=>
U ((List.replicate (1:Nat) (0:Int)).set (0:Nat) ZI) fun(ZH:List Int)=>
U (og (bx y9 mz).2.1 As A7) fun(T6:av)=>
U ((List.replicate (1:Nat) (0:Int)).set (0:Nat) DR) fun(ZG:List Int)=>
U (bx y9 mz).2.1.1 fun(y41:Int)=>
U (bx y9 mz).2.1.2 fun(L0:List (Int×List Int)×List (Int×List Int)×List (Int×List aY)×List (Int×List aY))=>
U (iM W.1 (bx y9 mz).1) fun(ZF:List Int)=>
mz≤calls.length→
(Qv=true→aQ (↑mz:Int) calls.length∧
(Dk W.1∧pT (bx y9 mz).2.1∧gL wa.1)∧
((DR==(0:Int))=true→aQ As W.1.2.length∧
((gL wa.1∧A7.2.2.2.1.length≤(1000:Nat))∧kj (bx y9 mz).2.1)∧
((pT (bx y9 mz).2.1∧ki A7)∧cQ A7.2.2.2.2.2.2.1)∧True∧aQ As (bx y9 mz).1.length∧roomFor (Qu.length+ZH.length) (8:Nat)∧bq IntKind.i64 ((↑mz:Int)+(1:Int))∧∃(nN:Nat),nN≤calls.length∧calls.length - nN<calls.length - mz∧
(↑nN:Int)=(↑mz:Int)+(1:Int)∧GN W calls ((bx y9 nN).2.2.2=Qu++ZH∧EN W ((bx y9 nN).2.1.1=T6.1∧
(bx y9 nN).2.2.1.1=wa.1∧
(bx y9 nN).1=(bx y9 mz).1.set As.toNat (o8 (↑A7.2.2.2.1.length:Int))∧W.2.2.2.2=W.2.2.2.2∧
(bx y9 nN).2.1.2.1=T6.2.1∧
(bx y9 nN).2.1.2.2.1=T6.2.2.1∧
(bx y9 nN).2.1.2.2.2.1=T6.2.2.2.1∧
(bx y9 nN).2.1.2.2.2.2=T6.2.2.2.2∧
((bx y9 nN).2.2.1.2=bif ZI==(0:Int) then C7 wa A7 else wa.2)∧GM y7 y8 (True))))∧
((DR==(0:Int))=false→roomFor (Qu.length+ZG.length) (8:Nat)∧bq IntKind.i64 ((↑mz:Int)+(1:Int))∧∃(nN:Nat),nN≤calls.length∧calls.length - nN<calls.length - mz∧
(↑nN:Int)=(↑mz:Int)+(1:Int)∧GN W calls ((bx y9 nN).2.2.2=Qu++ZG∧EN W ((bx y9 nN).2.1.1=y41∧
(bx y9 nN).2.2.1.1=wa.1∧
(bx y9 nN).1=(bx y9 mz).1∧W.2.2.2.2=W.2.2.2.2∧
(bx y9 nN).2.1.2.1=L0.1∧
(bx y9 nN).2.1.2.2.1=L0.2.1∧
(bx y9 nN).2.1.2.2.2.1=L0.2.2.1∧
(bx y9 nN).2.1.2.2.2.2=L0.2.2.2∧
(bx y9 nN).2.2.1.2=wa.2∧GM y7 y8 (True)))))∧
(Qv=false→W.1.1.2.2.1.length≤(1000:Nat)∧lZ (W.1,(bx y9 mz).1,(bx y9 mz).2.1,wa,ZF)∧
((0:Int)≤(↑W.1.1.1.length:Int)∧
(↑W.1.1.1.length:Int)≤(↑W.1.1.1.length:Int))∧
(roomFor (↑W.1.1.1.length:Int).toNat (8:Nat)∧
(↑W.1.1.1.length:Int)≤(↑aK:Int))∧
(∃(Wv:Nat),Wv≤W.1.1.1.length∧
(↑Wv:Int)=(0:Int)∧
(↑W.1.1.1.length:Int)=(↑W.1.1.1.length:Int)∧
(↑aw.length:Int)=(↑aw.length:Int)∧cb.2=Qu∧cW=ZF∧jo W.1.1 bz Wv=aw∧EN W (bz.1=y41∧cb.1.1=wa.1∧
(bx y9 calls.length).1=(bx y9 mz).1∧cW=ZF∧bz.2.1=L0.1∧bz.2.2.1=L0.2.1∧bz.2.2.2.1=L0.2.2.1∧bz.2.2.2.2=L0.2.2.2∧cb.1.2=wa.2∧True))∧∀(F8:Nat),U (decide ((↑F8:Int)<(↑aw.length:Int))) fun(y45:Bool)=>
U ((W.1.1.1.getD (↑F8:Int).toNat ([],(0:Int),(0:Int))).2.1==(2:Int)) fun(Wg:Bool)=>
U (jo W.1.1 bz F8) fun(T5:List Int)=>
F8≤W.1.1.1.length→
(y45=true→aQ (↑F8:Int) W.1.1.1.length∧
(Wg=true→ga bz∧pG bz (↑F8:Int))∧
(Wg=true→aQ (↑F8:Int) T5.length)∧bq IntKind.i64 ((↑F8:Int)+(1:Int))∧∃(SR:Nat),SR≤W.1.1.1.length∧W.1.1.1.length - SR<W.1.1.1.length - F8∧
(↑SR:Int)=(↑F8:Int)+(1:Int)∧TZ W aw cb cW ((jo W.1.1 bz SR=bif Wg then T5.set (↑F8:Int).toNat (lA bz (↑F8:Int)).1 else T5)∧TY W bz cb y9 calls cW (True)))∧
(y45=false→
(cW,T5,cb.2)=y5.1∧
(0:Int)=y5.2∧W.1=y6.1∧
(bx y9 calls.length).1=y6.2.1∧bz.1=y6.2.2.1.1∧bz.2.1.Perm y6.2.2.1.2.1∧bz.2.2.1.Perm y6.2.2.1.2.2.1∧bz.2.2.2.1.Perm y6.2.2.1.2.2.2.1∧bz.2.2.2.2.Perm y6.2.2.1.2.2.2.2∧cb.1.1=y6.2.2.2.1.1∧cb.1.2.Perm y6.2.2.2.1.2∧cW=y6.2.2.2.2∧True)))))):=by kernel_rfl
theorem b26 (W:gh) (inn:iO) (calls bw:List Int) (hp:r9 W inn calls bw):bN (ah ay [(65,VT),(67,c67),(66,VS),(68,VR),(43,Yy),(69,VQ),(70,VP),(71,VO),(72,VN),(73,VM),(18,YA),(33,ND)]) Tryz.f26 NF (a26 (W,inn,calls,bw,())) (W,inn,calls,bw,()):=by
 obtain⟨hW,Pr,AB⟩:=hp
 have hc:=hW.Kv
 have hlen:=hW.inv.len
 have anJ:=hc.Nr
 have M9:=hc.elems
 have hsg:=hc.sigs
 rw[v26]
 simp only[SI,SH,Zj,EN,Ji,NX,SG,SF,Zi,GN,GM,TZ,TY,true_and,and_true,eq_self,List.Perm.refl]
 refine U.mk fun y4 e4=>U.mk fun y5 e5=>U.mk fun y6 e6=>U.mk fun y7 e7=>U.mk fun y8 e8=>U.mk fun y9 e9=>U.mk fun bp du=>U.mk fun bI eH=>U.mk fun aw dM=>U.mk fun cb hX=>U.mk fun cW jG=>U.mk fun bz gJ=> ?_
 have RG:y4= !we W.1.1 inn:=by
  rw[e4,Z3,Z3,Z3,Z3]
  unfold we
  have key:∀a b c d:Bool,(bif bif bif !a then true else !b then true else !c then true else !d)= !(a&&(b&&(c&&d))):=by decide
  exact key _ _ _ _
 refine⟨fun h=> ?_,fun h=> ?_⟩
 ·have hs:¬we W.1.1 inn=true:=by rw[h] at RG;intro h2;rw[h2] at RG;cases RG
  have hF:jU W inn calls bw=(W,([],[],[]),1):=by unfold jU;rw[if_neg hs]
  rw[e5,e6,hF]
  exact⟨rfl,rfl,rfl,rfl,rfl,.refl _,.refl _,.refl _,.refl _,rfl,.refl _,rfl⟩
 have hs:we W.1.1 inn=true:=by rw[h] at RG;simpa using RG.symm
 have hF:jU W inn calls bw=((W.1,(bx y9 calls.length).1,(bx y9 calls.length).2.1,(bx y9 calls.length).2.2.1,iM W.1 (bx y9 calls.length).1),(iM W.1 (bx y9 calls.length).1,jo W.1.1 (bx y9 calls.length).2.1 W.1.1.1.length,(bx y9 calls.length).2.2.2),0):=by
  unfold jU
  rw[if_pos hs,e9]
  rfl
 have hz:inn.1.length=W.1.1.1.length∧inn.2.1.length=W.1.1.1.length∧inn.2.2.1.length=W.1.1.2.2.1.length∧inn.2.2.2.length=W.1.1.2.2.1.length:=by
  unfold we at hs
  simpa using hs
 have hR:∀k,k≤W.1.2.length→Inv W.1 (roadsOf y9 k).1 (roadsOf y9 k).2:=fun k hk=>by rw[e9];exact Inv.roads hW.inv k hk
 have hR0:roadsOf y9 0=(W.2.1,W.2.2.1):=by rw[e9];rfl
 have hRs:∀k,roadsOf y9 (k+1)=tx W.1 (ko W.1.1 inn) (iF bw bw.length) (roadsOf y9 k) k:=fun k=>by rw[e9];rfl
 have hG:∀k:Nat,Ni y9 k=da ((roadsOf y9 k).1.getD k gR) (uQ (aF W.1 (k:Int)) (ko W.1.1 inn) (k:Int) (iF bw bw.length)):=fun k=>by rw[e9];rfl
 have hFr:∀(i k:Nat),gM y9 (i:Int) k=pQ (aF W.1 (i:Int)) i (Ni y9 i).2 (roadsOf y9 i).2 k:=fun i k=>by rw[e9];rfl
 have hC0:bx y9 0=((roadsOf y9 W.2.1.length).1,(roadsOf y9 W.2.1.length).2,W.2.2.2.1,[]):=by rw[e9];rfl
 have hCs:∀k,bx y9 (k+1)=nZ W.1 (ko W.1.1 inn) (bx y9 k) (calls.getD k 0):=fun k=>by rw[e9];rfl
 have hC:∀k,Inv W.1 (bx y9 k).1 (bx y9 k).2.1:=fun k=>by
  have:=hR W.2.1.length (by omega)
  rw[e9] at this ⊢
  exact Inv.calls hc (s:=((roadsOf (W,inn,calls,bw,()) W.2.1.length).1,(roadsOf (W,inn,calls,bw,()) W.2.1.length).2,W.2.2.2.1,[])) this k
 have hCn:∀k,(bx y9 k).2.2.1.1=W.2.2.2.1.1:=fun k=>by rw[e9];exact BQ k
 have hCl:∀k,(bx y9 k).2.2.2.length=k:=fun k=>by rw[e9];exact(IK k).trans (by show 0+k=k;omega)
 have Pk:=Uo W.1.1 inn
 clear e9
 refine⟨⟨hz.1,by show _≤_;omega⟩,⟨0,Nat.zero_le _,rfl,rfl⟩,fun s=>U.mk fun cF iN Bx=>⟨fun h=> ?_,fun h=> ?_⟩⟩
 ·rw[iN] at h
  have h:=of_decide_eq_true h
  rw[Int.toNat_natCast]
  exact⟨⟨by omega,by omega⟩,bg (by omega) (by omega),s+1,by omega,by omega,by omega,rfl⟩
 rw[iN] at h
 have h:=of_decide_eq_false h
 have Pn:s=bw.length:=by omega
 subst Pn
 clear iN Bx h
 refine⟨⟨0,Nat.zero_le _,rfl,rfl,?_⟩,?_⟩
 ·rw[hR0];simp only[eq_self,and_true]
 intro i
 refine U.mk fun fC nH=>U.mk fun dJ pb=>U.mk fun fo qZ=>U.mk fun dG sB=>U.mk fun eX xJ=>U.mk fun gS wQ=>U.mk fun kE BO=>U.mk fun lK BN=>U.mk fun l8 Dg=>U.mk fun ym Sf=>U.mk fun N6 e29 hi=>⟨fun h=> ?_,fun h=> ?_⟩
 ·rw[nH] at h
  have h:=of_decide_eq_true h
  have dK:i<W.1.2.length:=by omega
  rw[Int.toNat_natCast] at *
  have pb:dJ=(roadsOf y9 i).1.getD i gR:=by rw[pb,du];rfl
  have hI:=hR i (by omega)
  have hIl:(roadsOf y9 i).1.length=W.1.2.length:=hI.len
  have hg:Ni y9 i=da dJ eX:=by rw[hG,pb,xJ]
  have ju:=hRs i
  unfold tx at ju
  rw[←pb,←xJ] at ju
  refine⟨⟨by omega,by omega⟩,fun h0=>⟨bg (by omega) (by omega),i+1,by omega,by omega,by omega,?_⟩,fun h0=> ?_⟩
  ·rw[if_pos (eq_of_beq h0)] at ju
   rw[ju,qZ,sB]
   exact⟨rfl,rfl,rfl,rfl,rfl,rfl⟩
  have h0:dJ.1≠0:=fun e=>by rw[e] at h0;cases h0
  rw[if_neg h0] at ju
  have MY:eX.1.length=(aF W.1 (i:Int)).2.2.2.1.length:=by rw[xJ];exact JP _ _ _ _
  obtain⟨fr,f,g1,g2,g3,g4⟩:=hI.aez hc dK (v:=eX) (by rw[←pb];exact h0) MY
  rw[←pb] at g3 g4
  have Pv:(da dJ eX).2.length=f - fr:=by rw[g3,Hj];omega
  have R3:gS=f - fr:=by rw[wQ,hg,Pv]
  have U6:=(hc.qF _ (jN (c:=W.1) (o:=(i:Int)) (by omega))).len
  have h28:ym=(aF W.1 (i:Int)).2.2.2.1:=by rw[Sf,eH];rfl
  have Vi:∀k,gM y9 (i:Int) k=pQ (aF W.1 (i:Int)) i (da dJ eX).2 (roadsOf y9 i).2 k:=fun k=>by rw[hFr,hg]
  have U5:=hI.seen hc i
  rw[←pb] at U5
  refine⟨⟨by omega,by omega⟩,⟨hc,⟨by omega,by omega⟩,by rw[Pk.1];exact hz.1,by rw[Pk.2];exact hz.2.1,by rw[Pk.2];exact hz.2.2.1,by rw[Pk.2];exact hz.2.2.2⟩,⟨by show _≤1000;omega,by show _≤1000;omega⟩,⟨by omega,by omega⟩,⟨0,Nat.zero_le _,rfl,?_⟩,?_⟩
  ·rw[Vi,BO,hg,qZ,sB]
   exact⟨rfl,rfl,rfl,rfl,rfl,rfl⟩
  intro j
  refine U.mk fun Qv Yl=>U.mk fun wa Nx=>U.mk fun As e33=>U.mk fun DR e34=>U.mk fun A7 e35 hj=>⟨fun h=> ?_,fun h=> ?_⟩
  ·rw[Yl] at h
   have h:=of_decide_eq_true h
   rw[Int.toNat_natCast] at *
   have h32:wa=(fr:Int)+(j:Int):=by rw[Nx,g3];exact OD (by omega) (by omega)
   refine⟨⟨by omega,by omega⟩,⟨by omega,by omega⟩,⟨by omega,by rw[h28];omega⟩,by rw[Vi];exact g4 j (by omega),bg (by omega) (by omega),j+1,by omega,by omega,by omega,?_⟩
   have:gM y9 (i:Int) (j+1)=As:=by
    rw[e33,Vi,Vi,Nx,h28]
    rfl
   rw[this]
   exact⟨rfl,rfl,rfl,rfl,rfl⟩
  ·rw[Yl] at h
   have h:=of_decide_eq_false h
   have hj2:j=(da dJ eX).2.length:=by omega
   have Tn:gM y9 (i:Int) j=pQ (aF W.1 (i:Int)) i (da dJ eX).2 (roadsOf y9 i).2 (da dJ eX).2.length:=by rw[Vi,hj2]
   unfold tw at ju
   rw[←Tn,←e29] at ju
   refine⟨fun hd=>⟨by rw[Vi];exact(g4 j (by omega)).1,bg (by omega) (by omega),i+1,by omega,by omega,by omega,?_⟩,fun hd=>⟨bg (by omega) (by omega),i+1,by omega,by omega,by omega,?_⟩⟩
   ·rw[hd,cond_true,←e34,←hg] at ju
    rw[ju,BO]
    exact⟨rfl,rfl,rfl,rfl,rfl,rfl⟩
   ·rw[hd,cond_false,←hg] at ju
    rw[ju,BO,e35]
    exact⟨rfl,rfl,rfl,rfl,rfl,rfl⟩
 rw[nH] at h
 have h:=of_decide_eq_false h
 have hi2:i=W.2.1.length:=by omega
 subst hi2
 clear nH pb xJ wQ BO BN Dg Sf e29 hi h
 refine⟨⟨0,Nat.zero_le _,rfl,?_⟩,?_⟩
 ·rw[hC0,qZ,sB]
  exact⟨rfl,rfl,rfl,rfl,rfl,rfl,rfl,rfl,rfl⟩
 intro k
 refine U.mk fun Qv Yl=>U.mk fun wa Nx=>U.mk fun As e33=>U.mk fun DR e34=>U.mk fun A7 e35=>U.mk fun Qu e36=>U.mk fun ZI e37=>U.mk fun ZH e38=>U.mk fun T6 e39=>U.mk fun ZG e40=>U.mk fun y41 e41=>U.mk fun L0 e42=>U.mk fun ZF e43 hk=>⟨fun h=> ?_,fun h=> ?_⟩
 ·rw[Yl] at h
  have h:=of_decide_eq_true h
  rw[Int.toNat_natCast] at *
  have hI:=hC k
  have ju:=hCs k
  unfold nZ at ju
  rw[←e33,←Nx,←e34] at ju
  have h35:aF W.1 As=A7:=by rw[e35,eH];rfl
  have abv:gL wa.1:=by rw[Nx,hCn];exact hW.net
  have h36:Qu.length=k:=by rw[e36];exact hCl k
  have Ge:=hI.GI hc
  refine⟨⟨by omega,by omega⟩,⟨hc.ok,Ge,abv⟩,fun h0=> ?_,fun h0=> ?_⟩
  ·have h0:=eq_of_beq h0
   have hw:=JN.1 (e34.symm.trans h0)
   have oE:=hw.Te
   have hr:=hc.qF _ (jN oE)
   have U6:=hr.len
   have XF:=hr.small
   have hrz:=hr.yl
   rw[h35] at U6 XF hrz
   have hIl:=hI.len
   rw[if_pos h0,h35] at ju
   have h38:ZH=[ZI]:=e38
   refine⟨⟨oE.1,by omega⟩,⟨⟨abv,by omega⟩,Ge.rU⟩,⟨⟨Ge,⟨by omega,XF.1,XF.2⟩⟩,by show _≤1000;omega⟩,⟨oE.1,by omega⟩,c6 (by rw[h38];show _+1≤_;omega) (by decide),bg (by omega) (by omega),k+1,by omega,by omega,by omega,?_⟩
   rw[ju,e36,h38,e37,e39]
   refine⟨?_,rfl,rfl,rfl,rfl,rfl,rfl,rfl,?_⟩
   ·rw[Nx,e7]
   ·rw[Nx,e7]
    rfl
  ·have h0:DR≠0:=fun e=>by rw[e] at h0;cases h0
   rw[if_neg h0] at ju
   have h40:ZG=[DR]:=e40
   refine⟨c6 (by rw[h40];show _+1≤_;omega) (by decide),bg (by omega) (by omega),k+1,by omega,by omega,by omega,?_⟩
   rw[ju,h40,e36,e41,e42]
   exact⟨rfl,rfl,rfl,rfl,rfl,rfl,rfl,rfl,rfl⟩
 rw[Yl] at h
 have h:=of_decide_eq_false h
 have RS:k=calls.length:=by omega
 subst RS
 have hI:=hC calls.length
 have Ge:=hI.GI hc
 have H0:aK=9223372036854775807:=rfl
 have C2:(iM W.1 (bx y9 calls.length).1).length=W.1.1.2.2.1.length:=DC _ _
 refine⟨by omega,⟨hc,hI,by show gL wa.1;rw[Nx,hCn];exact hW.net,by rw[e43];show List.length (iM _ _)≤_;omega⟩,?_⟩
 have mB:aw.length=W.1.1.1.length:=by rw[dM,List.length_replicate];omega
 refine⟨⟨by omega,by omega⟩,⟨c6 (by omega) (by decide),by omega⟩,⟨0,Nat.zero_le _,rfl,?_⟩,fun t=>U.mk fun y45 Yk=>U.mk fun Wg e46=>U.mk fun T5 e47 ht=>⟨fun h=> ?_,fun h=> ?_⟩⟩
 ·rw[hX,jG,gJ,Nx,e36,e41,e42,e43,dM]
  exact⟨rfl,rfl,rfl,rfl,rfl,rfl,rfl,rfl,rfl,rfl,rfl,rfl⟩
 ·rw[Yk] at h
  have h:=of_decide_eq_true h
  have dK:t<W.1.1.1.length:=by omega
  have h47:T5.length=W.1.1.1.length:=by rw[e47];exact Ch _ _ ht
  rw[Int.toNat_natCast] at *
  refine⟨⟨by omega,by omega⟩,fun _=>by rw[gJ];exact⟨Ge.small,Ge.held _⟩,fun _=>⟨by omega,by omega⟩,bg (by omega) (by omega),t+1,by omega,by omega,by omega,?_⟩
  rw[Jn _ _ dK,←e47]
  unfold DT
  cases X9:Wg
  ·rw[if_neg (fun e=>by rw[e46,show((W.1.1.1.getD t ([],0,0)).2.1==2)=true from beq_iff_eq.2 e] at X9;cases X9),cond_false,e47]
   exact DZ (by rw[Ch _ _ ht];exact dK) (Oc _ _ dK)
  ·rw[if_pos (show(W.1.1.1.getD t zE).2.1=2 from eq_of_beq (e46.symm.trans X9)),cond_true]
 ·rw[Yk] at h
  have h:=of_decide_eq_false h
  have Az:t=W.1.1.1.length:=by omega
  rw[e5,e6,hF,jG,e47,hX,gJ,Az]
  exact⟨rfl,rfl,rfl,rfl,rfl,.refl _,.refl _,.refl _,.refl _,rfl,.refl _,rfl⟩
theorem abf:ew Tryz.prog 26 NF:=
 ew.bZ (l:=[(65,VT),(67,c67),(66,VS),(68,VR),(43,Yy),(69,VQ),(70,VP),(71,VO),(72,VN),(73,VM),(18,YA),(33,ND)]) (A:=a26) aH ⟨ahe,ahc,ahd,ahb,ahs,aha,ag9,ag8,ag7,ag6,ahz,abe,trivial⟩ Tryz.func26 (by kernel_rfl) (by kernel_rfl) fun x hw hp=>b26 x.1 x.2.1 x.2.2.1 x.2.2.2.1 hp
abbrev Zc:eQ:= .cells true (.pair (.aC mH) (.pair (.row 73 ml) (.pair TV (.pair (.row 3 I) (.row 3 I)))))
abbrev afc:=bP×List cM×TW×List Int×List Int
def WG (c:bP):afc:=(c,List.replicate c.2.length gR,(min (max (c.1.1.length:Int) 0) 40,[]),List.replicate c.1.2.2.2.1.length 0,List.replicate c.1.2.2.1.length 0)
def Mb (c:bP):Prop:=cQ c.2∧kG c.1
def Ys:fq where
 args:=[.aC mH]
 outs:=[Zc]
 pre:=fun(x:bP×Unit)=>Mb x.1
 fn:=fun(x:bP×Unit)=>(WG x.1,())
def BU:bh where
 args:=[PlanT]
 out:= .data [.bool]
 pre:=fun(x:ab×Unit)=>True
 fn:=fun(x:ab×Unit)=>((ct x.1).2,())
def gu (p:ab):bP:=(p,(ct p).1)
def Dq:fq where
 args:=[.aC PlanT]
 outs:=[F1,Zc]
 pre:=fun(x:ab×Unit)=>(ct x.1).2=true
 fn:=fun(x:ab×Unit)=>(LQ (gu x.1),WG (gu x.1),())
def rowOf {α:Type} (n:Nat) (d:α) (l:List α):List α:=l.take n++List.replicate (n - l.length) d
def kh {α:Type} (n:Nat) (d:α) (l:List α) (k:Nat):List α:=l.take k++List.replicate (n - k) d
abbrev InO:eQ:= .pair (.row 4 .bool) (.pair (.row 3 I) (.pair (.row 4 .bool) (.row 4 .bool)))
def BK (p:ab) (iC:List Bool) (pos:List Int):iO:=(rowOf p.1.length false iC,rowOf p.1.length 0 pos,List.replicate p.2.2.1.length false,List.replicate p.2.2.1.length false)
def NC:fq where
 args:=[.aC PlanT,.aC (.list .bool),.aC (.list I)]
 outs:=[InO]
 pre:=fun(x:ab×List Bool×List Int×Unit)=>kG x.1
 fn:=fun(x:ab×List Bool×List Int×Unit)=>(BK x.1 x.2.1 x.2.2.1,())
def a36 (x:ab×List Bool×List Int×Unit):eC:=bj [
 (3,fun S=>{
  σ:=Nat
  ok:=fun k=>k≤min x.2.1.length x.1.1.length
  mu:=fun k=>x.2.1.length - k
  sl:=fun k=>[(8,.one (.aC I (k:Int)))]
  bl:=fun k=>[(7,.cells [.row .bool 1000,.row I 1001,.row .bool 1002,.row .bool 1003]),(1000,.row false 4 .bool (kh x.1.1.length false x.2.1 k)),(1001,.row false 3 I (List.replicate x.1.1.length 0)),
   (1002,.row false 4 .bool (List.replicate x.1.2.2.1.length false)),(1003,.row false 4 .bool (List.replicate x.1.2.2.1.length false))]
  keep:=[1,2,3,6,7]
  cy:=[3,6]}),
 (7,fun S=>{
  σ:=Nat
  ok:=fun k=>k≤min x.2.2.1.length x.1.1.length
  mu:=fun k=>x.2.2.1.length - k
  sl:=fun k=>[(9,.one (.aC I (k:Int)))]
  bl:=fun k=>[(7,.cells [.row .bool 1000,.row I 1001,.row .bool 1002,.row .bool 1003]),(1000,.row false 4 .bool (rowOf x.1.1.length false x.2.1)),(1001,.row false 3 I (kh x.1.1.length 0 x.2.2.1 k)),
   (1002,.row false 4 .bool (List.replicate x.1.2.2.1.length false)),(1003,.row false 4 .bool (List.replicate x.1.2.2.1.length false))]
  keep:=[1,2,3,6,7]
  cy:=[3,6]})]
abbrev ActT:Ty:= .pair I (.pair (.list .bool) (.pair (.list I) (.pair (.list (.int .u8)) (.pair (.list I) (.list I)))))
abbrev oN:=Int×List Bool×List Int×List Int×List Int×List Int
def Cc:oN:=(0,[],[],[],[],[])
def q9 (a:oN):Bool:=decide (60<(a.2.1.length:Int))||(decide (60<(a.2.2.1.length:Int))||(decide (60<(a.2.2.2.1.length:Int))||(decide (20<(a.2.2.2.2.1.length:Int))||decide (20<(a.2.2.2.2.2.length:Int)))))
@[irreducible] def rK (l:List oN):Bool:= !(decide (40<(l.length:Int))||l.any q9)
def VY:bh where
 args:=[.list ActT]
 out:= .data [.bool]
 pre:=fun(x:List oN×Unit)=>True
 fn:=fun(x:List oN×Unit)=>(rK x.1,())
def a24 (x:List oN×Unit):eC:=bj [(4,fun _=>{
 σ:=Nat
 ok:=fun k=>k≤x.1.length∧(x.1.take k).any q9=false
 mu:=fun k=>x.1.length - k
 sl:=fun k=>[(3,.one (.aC I (k:Int)))]
 bl:=fun _=>[]
 keep:=[0]
 cy:=[]})]
def Gv (x:Int):Bool:=decide (0<x.tmod 3)
def z8 (x:Int):Bool:=x.tmod 3==2
def wb (p:ab) (a:oN):List Bool:=bif a.1==2 then(rowOf p.1.length false a.2.1).take (p.1.length - 1) else rowOf p.1.length false a.2.1
@[irreducible] def oe (p:ab) (a:oN):iO:=(wb p a,rowOf p.1.length 0 a.2.2.1,rowOf p.2.2.1.length false (a.2.2.2.1.map Gv),rowOf p.2.2.1.length false (a.2.2.2.1.map z8))
def Cg (p:ab):Prop:=kG p∧1≤p.1.length
def JI:fq where
 args:=[.aC PlanT,.aC ActT]
 outs:=[InO]
 pre:=fun(x:ab×oN×Unit)=>Cg x.1
 fn:=fun(x:ab×oN×Unit)=>(oe x.1 x.2.1,())
def a27 (x:ab×oN×Unit):eC:=bj [
 (3,fun S=>{
  σ:=Nat
  ok:=fun k=>k≤min x.2.1.2.2.2.1.length x.1.2.2.1.length
  mu:=fun k=>x.1.2.2.1.length - k
  sl:=fun k=>[(6,.one (.aC I (k:Int)))]
  bl:=fun k=>[(5,.cells [.row .bool 1000,.row I 1001,.row .bool 1002,.row .bool 1003]),(1000,.row false 4 .bool (rowOf x.1.1.length false x.2.1.2.1)),(1001,.row false 3 I (rowOf x.1.1.length 0 x.2.1.2.2.1)),
   (1002,.row false 4 .bool (kh x.1.2.2.1.length false (x.2.1.2.2.2.1.map Gv) k)),(1003,.row false 4 .bool (kh x.1.2.2.1.length false (x.2.1.2.2.2.1.map z8) k))]
  keep:=[2,3,4,5]
  cy:=[2,3,4]})]
theorem Ah {p:ab} (h:(cx p).2=0):bV p=0∧(cx p).1.1=p∧(cx p).1.2.length≤64:=by
 unfold cx at h ⊢
 cases hc:(bV p==0) with
 |false=>
  rw[hc] at h
  have h:bV p=0:=h
  rw[h] at hc
  cases hc
 |true=>
  rw[hc] at h
  cases ha:((cZ p).2==0) with
  |false=>
   rw[ha] at h
   have h:(cZ p).2=0:=h
   rw[h] at ha
   cases ha
  |true=>
   refine⟨eq_of_beq hc,rfl,?_⟩
   show((cZ p).1.map (dT p)).length≤64
   rw[List.length_map]
   exact DF p
theorem Rm {p:ab} (h:bV p=0):kp p=some (np p):=by
 unfold kp
 rw[h]
 rfl
theorem Ro (p:ab):(bH (some (np p))).1=p:=by
 show(np p).1=p
 unfold np
 rfl
theorem YF {c:bP} (h:xG c=0):cx c.1=(c,0):=by
 unfold xG at h
 cases h1:((cx c.1).2==0) with
 |false=>
  rw[h1] at h
  have h:(cx c.1).2=0:=h
  rw[h] at h1
  cases h1
 |true=>
  rw[h1] at h
  cases h2:(c==(cx c.1).1) with
  |false=>rw[h2] at h;exact absurd h (show ¬(1:Int)=0 by decide)
  |true=>
   have e1:(cx c.1).2=0:=eq_of_beq h1
   have e2:c=(cx c.1).1:=eq_of_beq h2
   rw[←e1,Prod.ext_iff]
   exact⟨e2.symm,rfl⟩
theorem J9 {α β:Type} {x:α×β} {a:α} {b:β} (h1:x.1=a) (h2:x.2=b):x=(a,b):=by rw[←h1,←h2]
theorem agB (c:(ab)×List (af)):bN (ah ay [(44,P2),(49,Yv),(50,NA),(52,IP),(51,VV),(54,IN),(53,VU)]) Tryz.f14 P8 aq (c,())=(
U ((cx c.1).2 !=(0:Int)) fun(y1:Bool)=>
U (!c==(cx c.1).1) fun(y2:Bool)=>
U (bV (cx c.1).1.1 !=(0:Int)) fun(y3:Bool)=>
U (kp (cx c.1).1.1) fun(y4:Option aX)=>
cS c.1∧
(y1=true→False)∧
(y1=false→
True∧
(y2=true→False)∧
(y2=false→
cS (cx c.1).1.1∧
(y3=true→False)∧
(y3=false→
((0:Int)≤(↑(cx c.1).1.2.length:Int)∧(↑(cx c.1).1.2.length:Int)≤(↑(cx c.1).1.2.length:Int))∧
(roomFor (↑(cx c.1).1.2.length:Int).toNat (48:Nat)∧(↑(cx c.1).1.2.length:Int)≤(↑aK:Int))∧
iL y4∧
True∧
True∧
iL y4∧
((0:Int)≤(↑(bH y4).1.2.2.1.length:Int)∧(↑(bH y4).1.2.2.1.length:Int)≤(↑(bH y4).1.2.2.1.length:Int))∧
(roomFor (↑(bH y4).1.2.2.1.length:Int).toNat (8:Nat)∧(↑(bH y4).1.2.2.1.length:Int)≤(↑aK:Int))∧
(cx c.1).1=c∧
List.replicate (↑(cx c.1).1.2.length:Int).toNat ((0:Int),(0:Int),false,[])=List.replicate c.2.length gR∧
max (0:Int) (min (↑(bH y4).1.1.length:Int) (40:Int))=max (0:Int) (min (↑c.1.1.length:Int) (40:Int))∧
([]:List (Int×List Int)).Perm []∧
([]:List (Int×List Int)).Perm []∧
([]:List (Int×List (Int×Int))).Perm []∧
([]:List (Int×List (Int×Int))).Perm []∧
y4=some (np c.1)∧
([]:List ((Int×Int)×Bool)).Perm []∧
List.replicate (↑(bH y4).1.2.2.1.length:Int).toNat (0:Int)=List.replicate c.1.2.2.1.length (0:Int)∧
(0:Int)=(0:Int)∧True)))):=by kernel_rfl
theorem ajY (c:bP) (hp:cS c.1) (hE:xG c=0):bN (ah ay [(44,P2),(49,Yv),(50,NA),(52,IP),(51,VV),(54,IN),(53,VU)]) Tryz.f14 P8 aq (c,()):=by
 have H0:aK=9223372036854775807:=rfl
 rw[agB]
 have hB:=YF hE
 obtain⟨g1,g2,g3⟩:=Ah (p:=c.1) (by rw[hB])
 have AE:=(jB (gr g1).1)
 rw[hB] at g3
 rw[hB]
 refine U.mk fun y1 e1=>U.mk fun y2 e2=>U.mk fun y3 e3=>U.mk fun y4 e4=> ?_
 have h1:y1=false:=e1
 have h2:y2=false:=by rw[e2];simp
 have h3:y3=false:=by rw[e3,g1];rfl
 have h4:y4=some (np c.1):=by rw[e4];exact Rm g1
 rw[h1,h2,h3,h4,Ro]
 refine⟨hp,fun h=>(by cases h),fun _=>⟨trivial,fun h=>(by cases h),fun _=>⟨hp,fun h=>(by cases h),fun _=> ?_⟩⟩⟩
 exact⟨⟨by omega,by omega⟩,⟨c6 (by omega) (by decide),by omega⟩,⟨_,rfl⟩,trivial,trivial,⟨_,rfl⟩,⟨by omega,by omega⟩,⟨c6 (by omega) (by decide),by omega⟩,rfl,rfl,rfl,.refl _,.refl _,.refl _,.refl _,rfl,.refl _,rfl,rfl,trivial⟩
theorem ade:ew Tryz.prog 14 P8:=
 ew.bZ (l:=[(44,P2),(49,Yv),(50,NA),(52,IP),(51,VV),(54,IN),(53,VU)]) (A:=fun _=>aq) aH ⟨abc,ahn,abb,WR,ahm,WQ,ahk,trivial⟩ Tryz.func14 (by kernel_rfl) (by kernel_rfl) fun x hw hp=>ajY x.1 hp.1 hp.2
theorem v64 (c:(ab)×List (af)):bN (ah ay [(114,LL)]) Tryz.f64 Ys aq (c,())=(
((0:Int)≤(↑c.2.length:Int)∧(↑c.2.length:Int)≤(↑c.2.length:Int))∧
(roomFor (↑c.2.length:Int).toNat (48:Nat)∧(↑c.2.length:Int)≤(↑aK:Int))∧
True∧
((0:Int)≤(↑c.1.2.2.2.1.length:Int)∧(↑c.1.2.2.2.1.length:Int)≤(↑c.1.2.2.2.1.length:Int))∧
(roomFor (↑c.1.2.2.2.1.length:Int).toNat (8:Nat)∧(↑c.1.2.2.2.1.length:Int)≤(↑aK:Int))∧
((0:Int)≤(↑c.1.2.2.1.length:Int)∧(↑c.1.2.2.1.length:Int)≤(↑c.1.2.2.1.length:Int))∧
(roomFor (↑c.1.2.2.1.length:Int).toNat (8:Nat)∧(↑c.1.2.2.1.length:Int)≤(↑aK:Int))∧
c=c∧
List.replicate (↑c.2.length:Int).toNat ((0:Int),(0:Int),false,[])=List.replicate c.2.length gR∧
min (max (↑c.1.1.length:Int) (0:Int)) (40:Int)=min (max (↑c.1.1.length:Int) (0:Int)) (40:Int)∧
([]:List (T1))=[]∧
List.replicate (↑c.1.2.2.2.1.length:Int).toNat (0:Int)=List.replicate c.1.2.2.2.1.length (0:Int)∧
List.replicate (↑c.1.2.2.1.length:Int).toNat (0:Int)=List.replicate c.1.2.2.1.length (0:Int)∧True):=by kernel_rfl
theorem b64 (c:bP) (hp:Mb c):bN (ah ay [(114,LL)]) Tryz.f64 Ys aq (c,()):=by
 have H0:aK=9223372036854775807:=rfl
 have h1:c.2.length≤1000:=hp.1
 have h2:c.1.2.2.2.1.length≤1000:=hp.2.2.2.2.1
 have h3:c.1.2.2.1.length≤1000:=hp.2.2.2.1
 rw[v64]
 exact⟨⟨by omega,by omega⟩,⟨c6 (by omega) (by decide),by omega⟩,trivial,⟨by omega,by omega⟩,⟨c6 (by omega) (by decide),by omega⟩,⟨by omega,by omega⟩,⟨c6 (by omega) (by decide),by omega⟩,rfl,rfl,rfl,rfl,rfl,rfl,trivial⟩
theorem ahf:ew Tryz.prog 64 Ys:=
 ew.bZ (l:=[(114,LL)]) (A:=fun _=>aq) aH ⟨adr,trivial⟩ Tryz.func64 (by kernel_rfl) (by kernel_rfl) fun x hw hp=>b64 x.1 hp
theorem v23 (p:ab):ai (ah ay [(13,V0)]) Tryz.f23 BU aq (p,())=(
True∧(ct p).2=(ct p).2∧True):=by kernel_rfl
theorem ahx:aM Tryz.prog 23 BU:=
 aM.bZ (l:=[(13,V0)]) (A:=fun _=>aq) aH ⟨abi,trivial⟩ Tryz.func23 (by kernel_rfl) (by kernel_rfl) fun x hw hp=>by
  obtain⟨p,⟨⟩⟩:=x
  rw[v23]
  exact⟨trivial,rfl,trivial⟩
theorem P0 {p:ab} (h:(ct p).2=true):cx p=(gu p,0):=by
 have hf:=(wm h).ai3
 unfold ct at h
 rw[hf] at h
 have h0:(cx p).2=0:=eq_of_beq h
 obtain⟨_,g2,_⟩:=Ah h0
 refine J9 (J9 g2 ?_) h0
 unfold ct
 rw[hf]
 rfl
theorem JJ {p:ab} (h:(ct p).2=true):xG (gu p)=0:=by
 have hB:=P0 h
 unfold xG
 show(bif !((cx p).2==0) then(cx p).2 else bif gu p==(cx p).1 then 0 else 1)=0
 rw[hB]
 simp
theorem qe {p:ab} (h:bV p=0):p.1.length≤40∧p.2.2.1.length≤24∧p.2.2.2.1.length≤4∧p.2.1.length≤80∧1≤p.1.length:=by
 obtain⟨h1,h2,_⟩:=gr h
 have:=jB h1
 refine⟨this.1,this.2.1,this.2.2.1,this.2.2.2,?_⟩
 unfold fArgs oH at h2
 simp only[Bool.and_eq_true,Bool.not_eq_true',decide_eq_false_iff_not] at h2
 have:=h2.1.2.2.2.2
 omega
theorem yH {p:ab} (h:pL p):kG p:=by
 have:=qe h.check
 exact⟨by show _≤1000;omega,by show _≤1000;omega,by show _≤1000;omega,by show _≤1000;omega,h.short⟩
theorem v25 (p:ab):bN (ah ay [(13,V0),(14,P8),(64,Ys)]) Tryz.f25 Dq aq (p,())=(
U (List.replicate (ct p).1.length gR) fun(y1:List cM)=>
True∧
((!(ct p).2)=true→False)∧
((!(ct p).2)=false→
(cS p∧xG (p,(ct p).1)=(0:Int))∧
(((0:Int) !=(0:Int))=true→False)∧
(((0:Int) !=(0:Int))=false→
Mb (p,(ct p).1)∧
(p,(ct p).1)=gu p∧
y1=y1∧
max (0:Int) (min (↑p.1.length:Int) (40:Int))=max (0:Int) (min (↑p.1.length:Int) (40:Int))∧
([]:List (Int×List Int)).Perm []∧
([]:List (Int×List Int)).Perm []∧
([]:List (Int×List (Int×Int))).Perm []∧
([]:List (Int×List (Int×Int))).Perm []∧
some (np p)=some (np p)∧
([]:List ((Int×Int)×Bool)).Perm []∧
List.replicate p.2.2.1.length (0:Int)=List.replicate p.2.2.1.length (0:Int)∧
(p,(ct p).1)=gu p∧
y1=y1∧
min (max (↑p.1.length:Int) (0:Int)) (40:Int)=min (max (↑p.1.length:Int) (0:Int)) (40:Int)∧
([]:List (T1))=[]∧
List.replicate p.2.2.2.1.length (0:Int)=List.replicate p.2.2.2.1.length (0:Int)∧
List.replicate p.2.2.1.length (0:Int)=List.replicate p.2.2.1.length (0:Int)∧True))):=by kernel_rfl
theorem abg:ew Tryz.prog 25 Dq:=
 ew.bZ (l:=[(13,V0),(14,P8),(64,Ys)]) (A:=fun _=>aq) aH ⟨abi,ade,ahf,trivial⟩ Tryz.func25 (by kernel_rfl) (by kernel_rfl) fun x hw hp=>by
  obtain⟨p,⟨⟩⟩:=x
  have hp:(ct p).2=true:=hp
  have hr:=wm hp
  rw[v25]
  refine U.mk fun y1 e1=>⟨trivial,fun h=>(by rw[hp] at h;cases h),fun _=>⟨⟨hr.short,JJ hp⟩,fun h=>(by cases h),fun _=>⟨⟨by show(ct p).1.length≤1000;have:=hr.len;omega,yH hr⟩,rfl,rfl,rfl,.refl _,.refl _,.refl _,.refl _,rfl,.refl _,rfl,rfl,rfl,rfl,rfl,rfl,rfl,trivial⟩⟩⟩
theorem uk {α:Type} {n:Nat} {d:α} {l:List α} {k:Nat} (h:k≤min l.length n):(kh n d l k).length=n:=by
 unfold kh
 rw[List.length_append,List.length_take,List.length_replicate]
 omega
theorem vj {α:Type} (n:Nat) (d:α) (l:List α):kh n d l 0=List.replicate n d:=by unfold kh;rfl
theorem vk {α:Type} {n:Nat} {d:α} {l:List α} {k:Nat} (h:k<min l.length n):kh n d l (k+1)=(kh n d l k).set k (l.getD k d):=by
 unfold kh
 have e:n - k=(n - (k+1))+1:=by omega
 have hl:(l.take k).length=k:=by rw[List.length_take];omega
 rw[List.set_append_right _ _ (by omega),hl,Nat.sub_self,e,List.replicate_succ,List.set_cons_zero,eM d (by omega),List.append_assoc]
 rfl
theorem um {α:Type} {n:Nat} {d:α} {l:List α}:kh n d l (min l.length n)=rowOf n d l:=by
 unfold kh rowOf
 rcases Nat.le_total l.length n with h|h
 ·rw[Nat.min_eq_left h,List.take_length,List.take_of_length_le h]
 ·rw[Nat.min_eq_right h,show n - n=n - l.length by omega]
theorem QL {α:Type} (n:Nat) (d:α) (l:List α):(rowOf n d l).length=n:=by
 rw[←um]
 exact uk (Nat.le_refl _)
theorem IX (s a b:Nat):(bif decide ((s:Int)<(a:Int)) then decide ((s:Int)<(b:Int)) else false)=decide (s<min a b):=by
 rw[Aj,←Bool.decide_and]
 exact decide_eq_decide.2 (by omega)
def Zh (p:ab) (y3:List Bool) (R:Prop):Prop:=List.replicate p.fst.length (0:Int)=List.replicate p.fst.length (0:Int)∧y3=y3∧y3=y3∧R
def Zg (o:List Bool) (l:List Int) (y4:List Bool) (R:Prop):Prop:=o=o∧l=l∧y4=y4∧R
theorem v36 (p:ab) (o:List Bool) (l:List Int):bN (ah ay []) Tryz.f36 NC (a36 (p,o,l,())) (p,o,l,())=(
U (List.replicate p.2.2.1.length false) fun(y3:List Bool)=>
U (rowOf p.1.length false o) fun(y4:List Bool)=>
((0:Int)≤(↑p.1.length:Int)∧
(↑p.1.length:Int)≤(↑p.1.length:Int))∧
(roomFor (↑p.1.length:Int).toNat (1:Nat)∧
(↑p.1.length:Int)≤(↑aK:Int))∧
((0:Int)≤(↑p.1.length:Int)∧
(↑p.1.length:Int)≤(↑p.1.length:Int))∧
(roomFor (↑p.1.length:Int).toNat (8:Nat)∧
(↑p.1.length:Int)≤(↑aK:Int))∧
((0:Int)≤(↑p.2.2.1.length:Int)∧
(↑p.2.2.1.length:Int)≤(↑p.2.2.1.length:Int))∧
(roomFor (↑p.2.2.1.length:Int).toNat (1:Nat)∧
(↑p.2.2.1.length:Int)≤(↑aK:Int))∧
((0:Int)≤(↑p.2.2.1.length:Int)∧
(↑p.2.2.1.length:Int)≤(↑p.2.2.1.length:Int))∧
(roomFor (↑p.2.2.1.length:Int).toNat (1:Nat)∧
(↑p.2.2.1.length:Int)≤(↑aK:Int))∧
(∃(sW:Nat),sW≤min o.length p.1.length∧
(↑sW:Int)=(0:Int)∧o=o∧l=l∧kh p.1.length false o sW=List.replicate (↑p.1.length:Int).toNat false∧List.replicate p.1.length (0:Int)=List.replicate (↑p.1.length:Int).toNat (0:Int)∧y3=List.replicate (↑p.2.2.1.length:Int).toNat false∧y3=List.replicate (↑p.2.2.1.length:Int).toNat false∧aE p (True))∧∀(s5:Nat),U (kh p.1.length false o s5) fun(y6:List Bool)=>
U (bif decide ((↑s5:Int)<(↑o.length:Int)) then decide ((↑s5:Int)<(↑y6.length:Int)) else false) fun(y7:Bool)=>
s5≤min o.length p.1.length→
(y7=true→aQ (↑s5:Int) o.length∧aQ (↑s5:Int) y6.length∧bq IntKind.i64 ((↑s5:Int)+(1:Int))∧∃(kf:Nat),kf≤min o.length p.1.length∧o.length - kf<o.length - s5∧
(↑kf:Int)=(↑s5:Int)+(1:Int)∧o=o∧l=l∧kh p.1.length false o kf=y6.set (↑s5:Int).toNat (o.getD (↑s5:Int).toNat false)∧Zh p y3 (aE p (True)))∧
(y7=false→
(∃(mL:Nat),mL≤min l.length p.1.length∧
(↑mL:Int)=(0:Int)∧o=o∧l=l∧y4=y6∧kh p.1.length (0:Int) l mL=List.replicate p.1.length (0:Int)∧y3=y3∧y3=y3∧aE p (True))∧∀(s8:Nat),U (kh p.1.length (0:Int) l s8) fun(y9:List Int)=>
U (bif decide ((↑s8:Int)<(↑l.length:Int)) then decide ((↑s8:Int)<(↑y9.length:Int)) else false) fun(bp:Bool)=>
s8≤min l.length p.1.length→
(bp=true→aQ (↑s8:Int) l.length∧aQ (↑s8:Int) y9.length∧bq IntKind.i64 ((↑s8:Int)+(1:Int))∧∃(jy:Nat),jy≤min l.length p.1.length∧l.length - jy<l.length - s8∧
(↑jy:Int)=(↑s8:Int)+(1:Int)∧Zg o l y4 (kh p.1.length (0:Int) l jy=y9.set (↑s8:Int).toNat (l.getD (↑s8:Int).toNat (0:Int))∧y3=y3∧y3=y3∧aE p (True)))∧
(bp=false→y4=y4∧y9=rowOf p.1.length (0:Int) l∧y3=y3∧y3=y3∧True))):=by kernel_rfl
theorem b36 (p:ab) (o:List Bool) (l:List Int) (hp:kG p) (ho:o.length≤aK) (hl:l.length≤aK):bN (ah ay []) Tryz.f36 NC (a36 (p,o,l,())) (p,o,l,()):=by
 have H0:aK=9223372036854775807:=rfl
 have h1:p.1.length≤1000:=hp.1
 have h3:p.2.2.1.length≤1000:=hp.2.2.1
 rw[v36]
 simp only[dz,Zh,Zg,true_and,and_true,eq_self,Int.toNat_natCast]
 refine U.mk fun y3 e3=>U.mk fun y4 e4=>⟨⟨by omega,by omega⟩,⟨c6 (by omega) (by decide),by omega⟩,⟨by omega,by omega⟩,⟨c6 (by omega) (by decide),by omega⟩,⟨by omega,by omega⟩,⟨c6 (by omega) (by decide),by omega⟩,⟨by omega,by omega⟩,⟨c6 (by omega) (by decide),by omega⟩,⟨0,Nat.zero_le _,rfl,vj _ _ _,e3,e3⟩,?_⟩
 intro s
 refine U.mk fun y6 e6=>U.mk fun y7 e7 hs=> ?_
 have h6:y6.length=p.1.length:=by rw[e6];exact uk hs
 have e7:y7=decide (s<min o.length p.1.length):=by
  rw[e7,h6];exact IX _ _ _
 refine⟨fun h=> ?_,fun h=> ?_⟩
 ·have h:=of_decide_eq_true (e7.symm.trans h)
  refine⟨⟨by omega,by omega⟩,⟨by omega,by omega⟩,bg (by omega) (by omega),s+1,by omega,by omega,by omega,?_⟩
  rw[vk h,←e6]
 have h:=of_decide_eq_false (e7.symm.trans h)
 have Pn:s=min o.length p.1.length:=by omega
 have X9:y4=y6:=by rw[e4,e6,Pn,um]
 refine⟨⟨0,Nat.zero_le _,rfl,X9,vj _ _ _⟩,?_⟩
 intro t
 refine U.mk fun y9 e9=>U.mk fun bp du ht=> ?_
 have h9:y9.length=p.1.length:=by rw[e9];exact uk ht
 have du:bp=decide (t<min l.length p.1.length):=by
  rw[du,h9];exact IX _ _ _
 refine⟨fun h=> ?_,fun h=> ?_⟩
 ·have h:=of_decide_eq_true (du.symm.trans h)
  refine⟨⟨by omega,by omega⟩,⟨by omega,by omega⟩,bg (by omega) (by omega),t+1,by omega,by omega,by omega,?_⟩
  rw[vk h,←e9]
 ·have h:=of_decide_eq_false (du.symm.trans h)
  have Az:t=min l.length p.1.length:=by omega
  rw[e9,Az,um]
theorem abd:ew Tryz.prog 36 NC:=
 ew.bZ (l:=[]) (A:=a36) aH trivial Tryz.func36 (by kernel_rfl) (by kernel_rfl) fun x hw hp=>b36 x.1 x.2.1 x.2.2.1 hp hw.2.1.1 hw.2.2.1.1
def SE (a:Int×List Bool×List Int×List Int×List Int×List Int) (R:Prop):Prop:=a.snd.fst=a.snd.fst∧a.snd.snd.fst=a.snd.snd.fst∧a.snd.snd.snd.fst=a.snd.snd.snd.fst∧a.snd.snd.snd.snd.fst=a.snd.snd.snd.snd.fst∧a.snd.snd.snd.snd.snd=a.snd.snd.snd.snd.snd∧R
theorem v27 (p:ab) (a:Int×List Bool×List Int×List Int×List Int×List Int):bN (ah ay [(36,NC)]) Tryz.f27 JI (a27 (p,a,())) (p,a,())=(
U (rowOf p.1.length false a.2.1) fun(y2:List Bool)=>
U (rowOf p.1.length (0:Int) a.2.2.1) fun(y3:List Int)=>
U (List.map Gv a.2.2.2.1) fun(y4:List Bool)=>
U (List.replicate p.2.2.1.length false) fun(y5:List Bool)=>
U (List.map z8 a.2.2.2.1) fun(y6:List Bool)=>
kG p∧
(∃(kZ:Nat),kZ≤min a.2.2.2.1.length p.2.2.1.length∧
(↑kZ:Int)=(0:Int)∧y2=rowOf p.1.length false a.2.1∧y3=rowOf p.1.length (0:Int) a.2.2.1∧kh p.2.2.1.length false y4 kZ=y5∧kh p.2.2.1.length false y6 kZ=y5∧aE p (a.1=a.1∧SE a (True)))∧∀(s7:Nat),U (kh p.2.2.1.length false y4 s7) fun(y8:List Bool)=>
U (bif decide ((↑s7:Int)<(↑y8.length:Int)) then decide ((↑s7:Int)<(↑a.2.2.2.1.length:Int)) else false) fun(y9:Bool)=>
U (kh p.2.2.1.length false y6 s7) fun(bp:List Bool)=>
U ((a.2.2.2.1.getD (↑s7:Int).toNat (0:Int)).tmod (3:Int)) fun(bI:Int)=>
s7≤min a.2.2.2.1.length p.2.2.1.length→
(y9=true→aQ (↑s7:Int) a.2.2.2.1.length∧
(3:Int)≠(0:Int)∧aQ (↑s7:Int) y8.length∧aQ (↑s7:Int) a.2.2.2.1.length∧
(3:Int)≠(0:Int)∧aQ (↑s7:Int) bp.length∧bq IntKind.i64 ((↑s7:Int)+(1:Int))∧∃(nn:Nat),nn≤min a.2.2.2.1.length p.2.2.1.length∧p.2.2.1.length - nn<p.2.2.1.length - s7∧
(↑nn:Int)=(↑s7:Int)+(1:Int)∧y2=y2∧y3=y3∧kh p.2.2.1.length false y4 nn=y8.set (↑s7:Int).toNat (decide (bI>(0:Int)))∧kh p.2.2.1.length false y6 nn=bp.set (↑s7:Int).toNat (bI==(2:Int))∧aE p (a.1=a.1∧SE a (True)))∧
(y9=false→
((a.1==(2:Int))=true→bq IntKind.i64 ((↑y2.length:Int) - (1:Int))∧
((0:Int)≤(↑y2.length:Int) - (1:Int)∧
(↑y2.length:Int) - (1:Int)≤(↑y2.length:Int))∧
(0:Nat)<y2.length∧List.take ((↑y2.length:Int) - (1:Int)).toNat y2=(oe p a).1∧y3=(oe p a).2.1∧y8=(oe p a).2.2.1∧bp=(oe p a).2.2.2∧True)∧
((a.1==(2:Int))=false→y2=(oe p a).1∧y3=(oe p a).2.1∧y8=(oe p a).2.2.1∧bp=(oe p a).2.2.2∧True))):=by kernel_rfl
theorem b27 (p:ab) (a:oN) (hp:Cg p):bN (ah ay [(36,NC)]) Tryz.f27 JI (a27 (p,a,())) (p,a,()):=by
 have h3:p.2.2.1.length≤1000:=hp.1.2.2.1
 have h1:p.1.length≤1000:=hp.1.1
 rw[v27]
 simp only[dz,SE,true_and,and_true,eq_self,Int.toNat_natCast]
 refine U.mk fun y2 e2=>U.mk fun y3 e3=>U.mk fun y4 e4=>U.mk fun y5 e5=>U.mk fun y6 e6=> ?_
 have h4:y4.length=a.2.2.2.1.length:=by rw[e4,List.length_map]
 have h6:y6.length=a.2.2.2.1.length:=by rw[e6,List.length_map]
 have h2:y2.length=p.1.length:=by rw[e2];exact QL _ _ _
 refine⟨hp.1,⟨0,Nat.zero_le _,rfl,e2,e3,by rw[e5];exact vj _ _ _,by rw[e5];exact vj _ _ _⟩,?_⟩
 intro s
 refine U.mk fun y8 e8=>U.mk fun y9 e9=>U.mk fun bp du=>U.mk fun bI eH hs=> ?_
 have h8:y8.length=p.2.2.1.length:=by rw[e8];exact uk (by rw[h4];exact hs)
 have jF:bp.length=p.2.2.1.length:=by rw[du];exact uk (by rw[h6];exact hs)
 have e9:y9=decide (s<min a.2.2.2.1.length p.2.2.1.length):=by
  rw[e9,h8];rw[Nat.min_comm];exact IX _ _ _
 refine⟨fun h=> ?_,fun h=> ?_⟩
 ·have h:=of_decide_eq_true (e9.symm.trans h)
  have hg:s<a.2.2.2.1.length:=by omega
  refine⟨⟨by omega,by omega⟩,by decide,⟨by omega,by omega⟩,⟨by omega,by omega⟩,by decide,⟨by omega,by omega⟩,bg (by omega) (by omega),s+1,by omega,by omega,by omega,?_,?_⟩
  ·rw[vk (by rw[h4];exact h),←e8,e4,List.getD_eq_getElem?_getD,List.getElem?_map,List.getElem?_eq_getElem hg,eH,eA 0 hg]
   rfl
  ·rw[vk (by rw[h6];exact h),←du,e6,List.getD_eq_getElem?_getD,List.getElem?_map,List.getElem?_eq_getElem hg,eH,eA 0 hg]
   rfl
 ·have h:=of_decide_eq_false (e9.symm.trans h)
  have Pn:s=min a.2.2.2.1.length p.2.2.1.length:=by omega
  have e8':y8=rowOf p.2.2.1.length false (a.2.2.2.1.map Gv):=by rw[e8,Pn,←h4,um,e4]
  have ajb:bp=rowOf p.2.2.1.length false (a.2.2.2.1.map z8):=by rw[du,Pn,←h6,um,e6]
  have hF:oe p a=(wb p a,y3,y8,bp):=by unfold oe;rw[e3,e8',ajb]
  rw[hF]
  refine⟨fun hd=>⟨bg (by omega) (by omega),⟨by have:=hp.2;omega,by omega⟩,by have:=hp.2;omega,?_,rfl,rfl,rfl⟩,fun hd=>⟨?_,rfl,rfl,rfl⟩⟩
  ·show _=wb p a
   unfold wb
   rw[hd,cond_true,←e2,h2]
   congr 1
   omega
  ·show _=wb p a
   unfold wb
   rw[hd,cond_false,←e2]
theorem ahv:ew Tryz.prog 27 JI:=
 ew.bZ (l:=[(36,NC)]) (A:=a27) aH ⟨abd,trivial⟩ Tryz.func27 (by kernel_rfl) (by kernel_rfl) fun x hw hp=>b27 x.1 x.2.1 hp
theorem v24 (l:List (Int×List Bool×List Int×List Int×List Int×List Int)):ai (ah ay []) Tryz.f24 VY (a24 (l,())) (l,())=(
U (decide ((↑l.length:Int)>(40:Int))) fun(y1:Bool)=>
(y1=true→false=rK l∧True)∧
(y1=false→
(∃(dp:Nat),(dp≤l.length∧(List.take dp l).any q9=false)∧(↑dp:Int)=(0:Int)∧l=l∧True)∧
∀(s2:Nat),
U (decide ((↑s2:Int)<(↑l.length:Int))) fun(y3:Bool)=>
U (l.getD (↑s2:Int).toNat ((0:Int),[],[],[],[],[])).2 fun(y4:List Bool×List Int×List Int×List Int×List Int)=>
U (decide ((↑y4.1.length:Int)>(60:Int))) fun(y5:Bool)=>
U (bif y5 then true else decide ((↑y4.2.1.length:Int)>(60:Int))) fun(y6:Bool)=>
U (bif y6 then true else decide ((↑y4.2.2.1.length:Int)>(60:Int))) fun(y7:Bool)=>
U (bif y7 then true else decide ((↑y4.2.2.2.1.length:Int)>(20:Int))) fun(y8:Bool)=>
U (bif y8 then true else decide ((↑y4.2.2.2.2.length:Int)>(20:Int))) fun(y9:Bool)=>
s2≤l.length∧(List.take s2 l).any q9=false→
(y3=true→
aQ (↑s2:Int) l.length∧
(y5=false→aQ (↑s2:Int) l.length)∧
(y6=false→aQ (↑s2:Int) l.length)∧
(y7=false→aQ (↑s2:Int) l.length)∧
(y8=false→aQ (↑s2:Int) l.length)∧
(y9=true→false=rK l∧True)∧
(y9=false→
bq IntKind.i64 ((↑s2:Int)+(1:Int))∧
∃(cU:Nat),
(cU≤l.length∧(List.take cU l).any q9=false)∧l.length - cU<l.length - s2∧(↑cU:Int)=(↑s2:Int)+(1:Int)∧l=l∧True))∧
(y3=false→true=rK l∧True))):=by kernel_rfl
theorem b24 (l:List oN) (hl:l.length≤aK):ai (ah ay []) Tryz.f24 VY (a24 (l,())) (l,()):=by
 have H0:aK=9223372036854775807:=rfl
 rw[v24]
 refine U.mk fun y1 e1=>⟨fun h=>⟨?_,trivial⟩,fun h=> ?_⟩
 ·unfold rK
  rw[show decide (40<(l.length:Int))=true from e1.symm.trans h]
  rfl
 have MW:decide (40<(l.length:Int))=false:=e1.symm.trans h
 have anB:=of_decide_eq_false MW
 refine⟨⟨0,⟨Nat.zero_le _,rfl⟩,rfl,rfl,trivial⟩,?_⟩
 intro s
 refine U.mk fun y3 e3=>U.mk fun y4 e4=>U.mk fun y5 e5=>U.mk fun y6 e6=>U.mk fun y7 e7=>U.mk fun y8 e8=>U.mk fun y9 e9=> ?_
 rintro⟨hs,nD⟩
 rw[Int.toNat_natCast] at *
 refine⟨fun h=> ?_,fun h=> ?_⟩
 ·have h:=of_decide_eq_true (e3.symm.trans h)
  have dK:s<l.length:=by omega
  have h9:y9=q9 (l.getD s Cc):=by
   have key:∀a b c d e:Bool,(bif(bif(bif(bif a then true else b) then true else c) then true else d) then true else e)=(a||(b||(c||(d||e)))):=by decide
   rw[e9,e8,e7,e6,e5,e4,key]
   rfl
  refine⟨⟨by omega,by omega⟩,fun _=>⟨by omega,by omega⟩,fun _=>⟨by omega,by omega⟩,fun _=>⟨by omega,by omega⟩,fun _=>⟨by omega,by omega⟩,fun hb=>⟨?_,trivial⟩,fun hb=>⟨bg (by omega) (by omega),s+1,⟨by omega,?_⟩,by omega,by omega,rfl,trivial⟩⟩
  ·have:l.any q9=true:=List.any_eq_true.2 ⟨_,fw Cc dK,h9.symm.trans hb⟩
   unfold rK
   rw[this,Bool.or_true]
   rfl
  ·rw[eM Cc dK,List.any_append,nD,List.any_cons,List.any_nil,←h9,hb]
   rfl
 ·have h:=of_decide_eq_false (e3.symm.trans h)
  have:s=l.length:=by omega
  rw[this,List.take_length] at nD
  unfold rK
  rw[MW,nD]
  exact⟨rfl,trivial⟩
theorem ahw:aM Tryz.prog 24 VY:=
 aM.bZ (l:=[]) (A:=a24) aH trivial Tryz.func24 (by kernel_rfl) (by kernel_rfl) fun x hw hp=>b24 x.1 hw.1.1
theorem FQ {p:ab} (h:pL p):lp (gu p) where
 ok:=⟨⟨h.check,h.short⟩,fun r hr=>by
  have hg:=Hi h hr
  exact⟨Oz h hr,by have:=hg.yl;show _≤1000;omega⟩⟩
 qF r hr:=Hi h hr
 Nr:=h.len
 elems:=(qe h.check).1
 sigs:=(qe h.check).2.1
theorem Ev (c:bP):lX c (List.replicate c.2.length gR)=fun _=>none:=by
 funext o
 refine KC ?_
 rw[List.getD_eq_getElem?_getD,List.getElem?_replicate]
 split<;>rfl
theorem Sp (n:Int):cI (fun _=>none) ((n,[],[],[],[]):av) where
 k1:=List.nodup_nil
 k2:=List.nodup_nil
 k3:=List.nodup_nil
 k4:=List.nodup_nil
 g1 _:=rfl
 g2 _:=rfl
 g3 _:=rfl
 g4 _:=rfl
theorem inv_zero {c:bP} (hc:lp c):Inv c (List.replicate c.2.length gR) (YG c.1) where
 len:=List.length_replicate
 Fu i hi:=by
  rw[List.getD_eq_getElem?_getD,List.getElem?_replicate,if_pos hi]
  exact .inl rfl
 size:=by
  have:=hc.elems
  show max 0 (min (c.1.1.length:Int) 40)=_
  omega
 book:=by rw[Ev];exact Sp _
 x6:=by rw[Ev];exact⟨fun _ _ _ _ _ h=>(by cases h),fun _ _ _ _ h=>(by cases h)⟩
 clear:=fun _ _ _ _ _ h=>by rw[Ev] at h;cases h
theorem LP {p:ab} (h:(ct p).2=true):lZ (LQ (gu p)):=by
 have hr:=wm h
 have hc:=FQ hr
 refine⟨hc,inv_zero hc,⟨_,rfl,OR (by have:=(qe hr.check).2.2.1;show p.2.2.2.1.length≤_;omega)⟩,?_⟩
 show(List.replicate p.2.2.1.length (0:Int)).length≤1000
 rw[List.length_replicate]
 have:=(qe hr.check).2.1
 omega
theorem Ai {W:gh} (h:lZ W) (inn:iO) (calls bw:List Int):lZ (jU W inn calls bw).1:=by
 unfold jU
 split
 ·refine⟨h.Kv,?_,?_,?_⟩
  ·exact Inv.calls h.Kv (s:=((pz W.1 (ko W.1.1 inn) (iF bw bw.length) (W.2.1,W.2.2.1) W.2.1.length).1,(pz W.1 (ko W.1.1 inn) (iF bw bw.length) (W.2.1,W.2.2.1) W.2.1.length).2,W.2.2.2.1,[]))
    (Inv.roads (s:=(W.2.1,W.2.2.1)) h.inv _ (by rw[h.inv.len];exact Nat.le_refl _)) _
  ·have:=BQ (c:=W.1) (inn:=ko W.1.1 inn) (l:=calls) (s:=((pz W.1 (ko W.1.1 inn) (iF bw bw.length) (W.2.1,W.2.2.1) W.2.1.length).1,(pz W.1 (ko W.1.1 inn) (iF bw bw.length) (W.2.1,W.2.2.1) W.2.1.length).2,W.2.2.2.1,[])) calls.length
   show gL (QE W inn calls bw).2.2.1.1
   unfold QE
   rw[this]
   exact h.net
  ·show(iM W.1 _).length≤1000
   rw[DC]
   have:=h.Kv.sigs
   omega
 ·exact h
theorem Ob (W:gh) (inn:iO) (calls bw:List Int):(jU W inn calls bw).1.1=W.1:=by
 unfold jU
 split<;>rfl
def aeO (p:ab) (W:gh) (a:oN):gh:=(jU W (oe p a) a.2.2.2.2.1 a.2.2.2.2.2).1
def gg (p:ab) (l:List oN):Nat→gh
 |0=>LQ (gu p)
 |k+1=>aeO p (gg p l k) (l.getD k Cc)
theorem Hc {p:ab} (h:(ct p).2=true) (l:List oN):∀k,lZ (gg p l k)
 |0=>LP h
 |k+1=>Ai (Hc h l k) _ _ _
theorem He (p:ab) (l:List oN):∀k,(gg p l k).1=gu p
 |0=>rfl
 |k+1=>(Ob _ _ _ _).trans (He p l k)
theorem Vh {c:bP} {ls:List cM} {b:av} (h:Inv c ls b) {k:Nat} (hk:k<c.2.length):gE b (k:Int)= !((ls.getD k gR).1==0):=by
 rw[h.book.has]
 by_cases h0:(ls.getD k gR).1=0
 ·rw[KC (by rw[Int.toNat_natCast];exact h0),h0]
  rfl
 ·have he:=Df (c:=c) (ls:=ls) (o:=(k:Int)) ⟨by omega,by omega⟩ (by rw[Int.toNat_natCast];exact h0)
  have:=h.full _ _ he
  rw[he,beq_false_of_ne h0]
  exact this
theorem ag0 {c:bP} (hc:lp c) {ls:List cM} {b:av} (h:Inv c ls b) {k j:Nat} (hk:k<c.2.length) (h0:(ls.getD k gR).1≠0) (hj:j<(aF c (k:Int)).2.2.2.1.length):
  (eT b (fP (aF c (k:Int)).2.2.2.1 j).1==(k:Int))=decide ((ls.getD k gR).2.1≤(j:Int)):=by
 have he:=Df (c:=c) (ls:=ls) (o:=(k:Int)) ⟨by omega,by omega⟩ (by rw[Int.toNat_natCast];exact h0)
 rw[Int.toNat_natCast] at he
 have hr:=hc.qF _ (jN (c:=c) (o:=(k:Int)) ⟨by omega,by omega⟩)
 have hl:=h.Fu k hk
 have M9:=rO (aF c (k:Int))
 obtain⟨fr,uJ⟩:∃fr:Nat,(ls.getD k gR).2.1=(fr:Int):=by
  rcases hl with e|e
  ·rw[e] at h0;exact absurd rfl h0
  ·exact⟨(ls.getD k gR).2.1.toNat,by omega⟩
 rw[uJ,Int.toNat_natCast] at he
 rw[PW,uJ]
 have hjl:j<(cm (aF c (k:Int))).length:=by omega
 by_cases AE:fr≤j
 ·rw[decide_eq_true (by omega)]
  have hm:bG (lW (aF c (k:Int)) fr).1 ((cm (aF c (k:Int))).getD j 0)=true:=by
   refine Jd ?_
   show _∈(cm (aF c (k:Int))).drop fr
   refine List.mem_iff_getElem?.2 ⟨j - fr,?_⟩
   rw[List.getElem?_drop,show fr+(j - fr)=j by omega,List.getElem?_eq_getElem hjl,eA 0 hjl]
  rw[h.book.owner h.x6 he hm]
  exact beq_self_eq_true _
 ·rw[decide_eq_false (by omega)]
  refine beq_false_of_ne fun e=> ?_
  rcases h.book.xm h.x6 ((cm (aF c (k:Int))).getD j 0) with ⟨o,x,h1,h2,h3⟩|⟨_,h3⟩
  ·have ho:o=(k:Int):=h3.symm.trans e
   subst ho
   rw[he] at h1
   cases h1
   have hm:=CE h2
   have hm:(cm (aF c (k:Int))).getD j 0∈(cm (aF c (k:Int))).drop fr:=hm
   obtain⟨i,hi⟩:=List.mem_iff_getElem?.1 hm
   rw[List.getElem?_drop,eA 0 hjl] at hi
   have hnd:=hr.once
   have hil:fr+i<(cm (aF c (k:Int))).length:=(List.getElem?_eq_some_iff.1 hi).1
   rw[List.getElem?_eq_getElem hil] at hi
   have:=(List.getElem_inj hnd).1 (Option.some.inj hi)
   omega
  ·omega
theorem UF {c:bP} {ls:List cM} {b:av} (h:Inv c ls b) {k:Int} {e:Int} (hk:0≤k) (ho:eT b e=k):kb b e=[]:=by
 rcases h.book.xm h.x6 e with ⟨o,x,h1,h2,h3⟩|⟨_,h3⟩
 ·refine List.eq_nil_iff_forall_not_mem.2 fun z hz=> ?_
  obtain⟨y,h4,h5⟩:=(h.book.Qq e z).1 hz
  rw[h.clear _ _ _ _ _ h1 h4 h2] at h5
  cases h5
 ·omega
theorem Qs {c:bP} {ls:List cM} {b:av} (h:Inv c ls b) {k:Nat} (hk:k<c.2.length) (h0:(ls.getD k gR).1≠0) {e:Int} (he:e∈(aF c (k:Int)).2.2.2.2.2.2.1):eT b e<0∧bG (kb b e) (k:Int)=true:=by
 have abz:=Df (c:=c) (ls:=ls) (o:=(k:Int)) ⟨by omega,by omega⟩ (by rw[Int.toNat_natCast];exact h0)
 have hm:=Jd he
 refine⟨?_,Jd ((h.book.Qq e (k:Int)).2 ⟨_,abz,hm⟩)⟩
 rcases h.book.xm h.x6 e with ⟨o,x,h1,h2,h3⟩|⟨_,h3⟩
 ·have:=h.clear _ _ _ _ _ h1 abz h2
  rw[show bG (lW (aF c (k:Int)) (ls.getD (k:Int).toNat gR).2.1.toNat).2.1 e=true from hm] at this
  cases this
 ·omega
def VW:bh where
 args:=[.list I,.list I]
 out:= .data [.bool]
 pre:=fun(x:List Int×List Int×Unit)=>True
 fn:=fun(x:List Int×List Int×Unit)=>(x.1==x.2.1,())
def TC:bh where
 args:=[.ref rb,I]
 out:= .fresh [.list I]
 pre:=fun(x:av×Int×Unit)=>o7 x.1 x.2.1
 fn:=fun(x:av×Int×Unit)=>(kb x.1 x.2.1,())
def V1:bh where
 args:=[]
 out:= .data [.bool]
 pre:=fun(x:Unit)=>True
 fn:=fun(x:Unit)=>(true,())
def TS (W:gh) (n:Nat):List (Nat×c5):=[
 (n,.cells (flat mH W.1++[.row ml (n+1),.ptr (n+2) 0,.ptr (n+7) 0,.row I (n+9)])),
 (n+2,.cells [.aC I W.2.2.1.1,.map I (.list I) (n+3),.map I (.list I) (n+4),.map I (.list ek) (n+5),.map I (.list ek) (n+6)]),
 (n+7,.cells [.aC (.ptr jn) W.2.2.2.1.1,.map lk .bool (n+8)]),
 (n+1,.row false 73 ml W.2.1),(n+9,.row false 3 I W.2.2.2.2),
 (n+3,.map false I (.list I) W.2.2.1.2.1 none),(n+4,.map false I (.list I) W.2.2.1.2.2.1 none),(n+5,.map false I (.list ek) W.2.2.1.2.2.2.1 none),(n+6,.map false I (.list ek) W.2.2.1.2.2.2.2 none),
 (n+8,.map false lk .bool W.2.2.2.1.2 none)]
def YJ (b:av) (n:Nat):List (Nat×c5):=[
 (n,.cells [.aC I b.1,.map I (.list I) (n+1),.map I (.list I) (n+2),.map I (.list ek) (n+3),.map I (.list ek) (n+4)]),
 (n+1,.map false I (.list I) b.2.1 none),(n+2,.map false I (.list I) b.2.2.1 none),(n+3,.map false I (.list ek) b.2.2.2.1 none),(n+4,.map false I (.list ek) b.2.2.2.2 none)]
def IY (W:gh):List (Nat×c5):=(2100,.row false 73 ml W.2.1)::(YJ W.2.2.1 2200++TS W 2000)
def c4:bh:=Ta [PlanT,.list ActT]
def a4 (x:ab×List oN×Unit):eC:=bj [
 (9,fun S=>{
  σ:=Nat
  ok:=fun k=>k≤x.2.1.length
  mu:=fun k=>x.2.1.length - k
  sl:=fun k=>[(7,.one (.aC I (k:Int))),(5,.one (.ptr 2000 0))]
  bl:=fun k=>TS (gg x.1 x.2.1 k) 2000
  keep:=[1,2]
  cy:=[2]}),
 (16,fun S=>{
  σ:=Nat
  ok:=fun k=>k≤(ct x.1).1.length
  mu:=fun k=>(ct x.1).1.length - k
  sl:=fun k=>[(11,.one (.aC I (k:Int))),(5,.one (.ptr 2000 0)),(8,.one (.row ml 2100)),(9,.one (.ptr 2200 0))]
  bl:=fun k=>IY (gg x.1 x.2.1 ((dC S 7).toNat+1))
  keep:=[1,2,7,10]
  cy:=[2]}),
 (22,fun S=>{
  σ:=Nat
  ok:=fun k=>k≤(aF (gu x.1) (dC S 11)).2.2.2.1.length
  mu:=fun k=>(aF (gu x.1) (dC S 11)).2.2.2.1.length - k
  sl:=fun k=>[(12,.one (.aC I (k:Int))),(5,.one (.ptr 2000 0)),(8,.one (.row ml 2100)),(9,.one (.ptr 2200 0))]
  bl:=fun k=>IY (gg x.1 x.2.1 ((dC S 7).toNat+1))
  keep:=[1,2,7,10,11]
  cy:=[2]}),
 (28,fun S=>{
  σ:=Nat
  ok:=fun k=>k≤(aF (gu x.1) (dC S 11)).2.2.2.2.2.2.1.length
  mu:=fun k=>(aF (gu x.1) (dC S 11)).2.2.2.2.2.2.1.length - k
  sl:=fun k=>[(14,.one (.aC I (k:Int))),(5,.one (.ptr 2000 0)),(8,.one (.row ml 2100)),(9,.one (.ptr 2200 0))]
  bl:=fun k=>IY (gg x.1 x.2.1 ((dC S 7).toNat+1))
  keep:=[1,2,7,10,11]
  cy:=[2]})]
theorem ab6:aM Tryz.prog 30 TC:=WS.Ja rfl
theorem v46 (a:List Int) (b:List Int):ai (ah ay []) Tryz.f46 VW (a37 (a,b,())) (a,b,())=(
U ((↑a.length:Int) !=(↑b.length:Int)) fun(y2:Bool)=>
(y2=true→false=(a==b)∧True)∧
(y2=false→
(∃(fD:Nat),(fD≤a.length∧n6 a b fD)∧(↑fD:Int)=(0:Int)∧a=a∧b=b∧True)∧
∀(s3:Nat),
U (decide ((↑s3:Int)<(↑a.length:Int))) fun(y4:Bool)=>
U (a.getD (↑s3:Int).toNat (0:Int) !=b.getD (↑s3:Int).toNat (0:Int)) fun(y5:Bool)=>
s3≤a.length∧n6 a b s3→
(y4=true→
aQ (↑s3:Int) a.length∧
aQ (↑s3:Int) b.length∧
(y5=true→false=(a==b)∧True)∧
(y5=false→
bq IntKind.i64 ((↑s3:Int)+(1:Int))∧
∃(eR:Nat),(eR≤a.length∧n6 a b eR)∧a.length - eR<a.length - s3∧(↑eR:Int)=(↑s3:Int)+(1:Int)∧a=a∧b=b∧True))∧
(y4=false→true=(a==b)∧True))):=by kernel_rfl
theorem b46 (a:List Int) (b:List Int) (hw:a.length≤aK):ai (ah ay []) Tryz.f46 VW (a37 (a,b,())) (a,b,()):=by
 rw[v46]
 refine U.mk fun y2 e2=> ?_
 simp only[true_and,and_true,Int.toNat_natCast]
 refine⟨Mx e2,fun h=> ?_⟩
 have h:=Eu e2 h
 refine⟨⟨0,⟨by omega,h,rfl⟩,rfl⟩,fun s=>U.mk fun y4 e4=>U.mk fun y5 e5=> ?_⟩
 rintro⟨h1,h2,h3⟩
 refine⟨fun hs=> ?_,fun hs=> ?_⟩
 ·have hs:=ba e4 hs
  refine⟨⟨by omega,by omega⟩,⟨by omega,by omega⟩,fun e=> ?_,fun e=>⟨dr hs hw,s+1,⟨by omega,h,?_⟩,by omega,by omega⟩⟩
  ·exact D1 (s:=s) 0 (by rw[e5] at e;simpa using e)
  ·exact Be 0 h h3 hs (by rw[e5] at e;simpa using e)
 ·exact Bf h h3 (br e4 hs)
theorem ahq:aM Tryz.prog 46 VW:=
 aM.bZ (l:=[]) (A:=a37) aH trivial Tryz.func46 (by kernel_rfl) (by kernel_rfl) fun x hw hp=>b46 x.1 x.2.1 hw.1.1
theorem DY:(ct pM).2=true:=by kernel_rfl
def kW0:gh:=LQ (gu pM)
def Xn:=jU kW0 (BK pM [] []) [0,1,9] []
def Xm:=jU Xn.1 (BK pM [] [0,0,1]) [] []
def UX:=jU Xm.1 (BK pM [false,true] [0,0,1]) [] []
def kT4:=jU UX.1 ([],[],[],[]) [] []
theorem Z8:Xn.2=(([0,0,0,0,0],[0,0,1,0,0,0],[0,0,10]),0):=by kernel_rfl
theorem kt2:Xm.2=(([2,2,0,0,0],[0,0,1,0,0,0],[]),0):=by kernel_rfl
theorem kt3:UX.2=(([0,2,0,0,0],[0,0,1,0,0,0],[]),0):=by kernel_rfl
theorem kt4:kT4.2.2=1:=by kernel_rfl
theorem kl3:UX.1.2.1=[(0,0,false,[]),(2,0,false,[false,false,false]),(0,0,false,[]),(0,0,false,[]),(0,0,false,[]),(0,0,false,[])]:=by kernel_rfl
theorem v12:ai (ah ay [(45,Yx),(25,Dq),(36,NC),(26,NF),(17,BV),(37,VX),(46,VW)]) Tryz.f12 V1 aq (())=(
U
[([(87:UInt8)],(4:Int),(0:Int)),([(65:UInt8)],(1:Int),(20:Int)),([(80:UInt8)],(2:Int),(10:Int)),([(66:UInt8)],(1:Int),(20:Int)),
([(67:UInt8)],(1:Int),(30:Int)),([(69:UInt8)],(4:Int),(0:Int))]
fun(y0:List mq)=>
U
[([(119:UInt8)],((0:Int),(0:Int)),false),([(97:UInt8)],((1:Int),(1:Int)),false),([(101:UInt8)],((5:Int),(0:Int)),false),
([(98:UInt8)],((3:Int),(0:Int)),false),([(99:UInt8)],((4:Int),(0:Int)),false)]
fun(y1:List gw)=>
U
(y0,
[(((0:Int),(0:Int)),(1:Int),(0:Int)),(((1:Int),(1:Int)),(2:Int),(0:Int)),(((2:Int),(1:Int)),(3:Int),(0:Int)),(((3:Int),(1:Int)),(5:Int),(0:Int)),
(((2:Int),(2:Int)),(4:Int),(0:Int))],
y1,[],(10:Int),(5:Int),(15:Int),(2:Int),false)
fun(y2:ab)=>
U
((y2,(ct y2).1),List.replicate (ct y2).1.length gR,(max (0:Int) (min (↑y0.length:Int) (40:Int)),[],[],[],[]),(some (np y2),[]),
List.replicate y1.length (0:Int))
fun
(y3:
((ab)×
List (af))×
List (Int×Int×Bool×List Bool)×
(av)×
(Option
(aX)×
List ((Int×Int)×Bool))×
List Int)=>
U (List.replicate y1.length false,List.replicate y1.length false) fun(y4:List Bool×List Bool)=>
U (rowOf y0.length false [],rowOf y0.length (0:Int) [],y4) fun(y5:List Bool×List Int×List Bool×List Bool)=>
U ((List.replicate (3:Nat) (0:Int)).set (0:Nat) (0:Int)) fun(y6:List Int)=>
U ((y6.set (1:Nat) (1:Int)).set (2:Nat) (9:Int)) fun(y7:List Int)=>
U (jU y3 y5 y7 []).1 fun(y8:gh)=>
U (rowOf y0.length (0:Int) ((y6.set (1:Nat) (0:Int)).set (2:Nat) (1:Int)),y4) fun(y9:List Int×List Bool×List Bool)=>
U (rowOf y0.length false [],y9) fun(bp:List Bool×List Int×List Bool×List Bool)=>
U (jU y8 bp [] []).1 fun(bI:gh)=>
U (rowOf y0.length false (((List.replicate (2:Nat) false).set (0:Nat) false).set (1:Nat) true),y9) fun(aw:List Bool×List Int×List Bool×List Bool)=>
U (jU bI aw [] []).1 fun(cb:gh)=>
U ([],[],[],[]) fun(cW:List Bool×List Int×List Bool×List Bool)=>
U (jU y3 y5 y7 []).2 fun(bz:Qi×Int)=>
U (jU y8 bp [] []).2 fun(cT:Qi×Int)=>
U (jU bI aw [] []).2 fun(cF:Qi×Int)=>
U
(bif
bif bif bif bz.2 !=(0:Int) then true else cT.2 !=(0:Int) then true else cF.2 !=(0:Int) then true
else(jU cb cW [] []).2.2 !=(1:Int) then
true
else(↑cb.2.1.length:Int) !=(6:Int))
fun(dI:Bool)=>
U ((List.replicate (5:Nat) (0:Int)).set (0:Nat) (0:Int)) fun(fC:List Int)=>
U (bz.1.1==(((fC.set (1:Nat) (0:Int)).set (2:Nat) (0:Int)).set (3:Nat) (0:Int)).set (4:Nat) (0:Int)) fun(dJ:Bool)=>
U (bif dJ then bz.1.2.2==(y6.set (1:Nat) (0:Int)).set (2:Nat) (10:Int) else false) fun(fo:Bool)=>
U
(bif fo then
bz.1.2.1==
((((((List.replicate (6:Nat) (0:Int)).set (0:Nat) (0:Int)).set (1:Nat) (0:Int)).set (2:Nat) (1:Int)).set (3:Nat) (0:Int)).set
(4:Nat) (0:Int)).set
(5:Nat) (0:Int)
else false)
fun(dG:Bool)=>
U
(bif dG then
cT.1.1==
(((((List.replicate (5:Nat) (0:Int)).set (0:Nat) (2:Int)).set (1:Nat) (2:Int)).set (2:Nat) (0:Int)).set (3:Nat) (0:Int)).set
(4:Nat) (0:Int)
else false)
fun(eX:Bool)=>
U (bif eX then cF.1.1==(((fC.set (1:Nat) (2:Int)).set (2:Nat) (0:Int)).set (3:Nat) (0:Int)).set (4:Nat) (0:Int) else false)
fun(gS:Bool)=>
U ((0:Int),(0:Int),false,[]) fun(kE:Int×Int×Bool×List Bool)=>
U (bif gS then(cb.2.1.getD (Int.toNat (0:Int)) kE).1==(0:Int) else false) fun(lK:Bool)=>
True∧
(ct y2).2=true∧
(false=true→false=true∧True)∧
(false=false→
kG y2∧
r9 y3 y5 y7 []∧
kG y2∧
r9 y8 bp [] []∧
kG y2∧
r9 bI aw [] []∧
lZ cb∧
r9 cb cW [] []∧
(dI=true→false=true∧True)∧
(dI=false→
True∧
(dJ=true→True)∧
(fo=true→True)∧
(dG=true→True)∧
(eX=true→True)∧
(gS=true→aQ (0:Int) cb.2.1.length)∧
(lK=true→aQ (1:Int) cb.2.1.length)∧
(bif lK then(cb.2.1.getD (Int.toNat (1:Int)) kE).1==(2:Int) else false)=true∧True))):=by kernel_rfl
theorem b12:ai (ah ay [(45,Yx),(25,Dq),(36,NC),(26,NF),(17,BV),(37,VX),(46,VW)]) Tryz.f12 V1 aq ():=by
 rw[v12]
 refine U.mk fun y0 e0=>U.mk fun y1 e1=>U.mk fun y2 e2=>U.mk fun y3 e3=>U.mk fun y4 e4=>U.mk fun y5 e5=>U.mk fun y6 e6=>U.mk fun y7 e7=>U.mk fun y8 e8=>U.mk fun y9 e9=>U.mk fun bp du=>U.mk fun bI eH=>U.mk fun aw dM=>U.mk fun cb hX=>U.mk fun cW jG=>U.mk fun bz gJ=>U.mk fun cT kT=>U.mk fun cF iN=>U.mk fun dI m8=>U.mk fun fC nH=>U.mk fun dJ pb=>U.mk fun fo qZ=>U.mk fun dG sB=>U.mk fun eX xJ=>U.mk fun gS wQ=>U.mk fun kE BO=>U.mk fun lK BN=> ?_
 have E2:y2=pM:=by rw[e2,e0,e1];rfl
 have E3:y3=kW0:=by rw[e3,E2,e0,e1];rfl
 have E5:y5=BK pM [] []:=by rw[e5,e4,e0,e1];rfl
 have E7:y7=[0,1,9]:=by rw[e7,e6];rfl
 have E10:bp=BK pM [] [0,0,1]:=by rw[du,e9,e4,e6,e0,e1];rfl
 have E12:aw=BK pM [false,true] [0,0,1]:=by rw[dM,e9,e4,e6,e0,e1];rfl
 have E8:y8=Xn.1:=by rw[e8,E3,E5,E7];rfl
 have E15:bz=Xn.2:=by rw[gJ,E3,E5,E7];rfl
 have E11:bI=Xm.1:=by rw[eH,E8,E10];rfl
 have E16:cT=Xm.2:=by rw[kT,E8,E10];rfl
 have E13:cb=UX.1:=by rw[hX,E11,E12];rfl
 have E17:cF=UX.2:=by rw[iN,E11,E12];rfl
 have E18:dI=false:=by
  rw[m8,E15,E16,E17,E13,Z8,kt2,kt3,kl3,jG]
  show(bif bif false then true else kT4.2.2 !=1 then true else(6:Int) !=6)=false
  rw[kt4]
  rfl
 have I0:lZ kW0:=LP DY
 have I1:lZ Xn.1:=Ai I0 _ _ _
 have I2:lZ Xm.1:=Ai I1 _ _ _
 have I3:lZ UX.1:=Ai I2 _ _ _
 have hS:kG pM:=yH (wm DY)
 have E20:dJ=true:=by rw[pb,nH,E15,Z8];rfl
 have E21:fo=true:=by rw[qZ,E20,e6,E15,Z8];rfl
 have E22:dG=true:=by rw[sB,E21,E15,Z8];rfl
 have E23:eX=true:=by rw[xJ,E22,E16,kt2];rfl
 have E24:gS=true:=by rw[wQ,E23,nH,E17,kt3];rfl
 have E26:lK=true:=by rw[BN,E24,E13,kl3,BO];rfl
 rw[E2,E3,E5,E7,E8,E10,E11,E12,E13,E18,E26,kl3,jG]
 refine⟨trivial,DY,fun h=>(by cases h),fun _=>⟨hS,⟨I0,by decide,by decide⟩,hS,⟨I1,by decide,by decide⟩,hS,⟨I2,by decide,by decide⟩,I3,⟨I3,by decide,by decide⟩,fun h=>(by cases h),fun _=>⟨trivial,fun _=>trivial,fun _=>trivial,fun _=>trivial,fun _=>trivial,fun _=>⟨by decide,by decide⟩,fun _=>⟨by decide,by decide⟩,by rw[BO];rfl,trivial⟩⟩⟩
theorem ahB:aM Tryz.prog 12 V1:=
 aM.bZ (l:=[(45,Yx),(25,Dq),(36,NC),(26,NF),(17,BV),(37,VX),(46,VW)]) (A:=fun _=>aq) aH ⟨ahr,abg,abd,abf,abh,aht,ahq,trivial⟩ Tryz.func12 (by kernel_rfl) (by kernel_rfl) fun _ _ _=>b12
theorem PK {l:List oN} (h:rK l=true):l.length≤40∧∀k,k<l.length→q9 (l.getD k Cc)=false:=by
 unfold rK at h
 have h:=Bool.or_eq_false_iff.1 (by simpa only[Bool.not_eq_true'] using h:(decide (40<(l.length:Int))||l.any q9)=false)
 have h1:=of_decide_eq_false h.1
 refine⟨by omega,fun k hk=> ?_⟩
 have:=List.any_eq_false.1 h.2 _ (fw Cc hk)
 simpa using this
theorem Sz {a:oN} (h:q9 a=false):a.2.2.2.2.1.length≤20∧a.2.2.2.2.2.length≤20:=by
 unfold q9 at h
 simp only[Bool.or_eq_false_iff,decide_eq_false_iff_not] at h
 omega
theorem YO {p:ab} {l:List oN} {y:Bool} (ey:y=bif !(ct p).2 then true else !rK l) (h:y=false):(ct p).2=true∧rK l=true:=by
 have key:∀a b:Bool,(bif !a then true else !b)=false→a=true∧b=true:=by decide
 exact key _ _ (ey.symm.trans h)
theorem Un {p:ab} (h:pL p):Cg p:=⟨yH h,(qe h.check).2.2.2.2⟩
theorem Uq {p:ab} {l:List oN} (h:(ct p).2=true) (hf:rK l=true) (k:Nat) (hk:k<l.length) {W:gh} (hW:lZ W) (inn:iO):r9 W inn (l.getD k Cc).2.2.2.2.1 (l.getD k Cc).2.2.2.2.2:=by
 have:=Sz ((PK hf).2 k hk)
 exact⟨hW,by omega,by omega⟩
def abK (l:List (Int×List Bool×List Int×List Int×List Int×List Int)) (s6:Nat) (bp:List (af)) (R:Prop):Prop:=l=l∧(↑s6:Int)=(↑s6:Int)∧bp=bp∧R
def Zf (l:List (Int×List Bool×List Int×List Int×List Int×List Int)) (s6:Nat) (bp:List (af)) (aw:gh) (R:Prop):Prop:=l=l∧(↑s6:Int)=(↑s6:Int)∧bp=bp∧aw.snd.fst=aw.snd.fst∧aw.snd.snd.fst.fst=aw.snd.snd.fst.fst∧aw.snd.snd.fst.snd.fst=aw.snd.snd.fst.snd.fst∧aw.snd.snd.fst.snd.snd.fst=aw.snd.snd.fst.snd.snd.fst∧aw.snd.snd.fst.snd.snd.snd.fst=aw.snd.snd.fst.snd.snd.snd.fst∧aw.snd.snd.fst.snd.snd.snd.snd=aw.snd.snd.fst.snd.snd.snd.snd∧aw.fst.fst.fst=aw.fst.fst.fst∧aw.fst.fst.snd.fst=aw.fst.fst.snd.fst∧aw.fst.fst.snd.snd.fst=aw.fst.fst.snd.snd.fst∧aw.fst.fst.snd.snd.snd.fst=aw.fst.fst.snd.snd.snd.fst∧aw.fst.fst.snd.snd.snd.snd.fst=aw.fst.fst.snd.snd.snd.snd.fst∧aw.fst.fst.snd.snd.snd.snd.snd.fst=aw.fst.fst.snd.snd.snd.snd.snd.fst∧aw.fst.fst.snd.snd.snd.snd.snd.snd.fst=aw.fst.fst.snd.snd.snd.snd.snd.snd.fst∧aw.fst.fst.snd.snd.snd.snd.snd.snd.snd.fst=aw.fst.fst.snd.snd.snd.snd.snd.snd.snd.fst∧aw.fst.fst.snd.snd.snd.snd.snd.snd.snd.snd=aw.fst.fst.snd.snd.snd.snd.snd.snd.snd.snd∧aw.fst.snd=aw.fst.snd∧aw.snd.snd.fst.fst=aw.snd.snd.fst.fst∧aw.snd.snd.snd.fst.fst=aw.snd.snd.snd.fst.fst∧aw.snd.fst=aw.snd.fst∧aw.snd.snd.snd.snd=aw.snd.snd.snd.snd∧aw.snd.snd.fst.snd.fst=aw.snd.snd.fst.snd.fst∧aw.snd.snd.fst.snd.snd.fst=aw.snd.snd.fst.snd.snd.fst∧aw.snd.snd.fst.snd.snd.snd.fst=aw.snd.snd.fst.snd.snd.snd.fst∧aw.snd.snd.fst.snd.snd.snd.snd=aw.snd.snd.fst.snd.snd.snd.snd∧aw.snd.snd.snd.fst.snd=aw.snd.snd.snd.fst.snd∧R
def Qk (l:List (Int×List Bool×List Int×List Int×List Int×List Int)) (s6:Nat) (bp:List (af)) (bM:Nat) (aw:gh) (R:Prop):Prop:=l=l∧(↑s6:Int)=(↑s6:Int)∧bp=bp∧(↑bM:Int)=(↑bM:Int)∧aw.snd.fst=aw.snd.fst∧aw.snd.snd.fst.fst=aw.snd.snd.fst.fst∧aw.snd.snd.fst.snd.fst=aw.snd.snd.fst.snd.fst∧aw.snd.snd.fst.snd.snd.fst=aw.snd.snd.fst.snd.snd.fst∧aw.snd.snd.fst.snd.snd.snd.fst=aw.snd.snd.fst.snd.snd.snd.fst∧aw.snd.snd.fst.snd.snd.snd.snd=aw.snd.snd.fst.snd.snd.snd.snd∧aw.fst.fst.fst=aw.fst.fst.fst∧aw.fst.fst.snd.fst=aw.fst.fst.snd.fst∧aw.fst.fst.snd.snd.fst=aw.fst.fst.snd.snd.fst∧aw.fst.fst.snd.snd.snd.fst=aw.fst.fst.snd.snd.snd.fst∧aw.fst.fst.snd.snd.snd.snd.fst=aw.fst.fst.snd.snd.snd.snd.fst∧aw.fst.fst.snd.snd.snd.snd.snd.fst=aw.fst.fst.snd.snd.snd.snd.snd.fst∧aw.fst.fst.snd.snd.snd.snd.snd.snd.fst=aw.fst.fst.snd.snd.snd.snd.snd.snd.fst∧aw.fst.fst.snd.snd.snd.snd.snd.snd.snd.fst=aw.fst.fst.snd.snd.snd.snd.snd.snd.snd.fst∧aw.fst.fst.snd.snd.snd.snd.snd.snd.snd.snd=aw.fst.fst.snd.snd.snd.snd.snd.snd.snd.snd∧aw.fst.snd=aw.fst.snd∧aw.snd.snd.fst.fst=aw.snd.snd.fst.fst∧aw.snd.snd.snd.fst.fst=aw.snd.snd.snd.fst.fst∧aw.snd.fst=aw.snd.fst∧aw.snd.snd.snd.snd=aw.snd.snd.snd.snd∧aw.snd.snd.fst.snd.fst=aw.snd.snd.fst.snd.fst∧aw.snd.snd.fst.snd.snd.fst=aw.snd.snd.fst.snd.snd.fst∧aw.snd.snd.fst.snd.snd.snd.fst=aw.snd.snd.fst.snd.snd.snd.fst∧aw.snd.snd.fst.snd.snd.snd.snd=aw.snd.snd.fst.snd.snd.snd.snd∧aw.snd.snd.snd.fst.snd=aw.snd.snd.snd.fst.snd∧R
theorem v4 (p:ab) (l:List (Int×List Bool×List Int×List Int×List Int×List Int)):ai (ah ay [(12,V1),(23,BU),(24,VY),(25,Dq),(27,JI),(26,NF),(17,BV),(19,yh),(16,yi),(28,BT),(29,Gh),(30,TC),(31,wR)]) Tryz.f4 c4 (a4 (p,l,())) (p,l,())=(
U (bif !(ct p).2 then true else !rK l) fun(y2:Bool)=>
U ((0:Int),[],[],[],[],[]) fun(y3:Int×List Bool×List Int×List Int×List Int×List Int)=>
U ((0:Int),(0:Int),false,[]) fun(y4:Int×Int×Bool×List Bool)=>
U ((0:Int),(0:Int),(0:Int),[],[],[],[],[],false) fun(y5:af)=>
True∧
((!true)=true→false=true∧True)∧
((!true)=false→True∧
((!(ct p).2)=false→True)∧
(y2=true→true=true∧True)∧
(y2=false→
(ct p).2=true∧
(false=true→false=true∧True)∧
(false=false→
(∃(lx:Nat),lx≤l.length∧
(↑lx:Int)=(0:Int)∧l=l∧
(gg p l lx).1.1.1=p.1∧
(gg p l lx).1.1.2.1=p.2.1∧
(gg p l lx).1.1.2.2.1=p.2.2.1∧
(gg p l lx).1.1.2.2.2.1=p.2.2.2.1∧
(gg p l lx).1.1.2.2.2.2.1=p.2.2.2.2.1∧
(gg p l lx).1.1.2.2.2.2.2.1=p.2.2.2.2.2.1∧
(gg p l lx).1.1.2.2.2.2.2.2.1=p.2.2.2.2.2.2.1∧
(gg p l lx).1.1.2.2.2.2.2.2.2.1=p.2.2.2.2.2.2.2.1∧
(gg p l lx).1.1.2.2.2.2.2.2.2.2=p.2.2.2.2.2.2.2.2∧
(gg p l lx).1.2=(ct p).1∧
(gg p l lx).2.2.1.1=max (0:Int) (min (↑p.1.length:Int) (40:Int))∧
(gg p l lx).2.2.2.1.1=some (np p)∧
(gg p l lx).2.1=List.replicate (ct p).1.length gR∧
(gg p l lx).2.2.2.2=List.replicate p.2.2.1.length (0:Int)∧
(gg p l lx).2.2.1.2.1=[]∧
(gg p l lx).2.2.1.2.2.1=[]∧
(gg p l lx).2.2.1.2.2.2.1=[]∧
(gg p l lx).2.2.1.2.2.2.2=[]∧
(gg p l lx).2.2.2.1.2=[]∧aE p (True))∧∀(s6:Nat),U (decide ((↑s6:Int)<(↑l.length:Int))) fun(y7:Bool)=>
U (l.getD (↑s6:Int).toNat y3) fun(y8:Int×List Bool×List Int×List Int×List Int×List Int)=>
U (jU (gg p l s6) (oe p y8) y8.2.2.2.2.1 y8.2.2.2.2.2).1 fun(y9:gh)=>
U (cx y9.1.1).1.2 fun(bp:List (af))=>
U (bif(↑y9.2.1.length:Int) !=(↑bp.length:Int) then true else false) fun(bI:Bool)=>
U (gg p l ((↑s6:Int).toNat+(1:Nat))) fun(aw:gh)=>
s6≤l.length→
(y7=true→aQ (↑s6:Int) l.length∧Cg p∧aQ (↑s6:Int) l.length∧aQ (↑s6:Int) l.length∧r9 (gg p l s6) (oe p y8) y8.2.2.2.2.1 y8.2.2.2.2.2∧lZ y9∧True∧cS y9.1.1∧
(bI=true→false=true∧True)∧
(bI=false→
(∃(iy:Nat),iy≤(ct p).1.length∧
(↑iy:Int)=(0:Int)∧abK l s6 bp (aw.2.1=y9.2.1∧aw.2.2.1.1=y9.2.2.1.1∧aw.2.2.1.2.1=y9.2.2.1.2.1∧aw.2.2.1.2.2.1=y9.2.2.1.2.2.1∧aw.2.2.1.2.2.2.1=y9.2.2.1.2.2.2.1∧aw.2.2.1.2.2.2.2=y9.2.2.1.2.2.2.2∧aw.1.1.1=y9.1.1.1∧aw.1.1.2.1=y9.1.1.2.1∧aw.1.1.2.2.1=y9.1.1.2.2.1∧aw.1.1.2.2.2.1=y9.1.1.2.2.2.1∧aw.1.1.2.2.2.2.1=y9.1.1.2.2.2.2.1∧aw.1.1.2.2.2.2.2.1=y9.1.1.2.2.2.2.2.1∧aw.1.1.2.2.2.2.2.2.1=y9.1.1.2.2.2.2.2.2.1∧aw.1.1.2.2.2.2.2.2.2.1=y9.1.1.2.2.2.2.2.2.2.1∧aw.1.1.2.2.2.2.2.2.2.2=y9.1.1.2.2.2.2.2.2.2.2∧aw.1.2=y9.1.2∧aw.2.2.1.1=y9.2.2.1.1∧aw.2.2.2.1.1=y9.2.2.2.1.1∧aw.2.1=y9.2.1∧aw.2.2.2.2=y9.2.2.2.2∧aw.2.2.1.2.1=y9.2.2.1.2.1∧aw.2.2.1.2.2.1=y9.2.2.1.2.2.1∧aw.2.2.1.2.2.2.1=y9.2.2.1.2.2.2.1∧aw.2.2.1.2.2.2.2=y9.2.2.1.2.2.2.2∧aw.2.2.2.1.2=y9.2.2.2.1.2∧aE p (True)))∧∀(bM:Nat),U (decide ((↑bM:Int)<(↑bp.length:Int))) fun(cW:Bool)=>
U (aw.2.1.getD (↑bM:Int).toNat y4) fun(bz:Int×Int×Bool×List Bool)=>
U (!gE aw.2.2.1 (↑bM:Int)==(bz.1 !=(0:Int))) fun(cT:Bool)=>
U (aF (gu p) (↑bM:Int)).2.2.2 fun(cF:List cv×List aY×List aY×List Int×List Int×Bool)=>
U (bp.getD (↑bM:Int).toNat y5).2.2.2 fun(dI:List (Int×Int×Int)×List (Int×Int)×List (Int×Int)×List Int×List Int×Bool)=>
bM≤(ct p).1.length→
(cW=true→ga aw.2.2.1∧aQ (↑bM:Int) aw.2.1.length∧
(cT=true→false=true∧True)∧
(cT=false→aQ (↑bM:Int) aw.2.1.length∧
((bz.1==(0:Int))=true→bq IntKind.i64 ((↑bM:Int)+(1:Int))∧∃(iP:Nat),iP≤(ct p).1.length∧
(ct p).1.length - iP<(ct p).1.length - bM∧
(↑iP:Int)=(↑bM:Int)+(1:Int)∧Zf l s6 bp aw (aE p (True)))∧
((bz.1==(0:Int))=false→
(∃(xT:Nat),xT≤cF.1.length∧
(↑xT:Int)=(0:Int)∧Qk l s6 bp bM aw (aE p (True)))∧∀(jh:Nat),U (decide ((↑jh:Int)<(↑dI.1.length:Int))) fun(dJ:Bool)=>
U (dI.1.getD (↑jh:Int).toNat ((0:Int),(0:Int),(0:Int))).1 fun(fo:Int)=>
U (eT aw.2.2.1 fo==(↑bM:Int)) fun(dG:Bool)=>
U (!dG==decide ((↑jh:Int)≥bz.2.1)) fun(eX:Bool)=>
U (bif eX then true else bif dG then decide ((↑(kb aw.2.2.1 fo).length:Int)>(0:Int)) else false) fun(gS:Bool)=>
jh≤cF.1.length→aQ (↑bM:Int) bp.length∧
(dJ=true→aQ (↑bM:Int) bp.length∧aQ (↑jh:Int) dI.1.length∧oX aw.2.2.1 fo∧aQ (↑bM:Int) aw.2.1.length∧
(eX=false→dG=true→aQ (↑bM:Int) bp.length)∧
(eX=false→dG=true→aQ (↑jh:Int) dI.1.length)∧
(eX=false→dG=true→o7 aw.2.2.1 fo)∧
(gS=true→false=true∧True)∧
(gS=false→bq IntKind.i64 ((↑jh:Int)+(1:Int))∧∃(rj:Nat),rj≤cF.1.length∧cF.1.length - rj<cF.1.length - jh∧
(↑rj:Int)=(↑jh:Int)+(1:Int)∧Qk l s6 bp bM aw (aE p (True))))∧
(dJ=false→
(∃(J0:Nat),J0≤cF.2.2.2.1.length∧
(↑J0:Int)=(0:Int)∧Qk l s6 bp bM aw (aE p (True)))∧∀(yw:Nat),U (decide ((↑yw:Int)<(↑dI.2.2.2.1.length:Int))) fun(lK:Bool)=>
U (dI.2.2.2.1.getD (↑yw:Int).toNat (0:Int)) fun(l8:Int)=>
U (eT aw.2.2.1 l8) fun(ym:Int)=>
U (bif decide (ym≥(0:Int)) then true else !bG (kb aw.2.2.1 l8) (↑bM:Int)) fun(N6:Bool)=>
yw≤cF.2.2.2.1.length→aQ (↑bM:Int) bp.length∧
(lK=true→aQ (↑bM:Int) bp.length∧aQ (↑yw:Int) dI.2.2.2.1.length∧oX aw.2.2.1 l8∧
(decide (ym≥(0:Int))=false→aQ (↑bM:Int) bp.length)∧
(decide (ym≥(0:Int))=false→aQ (↑yw:Int) dI.2.2.2.1.length)∧
(decide (ym≥(0:Int))=false→o7 aw.2.2.1 l8)∧
(decide (ym≥(0:Int))=false→True)∧
(N6=true→false=true∧True)∧
(N6=false→bq IntKind.i64 ((↑yw:Int)+(1:Int))∧∃(sg:Nat),sg≤cF.2.2.2.1.length∧cF.2.2.2.1.length - sg<cF.2.2.2.1.length - yw∧
(↑sg:Int)=(↑yw:Int)+(1:Int)∧Qk l s6 bp bM aw (aE p (True))))∧
(lK=false→bq IntKind.i64 ((↑bM:Int)+(1:Int))∧∃(sg:Nat),sg≤(ct p).1.length∧
(ct p).1.length - sg<(ct p).1.length - bM∧
(↑sg:Int)=(↑bM:Int)+(1:Int)∧Zf l s6 bp aw (aE p (True)))))))∧
(cW=false→bq IntKind.i64 ((↑s6:Int)+(1:Int))∧∃(iP:Nat),iP≤l.length∧l.length - iP<l.length - s6∧
(↑iP:Int)=(↑s6:Int)+(1:Int)∧l=l∧
(gg p l iP).1.1.1=aw.1.1.1∧
(gg p l iP).1.1.2.1=aw.1.1.2.1∧
(gg p l iP).1.1.2.2.1=aw.1.1.2.2.1∧
(gg p l iP).1.1.2.2.2.1=aw.1.1.2.2.2.1∧
(gg p l iP).1.1.2.2.2.2.1=aw.1.1.2.2.2.2.1∧
(gg p l iP).1.1.2.2.2.2.2.1=aw.1.1.2.2.2.2.2.1∧
(gg p l iP).1.1.2.2.2.2.2.2.1=aw.1.1.2.2.2.2.2.2.1∧
(gg p l iP).1.1.2.2.2.2.2.2.2.1=aw.1.1.2.2.2.2.2.2.2.1∧
(gg p l iP).1.1.2.2.2.2.2.2.2.2=aw.1.1.2.2.2.2.2.2.2.2∧
(gg p l iP).1.2=aw.1.2∧
(gg p l iP).2.2.1.1=aw.2.2.1.1∧
(gg p l iP).2.2.2.1.1=aw.2.2.2.1.1∧
(gg p l iP).2.1=aw.2.1∧
(gg p l iP).2.2.2.2=aw.2.2.2.2∧
(gg p l iP).2.2.1.2.1=aw.2.2.1.2.1∧
(gg p l iP).2.2.1.2.2.1=aw.2.2.1.2.2.1∧
(gg p l iP).2.2.1.2.2.2.1=aw.2.2.1.2.2.2.1∧
(gg p l iP).2.2.1.2.2.2.2=aw.2.2.1.2.2.2.2∧
(gg p l iP).2.2.2.1.2=aw.2.2.2.1.2∧aE p (True))))∧
(y7=false→true=true∧True))))):=by kernel_rfl
theorem b4 (p:ab) (l:List oN):ai (ah ay [(12,V1),(23,BU),(24,VY),(25,Dq),(27,JI),(26,NF),(17,BV),(19,yh),(16,yi),(28,BT),(29,Gh),(30,TC),(31,wR)]) Tryz.f4 c4 (a4 (p,l,())) (p,l,()):=by
 rw[v4]
 simp only[dz,abK,Zf,Qk,true_and,and_true,eq_self,Bool.not_true,Bool.false_eq_true,false_implies,true_implies,implies_true]
 refine U.mk fun y2 e2=>U.mk fun y3 e3=>U.mk fun y4 e4=>U.mk fun y5 e5=>fun h=> ?_
 obtain⟨hR,hF⟩:=YO e2 h
 have hr:=wm hR
 have hfl:=(PK hF).1
 have hlen:=hr.len
 have hB:=P0 hR
 refine⟨hR,⟨0,Nat.zero_le _,rfl,rfl,rfl,rfl,rfl,rfl,rfl,rfl,rfl,rfl,rfl,rfl,rfl,rfl,rfl,rfl,rfl,rfl,rfl,rfl⟩,?_⟩
 intro s
 refine U.mk fun y7 e7=>U.mk fun y8 e8=>U.mk fun y9 e9=>U.mk fun bp du=>U.mk fun bI eH=>U.mk fun aw dM=>fun hs h=> ?_
 have h:=of_decide_eq_true (e7.symm.trans h)
 have dK:s<l.length:=by omega
 rw[Int.toNat_natCast] at *
 have h8:y8=l.getD s Cc:=by rw[e8,e3];rfl
 have mB:aw=y9:=by rw[dM,e9,h8];rfl
 have hI:=Hc hR l (s+1)
 rw[←dM] at hI
 have Vf:aw.1=gu p:=by rw[dM];exact He p l _
 have jF:bp=(ct p).1:=by rw[du,←mB,Vf];show(cx p).1.2=_;rw[hB];rfl
 have hil:aw.2.1.length=(ct p).1.length:=by rw[hI.inv.len,Vf];rfl
 have mC:bI=false:=by rw[eH,←mB,hil,jF];simp
 have hinv:=hI.inv
 rw[Vf] at hinv
 have M7:=FQ hr
 refine⟨⟨by omega,by omega⟩,Un hr,⟨by omega,by omega⟩,⟨by omega,by omega⟩,by rw[h8];exact Uq hR hF s dK (Hc hR l s) _,by rw[←mB];exact hI,by rw[←mB,Vf];exact hr.short,fun h=>(by rw[mC] at h;cases h),fun _=> ?_⟩
 rw[←mB]
 refine⟨⟨0,Nat.zero_le _,rfl,?_⟩,?_⟩
 ·simp only[eq_self,and_true]
 intro k
 have Ge:=hinv.GI M7
 refine U.mk fun cW jG=>U.mk fun bz gJ=>U.mk fun cT kT=>U.mk fun cF iN=>U.mk fun dI m8 hk=>⟨fun h=> ?_,fun h=> ?_⟩
 ·have h:=of_decide_eq_true (jG.symm.trans h)
  rw[jF] at h
  have RT:k<(ct p).1.length:=by omega
  have RS:k<(gu p).2.length:=RT
  rw[Int.toNat_natCast] at *
  have gJ:bz=aw.2.1.getD k gR:=by rw[gJ,e4];rfl
  have m8:dI=cF:=by rw[m8,iN,jF,e5];rfl
  have FG:=Vh hinv RS
  rw[←gJ] at FG
  have sK:cT=false:=by
   rw[kT,FG]
   show(!((!(bz.1==0))== !(bz.1==0)))=false
   simp
  refine⟨Ge.small,⟨by omega,by omega⟩,fun h=>(by rw[sK] at h;cases h),fun _=>⟨⟨by omega,by omega⟩,fun _=>⟨bg (by omega) (by omega),k+1,by omega,by omega,by omega⟩,fun h0=> ?_⟩⟩
  have h0:bz.1≠0:=fun e=>by rw[e] at h0;cases h0
  have yd:=(M7.qF _ (jN (c:=gu p) (o:=(k:Int)) ⟨by omega,by omega⟩)).len
  have yd:cF.1.length≤12:=by rw[iN];exact yd.2
  rw[m8]
  refine⟨⟨0,Nat.zero_le _,rfl⟩,fun j=>U.mk fun dJ pb=>U.mk fun fo qZ=>U.mk fun dG sB=>U.mk fun eX xJ=>U.mk fun gS wQ hj=>⟨⟨by omega,by rw[jF];omega⟩,fun h=> ?_,fun h=> ?_⟩⟩
  ·have h:=of_decide_eq_true (pb.symm.trans h)
   have hj1:j<cF.1.length:=by omega
   rw[Int.toNat_natCast] at qZ
   have qZ:fo=(fP (aF (gu p) (k:Int)).2.2.2.1 j).1:=by rw[qZ,iN];rfl
   have ho:=ag0 M7 hinv RS (by rw[←gJ];exact h0) (j:=j) (by rw[←congrArg Prod.fst iN];exact hj1)
   rw[←qZ,←sB,←gJ] at ho
   have Vk:eX=false:=by rw[xJ,ho];show(!(decide (bz.2.1≤(j:Int))==decide (bz.2.1≤(j:Int))))=false;simp
   have R3:gS=false:=by
    rw[wQ,Vk,cond_false]
    cases zd:dG
    ·rfl
    ·rw[cond_true,UF hinv (k:=(k:Int)) (by omega) (eq_of_beq (sB.symm.trans zd))]
     rfl
   exact⟨⟨by omega,by rw[jF];omega⟩,⟨by omega,by omega⟩,Ge.rU _,⟨by omega,by omega⟩,fun _ _=>⟨by omega,by rw[jF];omega⟩,fun _ _=>⟨by omega,by omega⟩,fun _ _=>Ge.Nr _,fun h=>(by rw[R3] at h;cases h),fun _=>⟨bg (by omega) (by omega),j+1,by omega,by omega,by omega⟩⟩
  ·refine⟨⟨0,Nat.zero_le _,rfl⟩,fun i=>U.mk fun lK BN=>U.mk fun l8 Dg=>U.mk fun ym Sf=>U.mk fun N6 e29 hi=>⟨⟨by omega,by rw[jF];omega⟩,fun h=> ?_,fun h=>⟨bg (by omega) (by omega),k+1,by omega,by omega,by omega⟩⟩⟩
   have h:=of_decide_eq_true (BN.symm.trans h)
   have hi1:i<cF.2.2.2.1.length:=by omega
   have HR:=(M7.qF _ (jN (c:=gu p) (o:=(k:Int)) ⟨by omega,by omega⟩)).yl
   have HR:cF.2.2.2.1.length≤12:=by rw[iN];exact HR
   rw[Int.toNat_natCast] at Dg
   have hm:l8∈(aF (gu p) (k:Int)).2.2.2.2.2.2.1:=by
    rw[Dg]
    have:=fw (0:Int) hi1
    rw[iN] at this ⊢
    exact this
   have hz:=Qs hinv RS (by rw[←gJ];exact h0) hm
   rw[←Sf] at hz
   have hd:decide (ym≥0)=false:=decide_eq_false (by omega)
   have h29:N6=false:=by rw[e29,hd,hz.2];rfl
   exact⟨⟨by omega,by rw[jF];omega⟩,⟨by omega,by omega⟩,Ge.rU _,fun _=>⟨by omega,by rw[jF];omega⟩,fun _=>⟨by omega,by omega⟩,fun _=>Ge.Nr _,fun h=>(by rw[h29] at h;cases h),fun _=>⟨bg (by omega) (by omega),i+1,by omega,by omega,by omega⟩⟩
 ·refine⟨bg (by omega) (by omega),s+1,by omega,by omega,by omega,?_⟩
  rw[←dM]
  simp only[eq_self,and_true]
theorem ok4:aM Tryz.prog 4 c4:=
 aM.bZ (l:=[(12,V1),(23,BU),(24,VY),(25,Dq),(27,JI),(26,NF),(17,BV),(19,yh),(16,yi),(28,BT),(29,Gh),(30,TC),(31,wR)]) (A:=a4) aH ⟨ahB,ahx,ahw,abg,ahv,abf,abh,ahy,ahA,S5,WT,ab6,Kd,trivial⟩ Tryz.func4 (by kernel_rfl) (by kernel_rfl) fun x hw hp=>b4 x.1 x.2.1
end YtjnappfomhkeeaaGreat
end Go.Proofs
end

section
set_option maxRecDepth 100000
set_option linter.unusedVariables false
namespace Go.Proofs.YtjnappfomhkeeaaGreat
open Go Go.Vc
open Go.ChangeShapes Go.WideShapes Go.ChangeAt Go.RowKit
open Go.ChangeMaps (open_string shut_string)
theorem own:ownKnob Tryz.prog.godebug=none:=by kernel_rfl
theorem laidOut:laidOutB Tryz.prog=true:=by kernel_rfl
theorem law_calls {P:Program} {f:Nat} {ts:List Ty} (h:aM P f (Ta ts)) {W:World} {x:jI ts} {vs:List Value} (hv:lj (sI W) ts x vs):
  Calls P f vs.toArray W fun e w'=>e= .returned (.bool true)∧Below W.heap.size W w':=by
 refine(h.calls (sI W) W x vs (fun b o h=>h) hv trivial).mono fun e w'=> ?_
 rintro⟨v,F',rfl,_,_,_,hk,vv⟩
 have vv:[v]=[Value.bool true]:=vv
 simp only[List.cons.injEq,and_true] at vv
 exact⟨by rw[vv],⟨hk.os,hk.tape,hk.output,hk.size,fun k u9=>hk.block k u9 (fun h=>h)⟩⟩
end Go.Proofs.YtjnappfomhkeeaaGreat
end
