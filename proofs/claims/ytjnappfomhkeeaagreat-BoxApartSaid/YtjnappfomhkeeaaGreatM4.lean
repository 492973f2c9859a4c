/-
  Plain facts about maps as lists, and about a plan's joins and signals, for the proofs of the program's plans; The program's plans: small functions, names, numbers, rows, lengths; The program's plans: numbers, joins, signals, rows, lines, lengths; Check; The program's plans: rows, lines, lengths; Check; The program's Check of a plan; Contracts of the program's nets: the copy of a plan, New, and what is asked of a net; The program's nets: the copy of a plan, New, and what is asked of a net; Contracts of the program's Wants and of the reference's lines, with annotations; Sorting turns; the program's Wants; the reference's lines and Wants; The program's Wants; the reference's lines and Wants: proofs; Wants: the program's and the reference's are the same (plain); Contracts of the program's tokens and of what they ask of a book of locks, with annotations; Tokens, and what they ask of a book of locks: proofs; Roads of a plan: what a search for a flank keeps; that a road has the steps and needs with which it was found; A law's contract: true for all arguments; Contracts of the reference's Why (do two roads shut each other out?) and of the law of one direction, with annotations; A road's steps follow one another, on elements that differ; over a line they all run one way (plain); The reference's Why; the law of one direction over a line; Contracts of the library's sort of integers ; Contracts of the program's book of locks, with annotations; The sort of integers: plain facts; The library's sort and its deletion in a row of integers, and copies of maps, as the kit's shelf has them: as contracts of this program; The program's book of locks: proofs; The program's book of locks: May and Take; Contracts of the reference's book of locks and of lines' directions, with annotations; The reference's book of locks: proofs; The reference's book of locks: Take; lines' directions; a life's beginning; Contracts of the program's call and of the reference's Why, with annotations.
-/
import Derived.Test.YtjnappfomhkeeaaGreatM3
import Derived.Shelf.Sort.Plain
import Derived.Shelf.Slices.In.SortNone
import Derived.Shelf.Slices.Delete
import Derived.Shelf.SlMaps.Clone

section
set_option maxRecDepth 100000
set_option linter.unusedVariables false
set_option linter.unusedSimpArgs false
set_option maxHeartbeats 2000000
namespace Go.Proofs
open Go Go.Vc
namespace YtjnappfomhkeeaaGreat
theorem pB:Ty.isKey aL=true:=rfl
theorem td:Ty.isKey I=true:=rfl
theorem ZP:Ty.isKey .str=true:=rfl
theorem Fx (a b:ak):Ty.iW aL a b=(a==b):=rfl
theorem O6 (a b:Int):Ty.iW I a b=(a==b):=rfl
theorem gU (a:Ty) {β:Type}:∀(m:List (a.den×β)) (k:a.den),(aT a m k).isSome=m.any fun x=>a.iW k x.1
 |[],k=>by simp[aT]
 |x::m,k=>by
  simp only[aT,List.any_cons,←gU a m k]
  cases a.iW k x.1<;>rfl
theorem pY {α:Type} (a:Ty) (f:α→a.den):∀(xs:List α) (k:a.den),(aT a (xs.map fun x=>(f x,true)) k).getD false=xs.any fun x=>a.iW k (f x)
 |[],k=>by simp[aT]
 |x::m,k=>by
  simp only[List.map_cons,aT,List.any_cons,←pY a f m k]
  cases a.iW k (f x)<;>rfl
theorem nV {a:Ty} (ha:a.isKey=true) {β:Type} {m:List (a.den×β)} {k:a.den} (h:(aT a m k).isSome=false) (v:β):dc a m k v=m++[(k,v)]:=by
 rcases ux ha m k with ⟨_,h2,_⟩|⟨v0,h1,_⟩
 ·exact h2 v
 ·rw[h1] at h;cases h
theorem qq {α:Type} [BEq α] (d:α) (q:α→Bool) (xs:List α):∀(n:Nat),n≤xs.length→cd (fun i=>q (xs.getD i d)) n=(xs.take n).any q
 |0,_=>by simp[cd]
 |n+1,h=>by
  show(cd (fun i=>q (xs.getD i d)) n||q (xs.getD n d))=_
  rw[qq d q xs n (by omega),eM d (by omega),List.any_append]
  simp
theorem fF {α:Type} [BEq α] [LawfulBEq α] (a b:α):(a==b)=(b==a):=by
 by_cases h:a=b
 ·subst h;rfl
 ·rw[beq_eq_false_iff_ne.2 h,beq_eq_false_iff_ne.2 (Ne.symm h)]
theorem QK (l:List nS) (s:Nat) (hs:s≤l.length) (y:nS):(aT .str (gT l s) y).getD false=cd (fun k=>l.getD k []==y) s:=by
 unfold gT
 rw[pY .str (fun s:nS=>s),qq [] (fun x=>x==y) l s hs]
 congr 1
 funext x
 exact fF y x
theorem Ut (l:List nS) (s:Nat) (hs:s<l.length) (h:(aT .str (gT l s) (l.getD s [])).getD false=false):dc .str (gT l s) (l.getD s []) true=gT l (s+1):=by
 have h1:(aT .str (gT l s) (l.getD s [])).isSome=false:=by
  unfold gT at h ⊢
  rw[pY .str (fun s:nS=>s)] at h
  rw[gU,List.any_map]
  exact h
 rw[nV ZP h1]
 unfold gT
 rw[nW _ [] hs]
theorem mP (p:ab) (x:ak):aT aL (dS p) x=bif(bu p x).2 then some (bu p x).1 else none:=by
 unfold dS bu
 generalize p.2.1=l
 induction l with
 |nil=>simp[aT,xp]
 |cons j l ih=>
  simp only[List.flatMap_cons,List.cons_append,List.nil_append,aT,List.find?_cons,Fx]
  rw[fF x j.1,fF x j.2]
  cases h1:(j.1==x) with
  |true=>simp[xp,h1]
  |false=>
   cases h2:(j.2==x) with
   |true=>simp[xp,h1]
   |false=>simpa using ih
theorem Sc (p:ab) (k:Nat) (hk:k≤p.2.1.length):(bT p).take (2*k)=(p.2.1.take k).flatMap fun j=>[j.1,j.2]:=by
 unfold bT
 generalize p.2.1=l at hk ⊢
 induction l generalizing k with
 |nil=>simp
 |cons j l ih=>
  cases k with
  |zero=>simp
  |succ k=>
   rw[show 2*(k+1)=2*k+1+1 by omega]
   simp only[List.flatMap_cons,List.cons_append,List.nil_append,List.take_succ_cons]
   rw[ih k (by simpa using hk)]
theorem mj (p:ab):(bT p).length=2*p.2.1.length:=by
 unfold bT
 generalize p.2.1=l
 induction l with
 |nil=>rfl
 |cons j l ih=>simp only[List.flatMap_cons,List.length_append,ih,List.length_cons,List.length_nil];omega
theorem Ew (p:ab) (k:Nat) (hk:k<p.2.1.length):(bT p).getD (2*k) zP=(p.2.1.getD k zJ).1∧(bT p).getD (2*k+1) zP=(p.2.1.getD k zJ).2:=by
 unfold bT
 generalize p.2.1=l at hk ⊢
 induction l generalizing k with
 |nil=>simp at hk
 |cons j l ih=>
  cases k with
  |zero=>simp
  |succ k=>
   rw[show 2*(k+1)=2*k+1+1 by omega]
   simp only[List.flatMap_cons,List.cons_append,List.nil_append,List.getD_cons_succ]
   exact ih k (by simpa using hk)
theorem Hw (p:ab) (k:Nat) (hk:k≤p.2.1.length) (x:ak):(aT aL (bW p k) x).isSome=cd (fun i=>(bT p).getD i zP==x) (2*k):=by
 rw[qq zP (fun y=>y==x) (bT p) (2*k) (by rw[mj];omega),Sc p k hk,gU]
 unfold bW
 generalize p.2.1.take k=l
 induction l with
 |nil=>rfl
 |cons j l ih=>
  simp only[Fx] at ih
  simp only[List.flatMap_cons,List.cons_append,List.nil_append,List.any_cons,Fx,ih]
  rw[fF x j.1,fF x j.2]
theorem Fo (p:ab) (k:Nat) (hk:p.2.1.length≤k):bW p k=dS p:=by
 unfold bW dS
 rw[List.take_of_length_le hk]
theorem uF (p:ab):bR p=(db (kM p) (bT p).length&&db (ka p) p.1.length):=by unfold bR;rfl
theorem xx {p:ab} (h:bR p=true) {j:nf} (hj:j∈p.2.1):dx p j.1=true∧dx p j.2=true:=by
 rw[uF,Bool.and_eq_true] at h
 have h1:=gv.1 h.1
 obtain⟨k,hk,rfl⟩:=List.mem_iff_getElem.1 hj
 have e:=Ew p k hk
 rw[eA zJ hk] at e
 have a:=h1 (2*k) (by rw[mj];omega)
 have b:=h1 (2*k+1) (by rw[mj];omega)
 unfold kM at a b
 rw[e.1,Bool.and_eq_true] at a
 rw[e.2,Bool.and_eq_true] at b
 exact⟨a.1,b.1⟩
theorem xo {p:ab} (h:bR p=true) {x q:ak} (hq:aT aL (dS p) x=some q):dx p q=true:=by
 have hm:=fI pB hq
 unfold dS at hm
 obtain⟨j,hj,hm⟩:=List.mem_flatMap.1 hm
 obtain⟨h1,h2⟩:=xx h hj
 simp only[List.mem_cons,Prod.mk.injEq,List.not_mem_nil,or_false] at hm
 rcases hm with ⟨_,rfl⟩|⟨_,rfl⟩
 ·exact h2
 ·exact h1
theorem lT {p:ab} {x:ak} (h:dx p x=true):0≤x.1∧x.1<p.1.length∧0≤x.2∧x.2≤3∧aI p x.1=(p.1.getD x.1.toNat zE).2.1:=by
 unfold dx at h
 simp only[Bool.and_eq_true,decide_eq_true_eq] at h
 obtain⟨h1,h2,h3,h4⟩:=h
 have hE:cO (aI p x.1)≤4:=by
  unfold cO
  generalize aI p x.1=k
  cases k==1<;>cases k==2<;>cases k==3<;>cases k==4<;>decide
 refine⟨h1,h2,h3,by omega,?_⟩
 unfold aI
 rw[decide_eq_false (by omega),decide_eq_false (by omega)]
 rfl
theorem Cz {p:ab} (h:bR p=true):xe (dS p):=fun x hx=>by
 unfold dS at hx
 obtain⟨j,hj,hm⟩:=List.mem_flatMap.1 hx
 obtain⟨h1,h2⟩:=xx h hj
 simp only[List.mem_cons,List.not_mem_nil,or_false] at hm
 rcases hm with rfl|rfl
 ·have:=lT h2;exact⟨this.2.2.1,this.2.2.2.1⟩
 ·have:=lT h1;exact⟨this.2.2.1,this.2.2.2.1⟩
theorem J5 (p:ab) (i:Nat) (hi:i<p.2.2.1.length):(b8 p (p.2.2.1.getD i zS).2.1==(i:Int))= !cd (fB p (p.2.2.1.getD i zS).2.1) i:=by
 unfold b8
 have hr:fB p (p.2.2.1.getD i zS).2.1 i=true:=by unfold fB;simp
 show(vR (gA (fB p (p.2.2.1.getD i zS).2.1) p.2.2.1.length)==(i:Int))=_
 cases h:cd (fB p (p.2.2.1.getD i zS).2.1) i with
 |false=>
  rw[sr hi h hr]
  simp[vR]
 |true=>
  rw[Bool.not_true,beq_eq_false_iff_ne]
  intro e
  cases hf:gA (fB p (p.2.2.1.getD i zS).2.1) p.2.2.1.length with
  |none=>rw[hf] at e;simp[vR] at e
  |some j=>
   rw[hf] at e
   have e:(j:Int)=i:=by simpa [vR] using e
   have e:j=i:=by omega
   subst e
   unfold gA at hf
   rw[List.find?_range_eq_some] at hf
   have:cd (fB p (p.2.2.1.getD j zS).2.1) j=false:=iS.2 fun k hk=>by simpa using hf.2.2 k hk
   rw[this] at h;cases h
theorem LU (p:ab) (k:Nat) (hk:k≤p.2.2.1.length) (x:ak):(aT aL (lE p k) x).getD false=cd (fB p x) k:=by
 unfold lE
 rw[pY aL (fun s:gw=>s.2.1)]
 have:=qq zS (fun s:gw=>s.2.1==x) p.2.2.1 k hk
 show _=cd (fun i=>(p.2.2.1.getD i zS).2.1==x) k
 rw[this]
 congr 1
 funext s
 exact fF x s.2.1
theorem YK (p:ab) (k:Nat) (hk:k<p.2.2.1.length) (h:(aT aL (lE p k) (p.2.2.1.getD k zS).2.1).getD false=false):dc aL (lE p k) (p.2.2.1.getD k zS).2.1 true=lE p (k+1):=by
 have h1:(aT aL (lE p k) (p.2.2.1.getD k zS).2.1).isSome=false:=by
  unfold lE at h ⊢
  rw[pY aL (fun s:gw=>s.2.1)] at h
  rw[gU,List.any_map]
  exact h
 rw[nV pB h1]
 unfold lE
 rw[nW _ zS hk]
theorem QR (p:ab) (x:ak):decide (0≤b8 p x)=cd (fB p x) p.2.2.1.length:=by
 unfold b8
 show decide (0≤vR (gA (fB p x) p.2.2.1.length))=_
 cases hf:gA (fB p x) p.2.2.1.length with
 |none=>
  have:cd (fB p x) p.2.2.1.length=false:=iS.2 fun k hk=>by
   unfold gA at hf
   rw[List.find?_eq_none] at hf
   simpa using hf k (List.mem_range.2 hk)
  rw[this];rfl
 |some j=>
  obtain⟨h1,h2⟩:=A1 hf
  rw[nL h1 h2]
  simp[vR]
theorem Bl (p:ab) (l:List Int) (e:Int):oW (dS p) l e=qH p l e:=by
 unfold oW qH
 rw[mP]
 cases (bu p (l.getD 0 0,e)).2<;>rfl
theorem OK (p:ab) (l:List Int):jl (dS p) l=fJ p l:=by
 unfold jl fJ
 rw[Bl,Bl]
theorem Kw (p:ab) (l:List Int) (out:Int):∀k,mV (dS p) l out k=bif(ed p l out k).2.2 then some (ed p l out k).2.1 else none
 |0=>rfl
 |k+1=>by
  simp only[mV,ed,Kw p l out k]
  cases h:(ed p l out k).2.2 with
  |false=>rfl
  |true=>
   simp only[cond_true,mP,n9,Bool.true_and]
   cases h2:(bu p (l.getD k 0,(ed p l out k).2.1)).2 with
   |false=>rfl
   |true=>
    simp only[cond_true,Bool.true_and]
    cases (bu p (l.getD k 0,(ed p l out k).2.1)).1.1==l.getD (k+1) 0<;>rfl
theorem Ox (p:ab) (l:List Int) (h0:l.length≠0) (ht:l.all (fun e=>aI p e==1)=true):zk (dS p) l=(eB p l).2:=by
 unfold zk eB
 rw[decide_eq_false h0,ht,OK,Kw]
 simp only[Bool.not_true,Bool.or_self,cond_false]
 by_cases h1:l.length=1
 ·rw[decide_eq_true h1,decide_eq_true (by omega)];rfl
 ·rw[decide_eq_false h1,decide_eq_false (by omega)]
  simp only[cond_false]
  cases decide (fJ p l<0) with
  |true=>rfl
  |false=>
   simp only[cond_false]
   cases (ed p l (fJ p l) (l.length - 1)).2.2<;>rfl
theorem afY (k:Int):ai (ah ay []) Tryz.f235 x8 aq (k,())=(
((k==(1:Int))=true→(2:Int)=cO k∧True)∧
((k==(1:Int))=false→
((k==(2:Int))=true→(3:Int)=cO k∧True)∧
((k==(2:Int))=false→
((k==(3:Int))=true→(4:Int)=cO k∧True)∧
((k==(3:Int))=false→((k==(4:Int))=true→(1:Int)=cO k∧True)∧((k==(4:Int))=false→(0:Int)=cO k∧True))))):=by kernel_rfl
theorem Q2:aM Tryz.prog 235 x8:=
 aM.bZ (l:=[]) (A:=fun _=>aq) aH trivial Tryz.func235 (by kernel_rfl) (by kernel_rfl) fun x _ hp=>by
  obtain⟨k,u⟩:=x
  show ai (ah ay []) Tryz.f235 x8 aq (k,())
  rw[afY]
  unfold cO
  cases k==1<;>cases k==2<;>cases k==3<;>cases k==4<;>simp
theorem v236 (p:ab) (x:Int×Int):ai (ah ay [(235,x8)]) Tryz.f236 Dr aq (p,x,())=(
U (bif bif decide (x.1≥(0:Int)) then decide (x.1<(↑p.1.length:Int)) else false then decide (x.2≥(0:Int)) else false) fun(y2:Bool)=>
U (cO (p.1.getD x.1.toNat ([],(0:Int),(0:Int))).2.1) fun(y3:Int)=>
(y2=true→aQ x.1 p.1.length)∧(y2=true→True)∧(bif y2 then decide (x.2<y3) else false)=dx p x∧True):=by kernel_rfl
theorem ajq (p:ab) (x:ak):ai (ah ay [(235,x8)]) Tryz.f236 Dr aq (p,x,()):=by
 rw[v236]
 refine U.mk fun y2 e2=>U.mk fun y3 e3=> ?_
 refine⟨fun h=> ?_,fun _=>trivial,?_,trivial⟩
 ·rw[e2] at h
  by_cases h1:x.1≥0
  ·by_cases h2:x.1<(p.1.length:Int)
   ·exact⟨h1,h2⟩
   ·rw[decide_eq_false h2] at h;cases hb:decide (x.1≥0)<;>rw[hb] at h<;>cases h
  ·rw[decide_eq_false h1] at h;cases h
 ·have hE:y2=true→y3=cO (aI p x.1):=fun h=>by
   rw[e2] at h
   rw[e3]
   unfold aI
   by_cases h1:x.1≥0
   ·by_cases h2:x.1<(p.1.length:Int)
    ·rw[decide_eq_false (show ¬x.1<0 by omega),decide_eq_false (show ¬(p.1.length:Int)≤x.1 by omega)]
     rfl
    ·rw[decide_eq_false h2] at h;cases hb:decide (x.1≥0)<;>rw[hb] at h<;>cases h
   ·rw[decide_eq_false h1] at h;cases h
  unfold dx
  cases hy:y2 with
  |true=>
   rw[hE hy]
   rw[hy,xC,xC] at e2
   generalize decide (x.2<cO (aI p x.1))=q
   revert e2
   generalize decide (0≤x.1)=a;generalize decide (x.1<(p.1.length:Int))=b;generalize decide (0≤x.2)=c
   cases a<;>cases b<;>cases c<;>simp
  |false=>
   rw[hy,xC,xC] at e2
   revert e2
   generalize decide (0≤x.1)=a;generalize decide (x.1<(p.1.length:Int))=b;generalize decide (0≤x.2)=c
   cases a<;>cases b<;>cases c<;>simp
theorem WX:aM Tryz.prog 236 Dr:=
 aM.bZ (l:=[(235,x8)]) (A:=fun _=>aq) aH ⟨Q2,trivial⟩ Tryz.func236 (by kernel_rfl) (by kernel_rfl) fun x _ hp=>ajq x.1 x.2.1
theorem afK (c:Int):ai (ah ay []) Tryz.f260 KN aq (c,())=(
(bif bif decide (c≥(97:Int)) then decide (c≤(122:Int)) else false then true else bif decide (c≥(65:Int)) then decide (c≤(90:Int)) else false)=Iv c∧True):=by kernel_rfl
theorem ab9:aM Tryz.prog 260 KN:=
 aM.bZ (l:=[]) (A:=fun _=>aq) aH trivial Tryz.func260 (by kernel_rfl) (by kernel_rfl) fun x _ hp=>by
  obtain⟨c,u⟩:=x
  show ai (ah ay []) Tryz.f260 KN aq (c,())
  rw[afK,xC,xC]
  unfold Iv
  refine⟨?_,trivial⟩
  generalize decide (97≤c)=a;generalize decide (c≤122)=b;generalize decide (65≤c)=d;generalize decide (c≤90)=e
  cases a<;>cases b<;>cases d<;>cases e<;>rfl
theorem v234 (s:List UInt8):ai (ah ay [(260,KN)]) Tryz.f234 KV (a234 (s,())) (s,())=(
U (bif s==[] then true else decide ((↑s.length:Int)>(8:Int))) fun(y1:Bool)=>
U (bif y1 then true else !Iv (↑(s.getD (Int.toNat (0:Int)) (0:UInt8)).toNat:Int)) fun(y2:Bool)=>
(y1=false→aQ (0:Int) s.length)∧
(y1=false→True)∧
(y2=true→false=kq s∧True)∧
(y2=false→
(∃(fD:Nat),(fD≤s.length∧Nj (dV (jm s)) fD)∧(↑fD:Int)=(1:Int)∧s=s∧True)∧
∀(s3:Nat),
U (decide ((↑s3:Int)<(↑s.length:Int))) fun(y4:Bool)=>
U (!Iv (↑(s.getD (↑s3:Int).toNat (0:UInt8)).toNat:Int)) fun(y5:Bool)=>
U (decide ((↑(s.getD (↑s3:Int).toNat (0:UInt8)).toNat:Int)<(48:Int))) fun(y6:Bool)=>
U (bif y5 then bif y6 then true else decide ((↑(s.getD (↑s3:Int).toNat (0:UInt8)).toNat:Int)>(57:Int)) else false) fun(y7:Bool)=>
s3≤s.length∧Nj (dV (jm s)) s3→
(y4=true→
aQ (↑s3:Int) s.length∧
True∧
(y5=true→aQ (↑s3:Int) s.length)∧
(y5=true→y6=false→aQ (↑s3:Int) s.length)∧
(y7=true→false=kq s∧True)∧
(y7=false→
bq IntKind.i64 ((↑s3:Int)+(1:Int))∧
∃(kf:Nat),(kf≤s.length∧Nj (dV (jm s)) kf)∧s.length - kf<s.length - s3∧(↑kf:Int)=(↑s3:Int)+(1:Int)∧s=s∧True))∧
(y4=false→true=kq s∧True))):=by kernel_rfl
theorem HK (c:UInt8):Iv (c.toNat:Int)=uR c:=by
 unfold Iv uR
 have g:∀(k:Nat),decide ((k:Int)≤(c.toNat:Int))=decide (k≤c.toNat):=fun k=>by
  by_cases h:k≤c.toNat
  ·rw[decide_eq_true h,decide_eq_true (by omega)]
  ·rw[decide_eq_false h,decide_eq_false (by omega)]
 have g':∀(k:Nat),decide ((c.toNat:Int)≤(k:Int))=decide (c.toNat≤k):=fun k=>by
  by_cases h:c.toNat≤k
  ·rw[decide_eq_true h,decide_eq_true (by omega)]
  ·rw[decide_eq_false h,decide_eq_false (by omega)]
 have a:decide ((97:Int)≤(c.toNat:Int))=decide (97≤c.toNat):=g 97
 have b:decide ((c.toNat:Int)≤(122:Int))=decide (c.toNat≤122):=g' 122
 have d:decide ((65:Int)≤(c.toNat:Int))=decide (65≤c.toNat):=g 65
 have e:decide ((c.toNat:Int)≤(90:Int))=decide (c.toNat≤90):=g' 90
 rw[a,b,d,e]
theorem ajr (s:nS) (hw:s.length≤aK):ai (ah ay [(260,KN)]) Tryz.f234 KV (a234 (s,())) (s,()):=by
 rw[v234]
 have hN:kq s=(db (jm s) s.length&&(decide (1≤s.length)&&decide (s.length≤8))):=by unfold kq;rfl
 refine U.mk fun y1 e1=>U.mk fun y2 e2=> ?_
 simp only[true_and,and_true,eq_self,Int.toNat_natCast]
 have hz:(Int.toNat (0:Int))=0:=rfl
 rw[hz,HK] at e2
 have h8:decide ((s.length:Int)>8)= !decide (s.length≤8):=vT _ 8 8 rfl
 rw[h8] at e1
 have Po:y1=false→1≤s.length:=fun h=>by
  rw[h] at e1
  cases s with
  |nil=>cases e1
  |cons c s=>simp
 have n0:jm s 0=uR (s.getD 0 0):=by unfold jm;simp
 refine⟨fun h=>⟨by omega,by have:=Po h;omega⟩,fun _=>trivial,fun h=> ?_,fun h=> ?_⟩
 ·rw[hN]
  rw[h] at e2
  cases hy:y1 with
  |true=>
   rw[hy] at e1
   cases hs:s with
   |nil=>rfl
   |cons c t=>
    rw[hs] at e1
    have:decide ((c::t).length≤8)=false:=by
     have e1:true=(bif(c::t)==[] then true else !decide ((c::t).length≤8)):=e1
     have:((c::t)==([]:nS))=false:=rfl
     rw[this] at e1
     simpa using e1.symm
    rw[this];simp
  |false=>
   rw[hy] at e2
   have hl:uR (s.getD 0 0)=false:=by simpa using e2.symm
   rw[fT (k:=0) (by have:=Po hy;omega) (by rw[n0,hl])]
   rfl
 have MW:y1=false:=by
  cases hy:y1 with
  |false=>rfl
  |true=>rw[h,hy] at e2;cases e2
 have hl:uR (s.getD 0 0)=true:=by rw[h,MW] at e2;simpa using e2.symm
 have Bx:=Po MW
 have hlen:decide (s.length≤8)=true:=by
  rw[MW] at e1
  cases hs:s with
  |nil=>rw[hs] at Bx;simp at Bx
  |cons c t=>
   rw[hs] at e1
   have e1:false=(bif(c::t)==[] then true else !decide ((c::t).length≤8)):=e1
   have:((c::t)==([]:nS))=false:=rfl
   rw[this] at e1
   simpa using e1.symm
 refine⟨⟨1,⟨by omega,by omega,?_⟩,rfl⟩,fun i=>U.mk fun y4 e4=>U.mk fun y5 e5=>U.mk fun y6 e6=>U.mk fun y7 e7=> ?_⟩
 ·exact fc (k:=0) rfl (by rw[n0,hl])
 rintro⟨g0,g1,g2⟩
 have g2:db (jm s) i=true:=g2
 have hc:jm s i= !y7:=by
  rw[HK] at e5
  rw[ltN _ 48 48 rfl] at e6
  rw[vT _ 57 57 rfl] at e7
  rw[e7,e6,e5]
  unfold jm Nt
  have:(i==0)=false:=by rw[beq_eq_false_iff_ne];omega
  rw[this]
  have key:∀l e f:Bool,(l||(!false&&(e&&f)))= !(bif !l then(bif !e then true else !f) else false):=by decide
  exact key _ _ _
 refine⟨fun hs=> ?_,fun hs=> ?_⟩
 ·have hs:=ba e4 hs
  refine⟨⟨by omega,by omega⟩,fun _=>⟨by omega,by omega⟩,fun _ _=>⟨by omega,by omega⟩,fun h7=> ?_,fun h7=>⟨dr hs hw,i+1,⟨by omega,by omega,?_⟩,by omega,by omega⟩⟩
  ·rw[hN,fT hs (by rw[hc,h7];rfl)]
   rfl
  ·exact fc g2 (by rw[hc,h7];rfl)
 ·have hs:=br e4 hs
  have:i=s.length:=by omega
  subst this
  rw[hN,g2,hlen,decide_eq_true Bx]
  rfl
theorem ack:aM Tryz.prog 234 KV:=
 aM.bZ (l:=[(260,KN)]) (A:=a234) aH ⟨ab9,trivial⟩ Tryz.func234 (by kernel_rfl) (by kernel_rfl) fun x hw _=>ajr x.1 hw.1
theorem afW (v:Int) (b:Int):ai (ah ay []) Tryz.f238 KT (YU (v,b,())) (v,b,())=(
U (bif bif bif decide (v<(0:Int)) then true else decide (v>(60:Int)) then true else decide (b<(1:Int)) then true else decide (b>(10:Int))) fun(y2:Bool)=>
(y2=true→(0:Int)=mY v b∧True)∧
(y2=false→
bq IntKind.i64 (v - b)∧
(∃(fD:Nat),(fD≤(60:Nat)∧dZ (gK v b) fD)∧v - b*((↑fD:Int)+(1:Int))=v - b∧j5 v b fD=(0:Int)∧b=b∧True)∧
∀(s3:Nat),
U (v - b*((↑s3:Int)+(1:Int))) fun(y4:Int)=>
U (j5 v b s3+y4) fun(y5:Int)=>
s3≤(60:Nat)∧dZ (gK v b) s3→
(decide (y4>(0:Int))=true→
bq IntKind.i64 y5∧
bq IntKind.i64 (y4 - b)∧
∃(eR:Nat),
(eR≤(60:Nat)∧dZ (gK v b) eR)∧(60:Nat) - eR<(60:Nat) - s3∧v - b*((↑eR:Int)+(1:Int))=y4 - b∧j5 v b eR=y5∧b=b∧True)∧
(decide (y4>(0:Int))=false→j5 v b s3=mY v b∧True))):=by kernel_rfl
theorem ajo (v:Int) (b:Int):ai (ah ay []) Tryz.f238 KT (YU (v,b,())) (v,b,()):=by
 rw[afW]
 refine U.mk fun y2 e2=> ?_
 simp only[true_and,and_true,eq_self,Int.toNat_natCast]
 have e2:y2= !(rh 0 60 v&&rh 1 10 b):=by
  rw[e2,Ga,Ng,Ga,Ng]
  unfold rh
  have key:∀a b c d:Bool,(bif(bif(bif !a then true else !b) then true else !c) then true else !d)= !((a&&b)&&(c&&d)):=by decide
  exact key _ _ _ _
 refine⟨fun h=> ?_,fun h=> ?_⟩
 ·rw[e2] at h
  simp only[Bool.not_eq_true'] at h
  unfold mY
  rw[h]
  rfl
 rw[e2] at h
 simp only[Bool.not_eq_false'] at h
 have hS:mY v b=j5 v b (qv v b):=by
  unfold mY
  rw[h]
  rfl
 rw[Bool.and_eq_true] at h
 unfold rh at h
 rw[Bool.and_eq_true,Bool.and_eq_true] at h
 obtain⟨⟨h1,h2⟩,h3,h4⟩:=h
 have h1:=of_decide_eq_true h1
 have h2:=of_decide_eq_true h2
 have h3:=of_decide_eq_true h3
 have h4:=of_decide_eq_true h4
 refine⟨bg (by omega) (by omega),⟨0,⟨by omega,rfl⟩,by simp,rfl⟩,fun s=>U.mk fun y4 e4=>U.mk fun y5 e5=> ?_⟩
 rintro⟨g1,g2⟩
 have g2:cd (gK v b) s=false:=g2
 have hr:=vd ⟨h1,h2⟩ h3 s g2
 have hq:=yq (v:=v) h3 s
 refine⟨fun h=> ?_,fun h=> ?_⟩
 ·have h:=of_decide_eq_true h
  refine⟨bg (by omega) (by omega),bg (by omega) (by omega),s+1,⟨by omega,?_⟩,by omega,?_,?_⟩
  ·exact jV g2 (decide_eq_false (by omega))
  ·have:((s+1:Nat):Int)=(s:Int)+1:=by omega
   rw[this,e4,Int.mul_add b ((s:Int)+1) 1,Int.mul_one]
   omega
  ·rw[e5,e4];rfl
 ·have h:=of_decide_eq_false h
  rw[hS]
  congr 1
  unfold qv
  have hd:gK v b s=true:=decide_eq_true (by omega)
  show s=(gA (gK v b) 100).getD 0
  rw[sr (by omega) g2 hd]
  rfl
theorem aci:aM Tryz.prog 238 KT:=
 aM.bZ (l:=[]) (A:=YU) aH trivial Tryz.func238 (by kernel_rfl) (by kernel_rfl) fun x _ _=>ajo x.1 x.2.1
theorem agp (i:Int) (p:ab):ai (ah ay []) Tryz.f172 Lo aq (i,p,())=(
aQ i p.1.length∧(p.1.getD i.toNat ([],(0:Int),(0:Int))).1=(p.1.getD i.toNat zE).1∧True):=by kernel_rfl
theorem v173 (i:Int) (p:ab):ai (ah ay []) Tryz.f173 Ln aq (i,p,())=(
aQ i p.2.2.1.length∧(p.2.2.1.getD i.toNat ([],((0:Int),(0:Int)),false)).1=(p.2.2.1.getD i.toNat zS).1∧True):=by kernel_rfl
theorem ago (i:Int) (p:ab):ai (ah ay []) Tryz.f174 Lm aq (i,p,())=(
aQ i p.2.2.2.1.length∧(p.2.2.2.1.getD i.toNat ([],[])).1=(p.2.2.2.1.getD i.toNat zL).1∧True):=by kernel_rfl
theorem acS:aM Tryz.prog 172 Lo:=
 aM.bZ (l:=[]) (A:=fun _=>aq) aH trivial Tryz.func172 (by kernel_rfl) (by kernel_rfl) fun x _ hp=>by
  obtain⟨i,p,u⟩:=x
  show ai (ah ay []) Tryz.f172 Lo aq (i,p,())
  rw[agp]
  exact⟨hp,rfl,trivial⟩
theorem acR:aM Tryz.prog 173 Ln:=
 aM.bZ (l:=[]) (A:=fun _=>aq) aH trivial Tryz.func173 (by kernel_rfl) (by kernel_rfl) fun x _ hp=>by
  obtain⟨i,p,u⟩:=x
  show ai (ah ay []) Tryz.f173 Ln aq (i,p,())
  rw[v173]
  exact⟨hp,rfl,trivial⟩
theorem acQ:aM Tryz.prog 174 Lm:=
 aM.bZ (l:=[]) (A:=fun _=>aq) aH trivial Tryz.func174 (by kernel_rfl) (by kernel_rfl) fun x _ hp=>by
  obtain⟨i,p,u⟩:=x
  show ai (ah ay []) Tryz.f174 Lm aq (i,p,())
  rw[ago]
  exact⟨hp,rfl,trivial⟩
theorem w7 (l:List nS) (s:Nat) (hs:s<l.length) (h:oY l s):
  ((aT .str (gT l s) (l.getD s [])).getD false=true→dR l=true)∧
  ((aT .str (gT l s) (l.getD s [])).getD false=false→oY l (s+1)∧gT l (s+1)=dc .str (gT l s) (l.getD s []) true):=by
 have e:=QK l s (by omega) (l.getD s [])
 have e2:cd (fun k=>l.getD k []==l.getD s []) s=cd (jq l s) s:=by
  congr 1
  funext k
  exact fF _ _
 rw[e2] at e
 refine⟨fun hy=> ?_,fun hy=>⟨?_,(Ut l s hs hy).symm⟩⟩
 ·unfold dR
  exact nL (p:=fun i=>cd (fun k=>l.getD i []==l.getD k []) i) hs (by rw[e] at hy;exact hy)
 ·exact jV (p:=fun i=>cd (jq l i) i) h (by rw[e] at hy;exact hy)
theorem Ba (l:List nS) (s:Nat) (hs:l.length≤s) (nC:s≤l.length) (h:oY l s):dR l=false:=by
 have:s=l.length:=by omega
 subst this
 unfold dR
 exact h
theorem Ui (n:Int) (f:(ab)×Unit):ai (ah ay [(172,Lo)]) Tryz.f171 tR (EL (n,f,())) (n,f,())=(
(∃(dp:Nat),(dp≤(fz f.1).length∧oY (fz f.1) dp)∧(↑dp:Int)=(0:Int)∧f=f∧n=n∧gT (fz f.1) dp=[]∧True)∧
∀(s2:Nat),
U (f.1.1.getD (↑s2:Int).toNat zE).1 fun(y3:nS)=>
U ((aT Ty.str (gT (fz f.1) s2) y3).getD false) fun(y4:Bool)=>
s2≤(fz f.1).length∧oY (fz f.1) s2→
(decide ((↑s2:Int)<n)=true→
aQ (↑s2:Int) f.1.1.length∧
(y4=true→true=dR (fz f.1)∧True)∧
(y4=false→
aQ (↑s2:Int) f.1.1.length∧
bq IntKind.i64 ((↑s2:Int)+(1:Int))∧
∃(fQ:Nat),
(fQ≤(fz f.1).length∧oY (fz f.1) fQ)∧
(fz f.1).length - fQ<(fz f.1).length - s2∧
(↑fQ:Int)=(↑s2:Int)+(1:Int)∧f=f∧n=n∧gT (fz f.1) fQ=dc Ty.str (gT (fz f.1) s2) y3 true∧True))∧
(decide ((↑s2:Int)<n)=false→false=dR (fz f.1)∧True)):=by kernel_rfl
theorem Uh (n:Int) (f:(ab)×Unit):ai (ah ay [(173,Ln)]) Tryz.f171 tQ (EK (n,f,())) (n,f,())=(
(∃(dp:Nat),(dp≤(eY f.1).length∧oY (eY f.1) dp)∧(↑dp:Int)=(0:Int)∧f=f∧n=n∧gT (eY f.1) dp=[]∧True)∧
∀(s2:Nat),
U (f.1.2.2.1.getD (↑s2:Int).toNat zS).1 fun(y3:nS)=>
U ((aT Ty.str (gT (eY f.1) s2) y3).getD false) fun(y4:Bool)=>
s2≤(eY f.1).length∧oY (eY f.1) s2→
(decide ((↑s2:Int)<n)=true→
aQ (↑s2:Int) f.1.2.2.1.length∧
(y4=true→true=dR (eY f.1)∧True)∧
(y4=false→
aQ (↑s2:Int) f.1.2.2.1.length∧
bq IntKind.i64 ((↑s2:Int)+(1:Int))∧
∃(fQ:Nat),
(fQ≤(eY f.1).length∧oY (eY f.1) fQ)∧
(eY f.1).length - fQ<(eY f.1).length - s2∧
(↑fQ:Int)=(↑s2:Int)+(1:Int)∧f=f∧n=n∧gT (eY f.1) fQ=dc Ty.str (gT (eY f.1) s2) y3 true∧True))∧
(decide ((↑s2:Int)<n)=false→false=dR (eY f.1)∧True)):=by kernel_rfl
theorem Ug (n:Int) (f:(ab)×Unit):ai (ah ay [(174,Lm)]) Tryz.f171 tP (EJ (n,f,())) (n,f,())=(
(∃(dp:Nat),(dp≤(eJ f.1).length∧oY (eJ f.1) dp)∧(↑dp:Int)=(0:Int)∧f=f∧n=n∧gT (eJ f.1) dp=[]∧True)∧
∀(s2:Nat),
U (f.1.2.2.2.1.getD (↑s2:Int).toNat zL).1 fun(y3:nS)=>
U ((aT Ty.str (gT (eJ f.1) s2) y3).getD false) fun(y4:Bool)=>
s2≤(eJ f.1).length∧oY (eJ f.1) s2→
(decide ((↑s2:Int)<n)=true→
aQ (↑s2:Int) f.1.2.2.2.1.length∧
(y4=true→true=dR (eJ f.1)∧True)∧
(y4=false→
aQ (↑s2:Int) f.1.2.2.2.1.length∧
bq IntKind.i64 ((↑s2:Int)+(1:Int))∧
∃(fQ:Nat),
(fQ≤(eJ f.1).length∧oY (eJ f.1) fQ)∧
(eJ f.1).length - fQ<(eJ f.1).length - s2∧
(↑fQ:Int)=(↑s2:Int)+(1:Int)∧f=f∧n=n∧gT (eJ f.1) fQ=dc Ty.str (gT (eJ f.1) s2) y3 true∧True))∧
(decide ((↑s2:Int)<n)=false→false=dR (eJ f.1)∧True)):=by kernel_rfl
theorem Wa (n:Int) (f:ab×Unit) (hp:n=(f.1.1.length:Int)) (hl:f.1.1.length≤aK):ai (ah ay [(172,Lo)]) Tryz.f171 tR (EL (n,f,())) (n,f,()):=by
 have hlen:(fz f.1).length=f.1.1.length:=by simp[fz]
 rw[Ui]
 simp only[true_and,and_true,eq_self,Int.toNat_natCast]
 refine⟨⟨0,⟨by omega,rfl⟩,rfl,rfl⟩,fun s=>U.mk fun y3 e3=>U.mk fun y4 e4=> ?_⟩
 rintro⟨h1,h2⟩
 refine⟨fun h=> ?_,fun h=> ?_⟩
 ·have h:=of_decide_eq_true h
  have hs:s<(fz f.1).length:=by omega
  have e3:y3=(fz f.1).getD s []:=by
   rw[e3]
   unfold fz
   rw[eA _ (by omega),eA _ (by simpa using (by omega:s<f.1.1.length))]
   simp
  rw[e3] at e4
  obtain⟨k1,k2⟩:=w7 _ s hs h2
  refine⟨⟨by omega,by omega⟩,fun hy=>(k1 (by rw[←e4,hy])).symm,fun hy=> ?_⟩
  obtain⟨k3,k4⟩:=k2 (by rw[←e4,hy])
  exact⟨⟨by omega,by omega⟩,dr (by omega) hl,s+1,⟨by omega,k3⟩,by omega,by omega,by rw[e3];exact k4⟩
 ·have h:=of_decide_eq_false h
  rw[Ba _ s (by omega) h1 h2]
theorem Rh:aM Tryz.prog 171 tR:=
 aM.bZ (l:=[(172,Lo)]) (A:=EL) aH ⟨acS,trivial⟩ Tryz.func171 (by kernel_rfl) (by kernel_rfl) fun x hw hp=>Wa x.1 x.2.1 hp (k7 hw.2.1.1).1
theorem V9 (n:Int) (f:ab×Unit) (hp:n=(f.1.2.2.1.length:Int)) (hl:f.1.2.2.1.length≤aK):ai (ah ay [(173,Ln)]) Tryz.f171 tQ (EK (n,f,())) (n,f,()):=by
 have hlen:(eY f.1).length=f.1.2.2.1.length:=by simp[eY]
 rw[Uh]
 simp only[true_and,and_true,eq_self,Int.toNat_natCast]
 refine⟨⟨0,⟨by omega,rfl⟩,rfl,rfl⟩,fun s=>U.mk fun y3 e3=>U.mk fun y4 e4=> ?_⟩
 rintro⟨h1,h2⟩
 refine⟨fun h=> ?_,fun h=> ?_⟩
 ·have h:=of_decide_eq_true h
  have hs:s<(eY f.1).length:=by omega
  have e3:y3=(eY f.1).getD s []:=by
   rw[e3]
   unfold eY
   rw[eA _ (by omega),eA _ (by simpa using (by omega:s<f.1.2.2.1.length))]
   simp
  rw[e3] at e4
  obtain⟨k1,k2⟩:=w7 _ s hs h2
  refine⟨⟨by omega,by omega⟩,fun hy=>(k1 (by rw[←e4,hy])).symm,fun hy=> ?_⟩
  obtain⟨k3,k4⟩:=k2 (by rw[←e4,hy])
  exact⟨⟨by omega,by omega⟩,dr (by omega) hl,s+1,⟨by omega,k3⟩,by omega,by omega,by rw[e3];exact k4⟩
 ·have h:=of_decide_eq_false h
  rw[Ba _ s (by omega) h1 h2]
theorem Rg:aM Tryz.prog 171 tQ:=
 aM.bZ (l:=[(173,Ln)]) (A:=EK) aH ⟨acR,trivial⟩ Tryz.func171 (by kernel_rfl) (by kernel_rfl) fun x hw hp=>V9 x.1 x.2.1 hp (k7 hw.2.1.1).2.2.1
theorem V8 (n:Int) (f:ab×Unit) (hp:n=(f.1.2.2.2.1.length:Int)) (hl:f.1.2.2.2.1.length≤aK):ai (ah ay [(174,Lm)]) Tryz.f171 tP (EJ (n,f,())) (n,f,()):=by
 have hlen:(eJ f.1).length=f.1.2.2.2.1.length:=by simp[eJ]
 rw[Ug]
 simp only[true_and,and_true,eq_self,Int.toNat_natCast]
 refine⟨⟨0,⟨by omega,rfl⟩,rfl,rfl⟩,fun s=>U.mk fun y3 e3=>U.mk fun y4 e4=> ?_⟩
 rintro⟨h1,h2⟩
 refine⟨fun h=> ?_,fun h=> ?_⟩
 ·have h:=of_decide_eq_true h
  have hs:s<(eJ f.1).length:=by omega
  have e3:y3=(eJ f.1).getD s []:=by
   rw[e3]
   unfold eJ
   rw[eA _ (by omega),eA _ (by simpa using (by omega:s<f.1.2.2.2.1.length))]
   simp
  rw[e3] at e4
  obtain⟨k1,k2⟩:=w7 _ s hs h2
  refine⟨⟨by omega,by omega⟩,fun hy=>(k1 (by rw[←e4,hy])).symm,fun hy=> ?_⟩
  obtain⟨k3,k4⟩:=k2 (by rw[←e4,hy])
  exact⟨⟨by omega,by omega⟩,dr (by omega) hl,s+1,⟨by omega,k3⟩,by omega,by omega,by rw[e3];exact k4⟩
 ·have h:=of_decide_eq_false h
  rw[Ba _ s (by omega) h1 h2]
theorem Rf:aM Tryz.prog 171 tP:=
 aM.bZ (l:=[(174,Lm)]) (A:=EJ) aH ⟨acQ,trivial⟩ Tryz.func171 (by kernel_rfl) (by kernel_rfl) fun x hw hp=>V8 x.1 x.2.1 hp (k7 hw.2.1.1).2.2.2
theorem agq (p:ab):ai (ah ay [(234,KV),(235,x8)]) Tryz.f170 Lp (Y3 (p,())) (p,())=(
U
(bif
bif
bif
bif
bif
bif
bif bif decide (p.2.2.2.2.1<(1:Int)) then true else decide (p.2.2.2.2.1>(60:Int)) then true
else decide (p.2.2.2.2.2.1<(1:Int)) then
true
else decide (p.2.2.2.2.2.1>(10:Int)) then
true
else decide (p.2.2.2.2.2.2.1<(1:Int)) then
true
else decide (p.2.2.2.2.2.2.1>(4000:Int)) then
true
else decide (p.2.2.2.2.2.2.2.1<(1:Int)) then
true
else decide (p.2.2.2.2.2.2.2.1>(20:Int)) then
true
else(↑p.1.length:Int)==(0:Int))
fun(y1:Bool)=>
(y1=true→false=fArgs p∧True)∧
(y1=false→
(∃(dp:Nat),
(dp≤p.1.length∧fe gB p.1 dp)∧
(↑dp:Int)=(0:Int)∧
p.1=p.1∧
(↑p.1.length:Int)=(↑p.1.length:Int)∧
aE p (True))∧
∀(s2:Nat),
U (decide ((↑s2:Int)<(↑p.1.length:Int))) fun(y3:Bool)=>
U (p.1.getD (↑s2:Int).toNat ([],(0:Int),(0:Int))) fun(y4:List UInt8×Int×Int)=>
U (bif !kq y4.1 then true else cO y4.2.1==(0:Int)) fun(y5:Bool)=>
U (bif decide (y4.2.2<(1:Int)) then true else decide (y4.2.2>(4000:Int))) fun(y6:Bool)=>
s2≤p.1.length∧fe gB p.1 s2→
(y3=true→
aQ (↑s2:Int) p.1.length∧
True∧
((!kq y4.1)=false→True)∧
(y5=true→false=fArgs p∧True)∧
(y5=false→
((y4.2.1==(4:Int))=true→
((y4.2.2 !=(0:Int))=true→false=fArgs p∧True)∧
((y4.2.2 !=(0:Int))=false→
bq IntKind.i64 ((↑s2:Int)+(1:Int))∧
∃(nv:Nat),
(nv≤p.1.length∧fe gB p.1 nv)∧
p.1.length - nv<p.1.length - s2∧
(↑nv:Int)=(↑s2:Int)+(1:Int)∧
p.1=p.1∧
(↑p.1.length:Int)=(↑p.1.length:Int)∧
aE p (True)))∧
((y4.2.1==(4:Int))=false→
(y6=true→false=fArgs p∧True)∧
(y6=false→
bq IntKind.i64 ((↑s2:Int)+(1:Int))∧
∃(nv:Nat),
(nv≤p.1.length∧fe gB p.1 nv)∧
p.1.length - nv<p.1.length - s2∧
(↑nv:Int)=(↑s2:Int)+(1:Int)∧
p.1=p.1∧
(↑p.1.length:Int)=(↑p.1.length:Int)∧
aE p (True)))))∧
(y3=false→
(∃(kZ:Nat),
(kZ≤p.2.2.1.length∧fe kY p.2.2.1 kZ)∧
(↑kZ:Int)=(0:Int)∧
p.2.2.1=p.2.2.1∧
(↑p.2.2.1.length:Int)=(↑p.2.2.1.length:Int)∧
aE p (True))∧
∀(s7:Nat),
U (decide ((↑s7:Int)<(↑p.2.2.1.length:Int))) fun(y8:Bool)=>
U (!kq (p.2.2.1.getD (↑s7:Int).toNat ([],((0:Int),(0:Int)),false)).1) fun(y9:Bool)=>
s7≤p.2.2.1.length∧fe kY p.2.2.1 s7→
(y8=true→
aQ (↑s7:Int) p.2.2.1.length∧
True∧
(y9=true→false=fArgs p∧True)∧
(y9=false→
bq IntKind.i64 ((↑s7:Int)+(1:Int))∧
∃(cU:Nat),
(cU≤p.2.2.1.length∧fe kY p.2.2.1 cU)∧
p.2.2.1.length - cU<p.2.2.1.length - s7∧
(↑cU:Int)=(↑s7:Int)+(1:Int)∧
p.2.2.1=p.2.2.1∧
(↑p.2.2.1.length:Int)=(↑p.2.2.1.length:Int)∧
aE p (True)))∧
(y8=false→
(∃(ox:Nat),
(ox≤p.2.2.2.1.length∧fe jt p.2.2.2.1 ox)∧
(↑ox:Int)=(0:Int)∧p.2.2.2.1=p.2.2.2.1∧(↑p.2.2.2.1.length:Int)=(↑p.2.2.2.1.length:Int)∧True)∧
∀(iU:Nat),
U (decide ((↑iU:Int)<(↑p.2.2.2.1.length:Int))) fun(bI:Bool)=>
U (!kq (p.2.2.2.1.getD (↑iU:Int).toNat ([],[])).1) fun(aw:Bool)=>
iU≤p.2.2.2.1.length∧fe jt p.2.2.2.1 iU→
(bI=true→
aQ (↑iU:Int) p.2.2.2.1.length∧
True∧
(aw=true→false=fArgs p∧True)∧
(aw=false→
bq IntKind.i64 ((↑iU:Int)+(1:Int))∧
∃(fN:Nat),
(fN≤p.2.2.2.1.length∧fe jt p.2.2.2.1 fN)∧
p.2.2.2.1.length - fN<p.2.2.2.1.length - iU∧
(↑fN:Int)=(↑iU:Int)+(1:Int)∧
p.2.2.2.1=p.2.2.2.1∧(↑p.2.2.2.1.length:Int)=(↑p.2.2.2.1.length:Int)∧True))∧
(bI=false→true=fArgs p∧True))))):=by kernel_rfl
theorem ajO (p:ab) (hw:pO p):ai (ah ay [(234,KV),(235,x8)]) Tryz.f170 Lp (Y3 (p,())) (p,()):=by
 rw[agq]
 refine U.mk fun y1 e1=> ?_
 simp only[dz,true_and,and_true,eq_self,Int.toNat_natCast]
 have hN:oH p= !y1:=by
  rw[e1,Ga,Ng,Ga,Ng,Ga,Ng,Ga,Ng,FM _ 0 0 rfl]
  unfold oH rh
  generalize decide (1≤p.2.2.2.2.1)=a1;generalize decide (p.2.2.2.2.1≤60)=a2
  generalize decide (1≤p.2.2.2.2.2.1)=a3;generalize decide (p.2.2.2.2.2.1≤10)=a4
  generalize decide (1≤p.2.2.2.2.2.2.1)=a5;generalize decide (p.2.2.2.2.2.2.1≤4000)=a6
  generalize decide (1≤p.2.2.2.2.2.2.2.1)=a7;generalize decide (p.2.2.2.2.2.2.2.1≤20)=a8
  generalize decide (p.1.length=0)=a124
  cases a1<;>cases a2<;>cases a3<;>cases a4<;>cases a5<;>cases a6<;>cases a7<;>cases a8<;>cases a124<;>rfl
 refine⟨fun h=> ?_,fun h=> ?_⟩
 ·unfold fArgs
  rw[hN,h]
  rfl
 have hA:fArgs p=(p.1.all gB&&(p.2.2.1.all kY&&p.2.2.2.1.all jt)):=by
  unfold fArgs
  rw[hN,h]
  rfl
 rw[hA]
 refine⟨⟨0,⟨by omega,rfl⟩,rfl⟩,fun s=>U.mk fun y3 e3=>U.mk fun y4 e4=>U.mk fun y5 e5=>U.mk fun y6 e6=> ?_⟩
 rintro⟨h1,h2⟩
 have h2:(p.1.take s).all gB=true:=h2
 have e4:y4=p.1.getD s zE:=e4
 rw[Ga,Ng] at e6
 have hE:gB y4=(!y5&&bif y4.2.1==4 then y4.2.2==0 else !y6):=by
  rw[e5,e6]
  unfold gB rh
  generalize kq y4.1=a;generalize (cO y4.2.1==0)=b;generalize (y4.2.1==4)=c;generalize (y4.2.2==0)=d;generalize decide (1≤y4.2.2)=e;generalize decide (y4.2.2≤4000)=f
  cases a<;>cases b<;>cases c<;>cases d<;>cases e<;>cases f<;>rfl
 refine⟨fun h=> ?_,fun h=> ?_⟩
 ·have h:=ba e3 h
  have no:gB y4=false→false=(p.1.all gB&&(p.2.2.1.all kY&&p.2.2.2.1.all jt)):=fun hf=>by
   rw[mG zE h (by rw[←e4,hf])];rfl
  have yes:gB y4=true→∃s',(s'≤p.1.length∧fe gB p.1 s')∧p.1.length - s'<p.1.length - s∧(s':Int)=(s:Int)+1:=fun hf=>
   ⟨s+1,⟨by omega,all_succ zE h h2 (by rw[←e4,hf])⟩,by omega,by omega⟩
  refine⟨⟨by omega,by omega⟩,fun _=>trivial,fun h5=>no (by rw[hE,h5];rfl),fun h5=>⟨fun h4=>⟨fun h6=>no ?_,fun h6=>⟨dr h hw.1,yes ?_⟩⟩,fun h4=>⟨fun h6=>no ?_,fun h6=>⟨dr h hw.1,yes ?_⟩⟩⟩⟩
  ·rw[iH] at h6
   rw[hE,h5,h4]
   simpa using h6
  ·rw[iH] at h6
   rw[hE,h5,h4]
   simpa using h6
  ·rw[hE,h5,h4,h6];rfl
  ·rw[hE,h5,h4,h6];rfl
 rw[jx (br e3 h) h2,Bool.true_and]
 refine⟨⟨0,⟨by omega,rfl⟩,rfl⟩,fun t=>U.mk fun y8 e8=>U.mk fun y9 e9=> ?_⟩
 rintro⟨h1,h2⟩
 have h2:(p.2.2.1.take t).all kY=true:=h2
 have e9:kY (p.2.2.1.getD t zS)= !y9:=by rw[e9,Bool.not_not];rfl
 refine⟨fun h=> ?_,fun h=> ?_⟩
 ·have h:=ba e8 h
  refine⟨⟨by omega,by omega⟩,fun h9=> ?_,fun h9=>⟨dr h hw.2.2.1,t+1,⟨by omega,?_⟩,by omega,by omega⟩⟩
  ·rw[mG zS h (by rw[e9,h9];rfl)]
   rfl
  ·exact all_succ zS h h2 (by rw[e9,h9];rfl)
 rw[jx (br e8 h) h2,Bool.true_and]
 refine⟨⟨0,⟨by omega,rfl⟩,rfl⟩,fun u=>U.mk fun bI eH=>U.mk fun aw dM=> ?_⟩
 rintro⟨h1,h2⟩
 have h2:(p.2.2.2.1.take u).all jt=true:=h2
 have dM:jt (p.2.2.2.1.getD u zL)= !aw:=by rw[dM,Bool.not_not];rfl
 refine⟨fun h=> ?_,fun h=> ?_⟩
 ·have h:=ba eH h
  refine⟨⟨by omega,by omega⟩,fun h9=> ?_,fun h9=>⟨dr h hw.2.2.2,u+1,⟨by omega,?_⟩,by omega,by omega⟩⟩
  ·rw[mG zL h (by rw[dM,h9];rfl)]
  ·exact all_succ zL h h2 (by rw[dM,h9];rfl)
 rw[jx (br eH h) h2]
theorem acT:aM Tryz.prog 170 Lp:=
 aM.bZ (l:=[(234,KV),(235,x8)]) (A:=Y3) aH ⟨ack,Q2,trivial⟩ Tryz.func170 (by kernel_rfl) (by kernel_rfl) fun x hw hp=>ajO x.1 (k7 hw.1)
theorem Fz (p:ab) (k:Nat) (hk:k<p.2.1.length) (h:xI p k):
  let j:=p.2.1.getD k zJ
  let bad:= !dx p j.1||(!dx p j.2||((aT aL (bW p k) j.1).isSome||((aT aL (bW p k) j.2).isSome||j.1==j.2)))
  (bad=true→bR p=false)∧(bad=false→xI p (k+1)∧bW p (k+1)=dc aL (dc aL (bW p k) j.1 j.2) j.2 j.1):=by
 intro j bad
 have e:=Ew p k hk
 have n1:=Hw p k (by omega) j.1
 have n2:=Hw p k (by omega) j.2
 have hA:kM p (2*k)=(dx p j.1&& !(aT aL (bW p k) j.1).isSome):=by
  unfold kM
  rw[e.1,n1]
 have hB:kM p (2*k+1)=(dx p j.2&& !((aT aL (bW p k) j.2).isSome||j.1==j.2)):=by
  unfold kM
  rw[e.2,n2]
  show(_&& !(cd _ (2*k)||(bT p).getD (2*k) zP==_))=_
  rw[e.1]
 have Py:bad= !(kM p (2*k)&&kM p (2*k+1)):=by
  rw[hA,hB]
  show(!dx p j.1||(!dx p j.2||((aT aL (bW p k) j.1).isSome||((aT aL (bW p k) j.2).isSome||j.1==j.2))))=_
  generalize dx p j.1=a;generalize dx p j.2=b;generalize (aT aL (bW p k) j.1).isSome=c;generalize (aT aL (bW p k) j.2).isSome=d;generalize (j.1==j.2)=f
  cases a<;>cases b<;>cases c<;>cases d<;>cases f<;>rfl
 have hlen:2*k+1<(bT p).length:=by rw[mj];omega
 refine⟨fun hb=> ?_,fun hb=> ?_⟩
 ·rw[Py,Bool.not_eq_true',Bool.and_eq_false_iff] at hb
  rw[uF]
  rcases hb with hb|hb
  ·rw[fT (by omega) hb];rfl
  ·rw[fT hlen hb];rfl
 ·have hb0:=hb
  rw[Py,Bool.not_eq_false',Bool.and_eq_true] at hb
  refine⟨?_,?_⟩
  ·show db (kM p) (2*(k+1))=true
   rw[show 2*(k+1)=2*k+1+1 by omega]
   exact fc (fc h hb.1) hb.2
  ·rw[hA] at hb
   rw[hB] at hb
   simp only[Bool.and_eq_true,Bool.not_eq_true',Bool.or_eq_false_iff] at hb
   obtain⟨⟨_,m1⟩,_,m2,m3⟩:=hb
   rw[nV pB m1]
   have m4:(aT aL (bW p k++[(j.1,j.2)]) j.2).isSome=false:=by
    have m2':=gU aL (bW p k) j.2
    rw[m2] at m2'
    rw[gU,List.any_append,←m2']
    simp only[List.any_cons,List.any_nil,Bool.or_false,Bool.false_or,Fx]
    rw[fF]
    exact m3
   rw[nV pB m4]
   unfold bW
   rw[pZ _ zJ hk]
   simp[j]
theorem v175 (p:ab):ai (ah ay [(236,Dr)]) Tryz.f175 Ll (a175 (p,())) (p,())=(
U (((0:Int),(0:Int)),(0:Int),(0:Int)) fun(y1:(Int×Int)×Int×Int)=>
(∃(dp:Nat),
(dp≤p.2.1.length∧xI p dp)∧
(↑dp:Int)=(0:Int)∧
p.2.1=p.2.1∧
(↑p.2.1.length:Int)=(↑p.2.1.length:Int)∧
bW p dp=[]∧
aE p (True))∧
∀(s2:Nat),
U (decide ((↑s2:Int)<(↑p.2.1.length:Int))) fun(y3:Bool)=>
U (p.2.1.getD (↑s2:Int).toNat y1) fun(y4:(Int×Int)×Int×Int)=>
U
(bif
bif(aT aL (bW p s2) y4.1).isSome then true
else(aT aL (bW p s2) y4.2).isSome then
true
else y4.1.1==y4.2.1&&(y4.1.2==y4.2.2&&true))
fun(y5:Bool)=>
U (bif y5 then true else !dx p y4.1) fun(y6:Bool)=>
U (bif y6 then true else !dx p y4.2) fun(y7:Bool)=>
s2≤p.2.1.length∧xI p s2→
(y3=true→
aQ (↑s2:Int) p.2.1.length∧
(y5=false→True)∧
(y6=false→True)∧
(y7=true→[]=m6 p∧false=bR p∧True)∧
(y7=false→
bq IntKind.i64 ((↑s2:Int)+(1:Int))∧
∃(kf:Nat),
(kf≤p.2.1.length∧xI p kf)∧
p.2.1.length - kf<p.2.1.length - s2∧
(↑kf:Int)=(↑s2:Int)+(1:Int)∧
p.2.1=p.2.1∧
(↑p.2.1.length:Int)=(↑p.2.1.length:Int)∧
bW p kf=
dc aL (dc aL (bW p s2) y4.1 y4.2) y4.2
y4.1∧
aE p (True)))∧
(y3=false→
(∃(mL:Nat),
(mL≤p.1.length∧dV (ka p) mL)∧
(↑mL:Int)=(0:Int)∧
p.1=p.1∧
(↑p.1.length:Int)=(↑p.1.length:Int)∧
aE p (bW p s2=bW p s2∧True))∧
∀(s8:Nat),
U (decide ((↑s8:Int)<(↑p.1.length:Int))) fun(y9:Bool)=>
U ((p.1.getD (↑s8:Int).toNat ([],(0:Int),(0:Int))).2.1 !=(4:Int)) fun(bp:Bool)=>
U (aT aL (bW p s2) ((↑s8:Int),(0:Int))) fun(bI:Option (Int×Int))=>
U (bI.getD ((0:Int),(0:Int))).1 fun(aw:Int)=>
U (bif !bI.isSome then true else(p.1.getD aw.toNat ([],(0:Int),(0:Int))).2.1==(4:Int)) fun(cb:Bool)=>
s8≤p.1.length∧dV (ka p) s8→
(y9=true→
aQ (↑s8:Int) p.1.length∧
(bp=true→
bq IntKind.i64 ((↑s8:Int)+(1:Int))∧
∃(ob:Nat),
(ob≤p.1.length∧dV (ka p) ob)∧
p.1.length - ob<p.1.length - s8∧
(↑ob:Int)=(↑s8:Int)+(1:Int)∧
p.1=p.1∧
(↑p.1.length:Int)=(↑p.1.length:Int)∧
aE p (bW p s2=bW p s2∧True))∧
(bp=false→
((!bI.isSome)=false→aQ aw p.1.length)∧
(cb=true→[]=m6 p∧false=bR p∧True)∧
(cb=false→
bq IntKind.i64 ((↑s8:Int)+(1:Int))∧
∃(ob:Nat),
(ob≤p.1.length∧dV (ka p) ob)∧
p.1.length - ob<p.1.length - s8∧
(↑ob:Int)=(↑s8:Int)+(1:Int)∧
p.1=p.1∧
(↑p.1.length:Int)=(↑p.1.length:Int)∧
aE p (bW p s2=bW p s2∧True))))∧
(y9=false→bW p s2=m6 p∧true=bR p∧True))):=by kernel_rfl
theorem ajN (p:ab) (hw:pO p):ai (ah ay [(236,Dr)]) Tryz.f175 Ll (a175 (p,())) (p,()):=by
 have nD:bR p=false→([]:List (ak×ak))=m6 p∧false=bR p:=fun h=>by
  unfold m6
  rw[h];exact⟨rfl,rfl⟩
 rw[v175]
 refine U.mk fun y1 e1=> ?_
 simp only[dz,true_and,and_true,eq_self,Int.toNat_natCast]
 refine⟨⟨0,⟨by omega,rfl⟩,rfl,rfl⟩,fun k=>U.mk fun y3 e3=>U.mk fun y4 e4=>U.mk fun y5 e5=>U.mk fun y6 e6=>U.mk fun y7 e7=> ?_⟩
 rintro⟨g1,g2⟩
 refine⟨fun h=> ?_,fun h=> ?_⟩
 ·have hk:=ba e3 h
  have e4:y4=p.2.1.getD k zJ:=by rw[e4,e1];rfl
  obtain⟨r1,r2⟩:=Fz p k hk g2
  have Py:(!dx p (p.2.1.getD k zJ).1||(!dx p (p.2.1.getD k zJ).2||((aT aL (bW p k) (p.2.1.getD k zJ).1).isSome||((aT aL (bW p k) (p.2.1.getD k zJ).2).isSome||(p.2.1.getD k zJ).1==(p.2.1.getD k zJ).2))))=y7:=by
   rw[e7,e6,e5,sk,e4]
   generalize dx p (p.2.1.getD k zJ).1=a;generalize dx p (p.2.1.getD k zJ).2=b;generalize (aT aL (bW p k) (p.2.1.getD k zJ).1).isSome=c;generalize (aT aL (bW p k) (p.2.1.getD k zJ).2).isSome=d;generalize ((p.2.1.getD k zJ).1==(p.2.1.getD k zJ).2)=f
   cases a<;>cases b<;>cases c<;>cases d<;>cases f<;>rfl
  refine⟨⟨by omega,by omega⟩,fun _=>trivial,fun _=>trivial,fun h7=>nD (r1 (by rw[Py,h7])),fun h7=> ?_⟩
  obtain⟨q1,q2⟩:=r2 (by rw[Py,h7])
  exact⟨dr hk hw.2.1,k+1,⟨by omega,q1⟩,by omega,by omega,by rw[e4];exact q2⟩
 ·have hk:=br e3 h
  have AD:k=p.2.1.length:=by omega
  have hN:bW p k=dS p:=Fo p k hk
  have RZ:db (kM p) (bT p).length=true:=by rw[mj,←AD];exact g2
  refine⟨⟨0,⟨by omega,rfl⟩,rfl⟩,fun s=>U.mk fun y9 e9=>U.mk fun bp du=>U.mk fun bI eH=>U.mk fun aw dM=>U.mk fun cb hX=> ?_⟩
  rintro⟨s1,s2⟩
  rw[hN,mP] at eH
  have du:bp= !((p.1.getD s zE).2.1==4):=by rw[du,iH];rfl
  have BA:bI.isSome=true→aQ aw p.1.length∧aI p (bu p ((s:Int),0)).1.1=(p.1.getD aw.toNat zE).2.1∧aw=(bu p ((s:Int),0)).1.1:=fun hs=>by
   cases hn:(bu p ((s:Int),0)).2 with
   |false=>rw[eH,hn] at hs;cases hs
   |true=>
    rw[hn] at eH
    have dM:aw=(bu p ((s:Int),0)).1.1:=by rw[dM,eH];rfl
    have hm:=fI pB (by rw[mP,hn];rfl:aT aL (dS p) ((s:Int),0)=some (bu p ((s:Int),0)).1)
    have hh:dx p (bu p ((s:Int),0)).1=true:=by
     unfold dS at hm
     obtain⟨j,hj,hm⟩:=List.mem_flatMap.1 hm
     have hb:dx p j.1=true∧dx p j.2=true:=by
      obtain⟨i,hi,rfl⟩:=List.mem_iff_getElem.1 hj
      have e:=Ew p i hi
      rw[eA zJ hi] at e
      have a:=gv.1 RZ (2*i) (by rw[mj];omega)
      have b:=gv.1 RZ (2*i+1) (by rw[mj];omega)
      unfold kM at a b
      rw[e.1,Bool.and_eq_true] at a
      rw[e.2,Bool.and_eq_true] at b
      exact⟨a.1,b.1⟩
     simp only[List.mem_cons,Prod.mk.injEq,List.not_mem_nil,or_false] at hm
     rcases hm with ⟨_,hm⟩|⟨_,hm⟩
     ·rw[hm];exact hb.2
     ·rw[hm];exact hb.1
    have hf:=lT hh
    rw[dM]
    exact⟨⟨hf.1,hf.2.1⟩,hf.2.2.2.2,rfl⟩
  have hg:ka p s=(bp|| !cb):=by
   unfold ka
   rw[du]
   cases (p.1.getD s zE).2.1==4 with
   |false=>rfl
   |true=>
    simp only[cond_true,Bool.not_true,Bool.false_or]
    have hs:bI.isSome=(bu p ((s:Int),0)).2:=by rw[eH];cases (bu p ((s:Int),0)).2<;>rfl
    cases hn:(bu p ((s:Int),0)).2 with
    |false=>rw[hn] at hs;rw[hX,hs];rfl
    |true=>
     rw[hn] at hs
     have:=BA hs
     rw[this.2.1,hX,hs]
     simp only[Bool.true_and,Bool.not_true,cond_false]
     rfl
  refine⟨fun h=> ?_,fun h=> ?_⟩
  ·have hs:=ba e9 h
   have yes:ka p s=true→∃s',(s'≤p.1.length∧dV (ka p) s')∧p.1.length - s'<p.1.length - s∧(s':Int)=(s:Int)+1:=fun hf=>
    ⟨s+1,⟨by omega,fc s2 hf⟩,by omega,by omega⟩
   refine⟨⟨by omega,by omega⟩,fun jF=>⟨dr hs hw.1,yes (by rw[hg,jF];rfl)⟩,fun jF=>⟨fun mC=>(BA (by simpa using mC)).1,fun mg=>nD ?_,fun mg=>⟨dr hs hw.1,yes (by rw[hg,jF,mg];rfl)⟩⟩⟩
   rw[uF,fT hs (by rw[hg,jF,mg];rfl),Bool.and_false]
  ·have hs:=br e9 h
   have:s=p.1.length:=by omega
   have hJ:bR p=true:=by
    rw[uF,RZ,←this]
    exact s2
   unfold m6
   rw[hJ,hN]
   exact⟨rfl,rfl⟩
theorem acP:aM Tryz.prog 175 Ll:=
 aM.bZ (l:=[(236,Dr)]) (A:=a175) aH ⟨WX,trivial⟩ Tryz.func175 (by kernel_rfl) (by kernel_rfl) fun x hw hp=>ajN x.1 (k7 hw.1)
theorem agn (p:ab) (m:List ((Int×Int)×Int×Int)):ai (ah ay [(236,Dr)]) Tryz.f176 Lk (Y2 (p,m,())) (p,m,())=(
U ([],((0:Int),(0:Int)),false) fun(y2:List UInt8×(Int×Int)×Bool)=>
(∃(fD:Nat),
(fD≤p.2.2.1.length∧dV (kX p) fD)∧
(↑fD:Int)=(0:Int)∧
m=m∧
p.2.2.1=p.2.2.1∧
(↑p.2.2.1.length:Int)=(↑p.2.2.1.length:Int)∧
lE p fD=[]∧
aE p (True))∧
∀(s3:Nat),
U (decide ((↑s3:Int)<(↑p.2.2.1.length:Int))) fun(y4:Bool)=>
U (p.2.2.1.getD (↑s3:Int).toNat y2).2.1 fun(y5:Int×Int)=>
U (bif !dx p y5 then true else(aT aL (lE p s3) y5).getD false) fun(y6:Bool)=>
U (p.1.getD y5.1.toNat ([],(0:Int),(0:Int))).2.1 fun(y7:Int)=>
U (bif y7 !=(1:Int) then y7 !=(4:Int) else false) fun(y8:Bool)=>
U (aT aL m y5) fun(y9:Option (Int×Int))=>
U (y9.getD ((0:Int),(0:Int))).1 fun(bp:Int)=>
U (bif !y9.isSome then true else(p.1.getD bp.toNat ([],(0:Int),(0:Int))).2.1==(4:Int)) fun(bI:Bool)=>
s3≤p.2.2.1.length∧dV (kX p) s3→
(y4=true→
aQ (↑s3:Int) p.2.2.1.length∧
True∧
(y6=true→false=dm p∧True)∧
(y6=false→
aQ y5.1 p.1.length∧
(y8=true→false=dm p∧True)∧
(y8=false→
((!y9.isSome)=false→aQ bp p.1.length)∧
(bI=true→false=dm p∧True)∧
(bI=false→
bq IntKind.i64 ((↑s3:Int)+(1:Int))∧
∃(nn:Nat),
(nn≤p.2.2.1.length∧dV (kX p) nn)∧
p.2.2.1.length - nn<p.2.2.1.length - s3∧
(↑nn:Int)=(↑s3:Int)+(1:Int)∧
m=m∧
p.2.2.1=p.2.2.1∧
(↑p.2.2.1.length:Int)=(↑p.2.2.1.length:Int)∧
lE p nn=dc aL (lE p s3) y5 true∧
aE p (True)))))∧
(y4=false→
(∃(vg:Nat),
(vg≤p.1.length∧dV (jT p) vg)∧
(↑vg:Int)=(0:Int)∧p.1=p.1∧(↑p.1.length:Int)=(↑p.1.length:Int)∧lE p s3=lE p s3∧True)∧
∀(mK:Nat),
U (decide ((↑mK:Int)<(↑p.1.length:Int))) fun(cb:Bool)=>
U
(bif(p.1.getD (↑mK:Int).toNat ([],(0:Int),(0:Int))).2.1==(4:Int) then
!(aT aL (lE p s3) ((↑mK:Int),(0:Int))).getD false
else false)
fun(cW:Bool)=>
mK≤p.1.length∧dV (jT p) mK→
(cb=true→
aQ (↑mK:Int) p.1.length∧
(cW=true→false=dm p∧True)∧
(cW=false→
bq IntKind.i64 ((↑mK:Int)+(1:Int))∧
∃(k6:Nat),
(k6≤p.1.length∧dV (jT p) k6)∧
p.1.length - k6<p.1.length - mK∧
(↑k6:Int)=(↑mK:Int)+(1:Int)∧p.1=p.1∧(↑p.1.length:Int)=(↑p.1.length:Int)∧lE p s3=lE p s3∧True))∧
(cb=false→true=dm p∧True))):=by kernel_rfl
theorem ajM (p:ab) (m:List (ak×ak)) (hj:bR p=true) (hm:m=dS p) (hw:pO p):ai (ah ay [(236,Dr)]) Tryz.f176 Lk (Y2 (p,m,())) (p,m,()):=by
 subst hm
 have hS:dm p=(db (kX p) p.2.2.1.length&&db (jT p) p.1.length):=by unfold dm;rfl
 rw[agn,hS]
 simp only[dz,true_and,and_true,eq_self,Int.toNat_natCast]
 refine U.mk fun y2 e2=> ?_
 refine⟨⟨0,⟨by omega,rfl⟩,rfl,rfl⟩,fun k=>U.mk fun y4 e4=>U.mk fun y5 e5=>U.mk fun y6 e6=>U.mk fun y7 e7=>U.mk fun y8 e8=>U.mk fun y9 e9=>U.mk fun bp du=>U.mk fun bI eH=> ?_⟩
 rintro⟨g1,g2⟩
 rw[mP] at e9
 refine⟨fun h=> ?_,fun h=> ?_⟩
 ·have hk:=ba e4 h
  have e5:y5=(p.2.2.1.getD k zS).2.1:=by rw[e5,e2];rfl
  have mU:(aT aL (lE p k) y5).getD false=cd (fB p y5) k:=LU p k (by omega) y5
  have aar:(b8 p y5==(k:Int))= !(aT aL (lE p k) y5).getD false:=by rw[mU,e5];exact J5 p k hk
  have hs:y9.isSome=(bu p y5).2:=by rw[e9];cases (bu p y5).2<;>rfl
  have hK:dx p y5=true→aQ y5.1 p.1.length∧aI p y5.1=y7:=fun hh=>by
   have hf:=lT hh
   exact⟨⟨hf.1,hf.2.1⟩,by rw[hf.2.2.2.2,e7];rfl⟩
  have hK2:y9.isSome=true→aQ bp p.1.length∧aI p (bu p y5).1.1=(p.1.getD bp.toNat zE).2.1:=fun h9=>by
   rw[hs] at h9
   rw[h9] at e9
   have du:bp=(bu p y5).1.1:=by rw[du,e9];rfl
   have hh:=xo hj (by rw[mP,h9];rfl:aT aL (dS p) y5=some (bu p y5).1)
   have hf:=lT hh
   rw[du]
   exact⟨⟨hf.1,hf.2.1⟩,hf.2.2.2.2⟩
  have mT:kX p k=(!y6&&(!y8&& !bI)):=by
   unfold kX Cj
   rw[←e5,aar,e6,e8,eH,iH,iH]
   cases hh:dx p y5 with
   |false=>rfl
   |true=>
    rw[(hK hh).2,hs]
    cases hn:(bu p y5).2 with
    |false=>
     generalize (aT aL (lE p k) y5).getD false=a;generalize (y7==1)=b;generalize (y7==4)=c
     cases a<;>cases b<;>cases c<;>rfl
    |true=>
     rw[(hK2 (by rw[hs,hn])).2]
     have e:((p.1.getD bp.toNat ([],(0:Int),(0:Int))).2.1==4)=((p.1.getD bp.toNat zE).2.1==4):=rfl
     rw[e]
     generalize (aT aL (lE p k) y5).getD false=a;generalize (y7==1)=b;generalize (y7==4)=c;generalize ((p.1.getD bp.toNat zE).2.1==4)=d
     cases a<;>cases b<;>cases c<;>cases d<;>rfl
  have no:kX p k=false→false=(db (kX p) p.2.2.1.length&&db (jT p) p.1.length):=fun hf=>by rw[fT hk hf];rfl
  refine⟨⟨by omega,by omega⟩,fun h6=>no (by rw[mT,h6];rfl),fun h6=>⟨?_,fun h8=>no (by rw[mT,h8,h6];rfl),fun h8=>⟨fun h9=>(hK2 (by simpa using h9)).1,fun mC=>no (by rw[mT,mC,h8,h6];rfl),fun mC=>⟨dr hk hw.2.2.1,k+1,⟨by omega,fc g2 (by rw[mT,h6,h8,mC];rfl)⟩,by omega,by omega,?_⟩⟩⟩⟩
  ·refine(hK ?_).1
   rw[e6] at h6
   cases hh:dx p y5 with
   |true=>rfl
   |false=>rw[hh] at h6;cases h6
  ·rw[e5]
   refine(YK p k hk ?_).symm
   rw[e6] at h6
   rw[←e5]
   cases hh:dx p y5 with
   |true=>rw[hh] at h6;exact h6
   |false=>rw[hh] at h6;cases h6
 ·have hk:=br e4 h
  have AD:k=p.2.2.1.length:=by omega
  have wJ:db (kX p) p.2.2.1.length=true:=by rw[←AD];exact g2
  rw[wJ,Bool.true_and]
  refine⟨⟨0,⟨by omega,rfl⟩,rfl⟩,fun s=>U.mk fun cb hX=>U.mk fun cW jG=> ?_⟩
  rintro⟨s1,s2⟩
  have hg:jT p s= !cW:=by
   unfold jT
   rw[jG,LU p k (by omega),AD,←QR]
   have e:((p.1.getD s ([],(0:Int),(0:Int))).2.1==4)=((p.1.getD s zE).2.1==4):=rfl
   rw[e]
   generalize ((p.1.getD s zE).2.1==4)=a;generalize decide (0≤b8 p ((s:Int),0))=b
   cases a<;>cases b<;>rfl
  refine⟨fun h=> ?_,fun h=> ?_⟩
  ·have hs:=ba hX h
   exact⟨⟨by omega,by omega⟩,fun qU=>by rw[fT hs (by rw[hg,qU];rfl)],fun qU=>⟨dr hs hw.1,s+1,⟨by omega,fc s2 (by rw[hg,qU];rfl)⟩,by omega,by omega⟩⟩
  ·have hs:=br hX h
   have:s=p.1.length:=by omega
   rw[←this]
   exact Eq.symm s2
theorem acO:aM Tryz.prog 176 Lk:=
 aM.bZ (l:=[(236,Dr)]) (A:=Y2) aH ⟨WX,trivial⟩ Tryz.func176 (by kernel_rfl) (by kernel_rfl) fun x hw hp=>ajM x.1 x.2.1 hp.1 hp.2 (k7 hw.1)
theorem afX (l:List Int) (m:List ((Int×Int)×Int×Int)):ai (ah ay []) Tryz.f237 KU (YV (l,m,())) (l,m,())=(
U (decide ((↑l.length:Int)<(2:Int))) fun(y2:Bool)=>
(y2=true→true=zk m l∧True)∧
(y2=false→
(∃(fD:Nat),fD≤(2:Nat)∧(1:Int) - (↑fD:Int)=(1:Int)∧Bm m l fD=(-1:Int)∧l=l∧m=m∧True)∧
∀(s3:Nat),
U (decide ((1:Int) - (↑s3:Int)≥(0:Int))) fun(y4:Bool)=>
U (aT aL m (l.getD (Int.toNat (0:Int)) (0:Int),(1:Int) - (↑s3:Int))) fun(y5:Option (Int×Int))=>
U ((1:Int) - (↑s3:Int) - (1:Int)) fun(y6:Int)=>
U (decide (Bm m l s3<(0:Int))) fun(y7:Bool)=>
s3≤(2:Nat)→
(y4=true→
aQ (0:Int) l.length∧
(y5.isSome=true→aQ (1:Int) l.length)∧
bq IntKind.i64 y6∧
∃(kf:Nat),
kf≤(2:Nat)∧
(2:Nat) - kf<(2:Nat) - s3∧
(1:Int) - (↑kf:Int)=y6∧
(Bm m l kf=
bif bif y5.isSome then(y5.getD ((0:Int),(0:Int))).1==l.getD (Int.toNat (1:Int)) (0:Int) else false then(1:Int) - (↑s3:Int)
else Bm m l s3)∧
l=l∧m=m∧True)∧
(y4=false→
(y7=true→false=zk m l∧True)∧
(y7=false→
(∃(mL:Nat×Int),
(mL.1<l.length∧mV m l (jl m l) mL.1=some mL.2)∧(↑mL.1:Int)+(1:Int)=(1:Int)∧mL.2=Bm m l s3∧l=l∧m=m∧True)∧
∀(s8:Nat×Int),
U (decide ((↑s8.1:Int)+(1:Int)<(↑l.length:Int))) fun(y9:Bool)=>
U ((↑s8.1:Int)+(1:Int) - (1:Int)) fun(bp:Int)=>
U (aT aL m (l.getD bp.toNat (0:Int),s8.2)) fun(bI:Option (Int×Int))=>
U (bif !bI.isSome then true else(bI.getD ((0:Int),(0:Int))).1 !=l.getD ((↑s8.1:Int)+(1:Int)).toNat (0:Int)) fun(aw:Bool)=>
U ((1:Int) - (bI.getD ((0:Int),(0:Int))).2) fun(cb:Int)=>
U ((↑s8.1:Int)+(1:Int)+(1:Int)) fun(cW:Int)=>
s8.1<l.length∧mV m l (jl m l) s8.1=some s8.2→
(y9=true→
bq IntKind.i64 bp∧
aQ bp l.length∧
((!bI.isSome)=false→aQ ((↑s8.1:Int)+(1:Int)) l.length)∧
(aw=true→false=zk m l∧True)∧
(aw=false→
bq IntKind.i64 cb∧
bq IntKind.i64 cW∧
∃(k6:Nat×Int),
(k6.1<l.length∧mV m l (jl m l) k6.1=some k6.2)∧
l.length - k6.1<l.length - s8.1∧(↑k6.1:Int)+(1:Int)=cW∧k6.2=cb∧l=l∧m=m∧True))∧
(y9=false→true=zk m l∧True))))):=by kernel_rfl
theorem PF {m:List (ak×ak)} {l:List Int} {out:Int} {n:Nat}:∀{k:Nat},k≤n→(mV m l out n).isSome=true→(mV m l out k).isSome=true:=by
 induction n with
 |zero=>intro k hk h;have:k=0:=(by omega);subst this;exact h
 |succ n ih=>
  intro k hk h
  by_cases e:k=n+1
  ·rw[e];exact h
  ·refine ih (by omega) ?_
   unfold mV at h
   cases hg:mV m l out n with
   |none=>rw[hg] at h;cases h
   |some o=>rfl
def GC:Option ak→Int→Option Int
 |none,_=>none
 |some q,y=>bif q.1==y then some (1 - q.2) else none
theorem PE {m:List (ak×ak)} {l:List Int} {out o:Int} {k:Nat} (h:mV m l out k=some o):mV m l out (k+1)=GC (aT aL m (l.getD k 0,o)) (l.getD (k+1) 0):=by
 unfold mV
 rw[h]
 simp only
 cases aT aL m (l.getD k 0,o)<;>rfl
theorem ajp (l:List Int) (m:List (ak×ak)) (hm:xe m) (hw:l.length≤aK):ai (ah ay []) Tryz.f237 KU (YV (l,m,())) (l,m,()):=by
 rw[afX]
 simp only[true_and,and_true,eq_self,Int.toNat_natCast]
 have hR:zk m l=bif decide (l.length<2) then true else bif decide (jl m l<0) then false else(mV m l (jl m l) (l.length - 1)).isSome:=by unfold zk;rfl
 refine U.mk fun y2 e2=>⟨fun h=> ?_,fun h=> ?_⟩
 ·rw[h] at e2
  have:=of_decide_eq_true e2.symm
  rw[hR,decide_eq_true (by omega)];rfl
 have hl:2≤l.length:=by
  rw[h] at e2
  have:=of_decide_eq_false e2.symm
  omega
 rw[decide_eq_false (by omega)] at hR
 simp only[cond_false] at hR
 refine⟨⟨0,by omega,by simp,rfl⟩,fun k=>U.mk fun y4 e4=>U.mk fun y5 e5=>U.mk fun y6 e6=>U.mk fun y7 e7=> ?_⟩
 intro hk
 refine⟨fun h4=> ?_,fun h4=> ?_⟩
 ·rw[h4] at e4
  have h4:=of_decide_eq_true e4.symm
  have AD:k=0∨k=1:=by omega
  refine⟨⟨by omega,by omega⟩,fun _=>⟨by omega,by omega⟩,bg (by omega) (by omega),k+1,by omega,by omega,by omega,?_⟩
  have hr:(bif y5.isSome then(y5.getD ((0:Int),(0:Int))).1==l.getD (Int.toNat (1:Int)) (0:Int) else false)=oW m l (1 - (k:Int)):=by
   rw[e5]
   unfold oW
   show(bif(aT aL m (l.getD 0 0,1 - (k:Int))).isSome then((aT aL m (l.getD 0 0,1 - (k:Int))).getD (0,0)).1==l.getD 1 0 else false)=_
   cases aT aL m (l.getD 0 0,1 - (k:Int))<;>rfl
  rw[hr]
  rcases AD with rfl|rfl
  ·rfl
  ·show jl m l=bif oW m l 0 then 0 else bif oW m l 1 then 1 else -1
   rfl
 have RS:k=2:=by
  rw[h4] at e4
  have:=of_decide_eq_false e4.symm
  omega
 subst RS
 have vv:Bm m l 2=jl m l:=rfl
 rw[vv] at e7
 rw[←e7] at hR
 refine⟨fun h7=>by rw[hR,h7];rfl,fun h7=> ?_⟩
 rw[h7] at hR
 simp only[cond_false] at hR
 refine⟨⟨(0,jl m l),⟨by show 0<l.length;omega,rfl⟩,rfl,vv.symm⟩,fun s=>U.mk fun y9 e9=>U.mk fun bp du=>U.mk fun bI eH=>U.mk fun aw dM=>U.mk fun cb hX=>U.mk fun cW jG=> ?_⟩
 rintro⟨g1,g2⟩
 have du:bp=(s.1:Int):=by omega
 have t10:bp.toNat=s.1:=by omega
 have t11:((s.1:Int)+1).toNat=s.1+1:=by omega
 rw[t10] at eH
 rw[t11] at dM
 have HT:mV m l (jl m l) (s.1+1)=GC bI (l.getD (s.1+1) 0):=by rw[eH];exact PE g2
 refine⟨fun h9=> ?_,fun h9=> ?_⟩
 ·rw[h9] at e9
  have h9:=of_decide_eq_true e9.symm
  have hb:bI.isSome=true→0≤(bI.getD ((0:Int),(0:Int))).2∧(bI.getD ((0:Int),(0:Int))).2≤3:=fun hs=>by
   obtain⟨q,hq⟩:=Option.isSome_iff_exists.1 hs
   rw[hq] at eH ⊢
   exact hm _ (fI pB eH.symm)
  refine⟨Ab (by have:aK=9223372036854775807:=rfl;omega) (by have:aK=9223372036854775807:=rfl;omega),⟨by omega,by omega⟩,fun _=>⟨by omega,by omega⟩,fun mB=> ?_,fun mB=> ?_⟩
  ·have nD:(mV m l (jl m l) (s.1+1)).isSome=false:=by
    rw[HT]
    rw[mB,iH] at dM
    cases hy:bI with
    |none=>rfl
    |some q=>
     rw[hy] at dM
     simp only[Option.isSome_some,Bool.not_true,cond_false,Option.getD_some] at dM
     have:(q.1==l.getD (s.1+1) 0)=false:=by simpa using dM.symm
     simp only[GC,this,cond_false]
     rfl
   rw[hR]
   symm
   cases hc:(mV m l (jl m l) (l.length - 1)).isSome with
   |false=>rfl
   |true=>rw[PF (k:=s.1+1) (by omega) hc] at nD;cases nD
  ·rw[mB,iH] at dM
   cases hy:bI with
   |none=>rw[hy] at dM;cases dM
   |some q=>
    rw[hy] at dM hX hb HT
    have hq:=hb rfl
    simp only[Option.isSome_some,Bool.not_true,cond_false,Option.getD_some] at dM hX hq
    have hq1:(q.1==l.getD (s.1+1) 0)=true:=by simpa using dM.symm
    have Pn:mV m l (jl m l) (s.1+1)=some (1 - q.2):=by rw[HT];simp only[GC,hq1,cond_true]
    have dK:s.1+1<l.length:=by omega
    refine⟨bg (by omega) (by omega),Ab (by have:aK=9223372036854775807:=rfl;omega) (by have:aK=9223372036854775807:=rfl;omega),(s.1+1,1 - q.2),⟨dK,Pn⟩,?_,?_,hX.symm⟩
    ·show l.length - (s.1+1)<l.length - s.1;omega
    ·show((s.1+1:Nat):Int)+1=cW;omega
 ·rw[h9] at e9
  have h9:=of_decide_eq_false e9.symm
  have:s.1=l.length - 1:=by omega
  rw[hR,←this,g2]
  rfl
theorem acj:aM Tryz.prog 237 KU:=
 aM.bZ (l:=[]) (A:=YV) aH trivial Tryz.func237 (by kernel_rfl) (by kernel_rfl) fun x hw hp=>ajp x.1 x.2.1 hp hw.1.1
theorem UP (l:List Int) (y:Int):(aT I (l.map fun e=>(e,true)) y).getD false=bG l y:=by
 rw[pY I (fun e:Int=>e)]
 unfold bG
 congr 1
 funext e
 exact fF y e
theorem Xe (l:List Int) (y:Int) (h:bG l y=false):dc I (l.map fun e=>(e,true)) y true=(l++[y]).map fun e=>(e,true):=by
 have h1:(aT I (l.map fun e=>(e,true)) y).isSome=false:=by
  rw[gU,List.any_map]
  unfold bG at h
  rw[←h]
  congr 1
  funext e
  exact fF y e
 rw[nV td h1,List.map_append]
 rfl
theorem yM (p:ab) (i:Nat) (hi:i<p.2.2.2.1.length):kJ p (i+1)=kJ p i++(p.2.2.2.1.getD i zL).2:=by
 unfold kJ
 rw[pZ _ zL hi]
theorem agm (p:ab) (m:List ((Int×Int)×Int×Int)):ai (ah ay [(237,KU)]) Tryz.f177 Lj (Y1 (p,m,())) (p,m,())=(
(∃(dp:Nat),
(dp≤p.2.2.2.1.length∧dV (jd p) dp)∧
(↑dp:Int)=(0:Int)∧
m=m∧
p.2.2.2.1=p.2.2.2.1∧
(↑p.2.2.2.1.length:Int)=(↑p.2.2.2.1.length:Int)∧
uy p dp (0:Nat)=[]∧
aE p (True))∧
∀(s2:Nat),
U (decide ((↑s2:Int)<(↑p.2.2.2.1.length:Int))) fun(y3:Bool)=>
U (p.2.2.2.1.getD (↑s2:Int).toNat ([],[])) fun(y4:List UInt8×List Int)=>
U ((↑y4.2.length:Int)==(0:Int)) fun(y5:Bool)=>
U (p.2.2.2.1.getD (↑s2:Int).toNat zL).2.length fun(y6:Nat)=>
s2≤p.2.2.2.1.length∧dV (jd p) s2→
(y3=true→
aQ (↑s2:Int) p.2.2.2.1.length∧
(y5=true→false=fK p∧True)∧
(y5=false→
(∃(kZ:Nat),
(kZ≤y6∧Gw p (↑s2:Int).toNat kZ)∧
(↑kZ:Int)=(0:Int)∧
m=m∧
p.2.2.2.1=p.2.2.2.1∧
(↑p.2.2.2.1.length:Int)=(↑p.2.2.2.1.length:Int)∧
(↑s2:Int)=(↑s2:Int)∧
y4.2=y4.2∧
(↑y4.2.length:Int)=(↑y4.2.length:Int)∧
uy p (↑s2:Int).toNat kZ=uy p s2 (0:Nat)∧
aE p (y4.1=y4.1∧y4.2=y4.2∧True))∧
∀(s7:Nat),
U (decide ((↑s7:Int)<(↑y4.2.length:Int))) fun(y8:Bool)=>
U (y4.2.getD (↑s7:Int).toNat (0:Int)) fun(y9:Int)=>
U (bif decide (y9<(0:Int)) then true else decide (y9≥(↑p.1.length:Int))) fun(bp:Bool)=>
U (uy p (↑s2:Int).toNat s7) fun(bI:List (Int×Bool))=>
U (bif bif bp then true else(p.1.getD y9.toNat ([],(0:Int),(0:Int))).2.1 !=(1:Int) then true else(aT I bI y9).getD false)
fun(aw:Bool)=>
s7≤y6∧Gw p (↑s2:Int).toNat s7→
(y8=true→
aQ (↑s7:Int) y4.2.length∧
(bp=false→aQ y9 p.1.length)∧
(aw=true→false=fK p∧True)∧
(aw=false→
bq IntKind.i64 ((↑s7:Int)+(1:Int))∧
∃(fN:Nat),
(fN≤y6∧Gw p (↑s2:Int).toNat fN)∧
y6 - fN<y6 - s7∧
(↑fN:Int)=(↑s7:Int)+(1:Int)∧
m=m∧
p.2.2.2.1=p.2.2.2.1∧
(↑p.2.2.2.1.length:Int)=(↑p.2.2.2.1.length:Int)∧
(↑s2:Int)=(↑s2:Int)∧
y4.2=y4.2∧
(↑y4.2.length:Int)=(↑y4.2.length:Int)∧
uy p (↑s2:Int).toNat fN=dc I bI y9 true∧
aE p (y4.1=y4.1∧y4.2=y4.2∧True)))∧
(y8=false→
xe m∧
((!zk m y4.2)=true→false=fK p∧True)∧
((!zk m y4.2)=false→
bq IntKind.i64 ((↑s2:Int)+(1:Int))∧
∃(fN:Nat),
(fN≤p.2.2.2.1.length∧dV (jd p) fN)∧
p.2.2.2.1.length - fN<p.2.2.2.1.length - s2∧
(↑fN:Int)=(↑s2:Int)+(1:Int)∧
m=m∧
p.2.2.2.1=p.2.2.2.1∧
(↑p.2.2.2.1.length:Int)=(↑p.2.2.2.1.length:Int)∧
uy p fN (0:Nat)=bI∧
aE p (True)))))∧
(y3=false→true=fK p∧True)):=by kernel_rfl
theorem ajL (p:ab) (m:List (ak×ak)) (hj:bR p=true) (hm:m=dS p) (hw:PlanT.wf p):ai (ah ay [(237,KU)]) Tryz.f177 Lj (Y1 (p,m,())) (p,m,()):=by
 subst hm
 have Xz:=k7 hw
 have hL:fK p=db (jd p) p.2.2.2.1.length:=by unfold fK;rfl
 rw[agm,hL]
 simp only[dz,true_and,and_true,eq_self,Int.toNat_natCast]
 refine⟨⟨0,⟨by omega,rfl⟩,rfl,rfl⟩,fun i=>U.mk fun y3 e3=>U.mk fun y4 e4=>U.mk fun y5 e5=>U.mk fun y6 e6=> ?_⟩
 rintro⟨g1,g2⟩
 refine⟨fun h=> ?_,fun h=> ?_⟩
 ·have hi:=ba e3 h
  have e4:y4=p.2.2.2.1.getD i zL:=e4
  have e6:y6=y4.2.length:=by rw[e6,e4]
  have mT:jd p i=(db (lR p i) y4.2.length&&(eB p y4.2).2):=by rw[e4];rfl
  have no:jd p i=false→false=db (jd p) p.2.2.2.1.length:=fun hf=>by rw[fT hi hf]
  have hlen:y4.2.length≤aK:=by
   rw[e4]
   exact(hw.2.2.2.1.2 _ (fw zL hi)).2.1
  have noE:(eB p y4.2).2=false→false=db (jd p) p.2.2.2.1.length:=fun hf=>no (by rw[mT,hf,Bool.and_false])
  have Yj:y4.2.length=0→(eB p y4.2).2=false:=fun h0=>by unfold eB;rw[decide_eq_true h0];rfl
  have Yi:y4.2.all (fun e=>aI p e==1)=false→(eB p y4.2).2=false:=fun h0=>by unfold eB;rw[h0];simp
  refine⟨⟨by omega,by omega⟩,fun h5=>noE (Yj ?_),fun h5=> ?_⟩
  ·rw[h5,FM _ 0 0 rfl] at e5
   exact of_decide_eq_true e5.symm
  have h0:y4.2.length≠0:=by
   rw[h5,FM _ 0 0 rfl] at e5
   exact of_decide_eq_false e5.symm
  refine⟨⟨0,⟨by omega,rfl,rfl⟩,rfl,?_⟩,fun k=>U.mk fun y8 e8=>U.mk fun y9 e9=>U.mk fun bp du=>U.mk fun bI eH=>U.mk fun aw dM=> ?_⟩
  ·unfold uy;simp
  rintro⟨s1,s2,s3⟩
  have s3:(y4.2.take k).all (mS p)=true:=by rw[e4];exact s3
  have CU:bI=(kJ p i++y4.2.take k).map fun e=>(e,true):=by rw[eH,e4];rfl
  refine⟨fun h8=> ?_,fun h8=> ?_⟩
  ·have hk:=ba e8 h8
   have wH:(aT I bI y9).getD false=bG (kJ p i++y4.2.take k) y9:=by rw[CU];exact UP _ _
   have ql:lR p i k= !(aT I bI y9).getD false:=by
    rw[wH,e9,e4];rfl
   have BA:(mS p y9)= !(bif bp then true else(p.1.getD y9.toNat ([],(0:Int),(0:Int))).2.1 !=1):=by
    unfold mS aI
    rw[du,xC,iH]
    cases decide (y9<0) with
    |true=>rfl
    |false=>
     cases decide ((p.1.length:Int)≤y9) with
     |true=>rfl
     |false=>
      simp only[cond_false,Bool.or_self,Bool.not_not]
      rfl
   refine⟨⟨by omega,by omega⟩,fun jF=> ?_,fun mB=> ?_,fun mB=> ?_⟩
   ·rw[jF] at du
    cases h1:decide (y9<0) with
    |true=>rw[h1] at du;cases du
    |false=>
     rw[h1] at du
     have h1:=of_decide_eq_false h1
     have h2:=of_decide_eq_false du.symm
     exact⟨by omega,by omega⟩
   ·rw[dM] at mB
    cases ht:mS p y9 with
    |false=>
     refine noE (Yi ?_)
     exact mG (p:=mS p) 0 hk (by rw[←e9,ht])
    |true=>
     rw[BA,Bool.not_eq_true'] at ht
     rw[ht] at mB
     have mB:(aT I bI y9).getD false=true:=mB
     refine no ?_
     rw[mT,fT hk (by rw[ql,mB];rfl)]
     rfl
   ·rw[dM] at mB
    have ht:(bif bp then true else(p.1.getD y9.toNat ([],(0:Int),(0:Int))).2.1 !=1)=false:=by
     cases hb:(bif bp then true else(p.1.getD y9.toNat ([],(0:Int),(0:Int))).2.1 !=1) with
     |false=>rfl
     |true=>rw[hb] at mB;cases mB
    rw[ht] at mB
    have mB:(aT I bI y9).getD false=false:=mB
    refine⟨dr hk hlen,k+1,⟨by omega,fc s2 (by rw[ql,mB];rfl),?_⟩,by omega,by omega,?_⟩
    ·have:=all_succ 0 hk s3 (by rw[←e9,BA,ht];rfl)
     rw[e4] at this
     exact this
    ·rw[wH] at mB
     rw[CU,Xe _ _ mB]
     unfold uy
     rw[←e4,eM 0 hk,←e9,List.append_assoc]
  ·have hk:=br e8 h8
   have AD:k=y4.2.length:=by omega
   have hT:y4.2.all (fun e=>aI p e==1)=true:=by
    rw[List.take_of_length_le (by omega)] at s3
    exact s3
   have hN:db (lR p i) y4.2.length=true:=by rw[←AD];exact s2
   have CW:=Ox p y4.2 h0 hT
   refine⟨Cz hj,fun hf=>noE ?_,fun hf=>⟨dr hi Xz.2.2.2,i+1,⟨by omega,fc g2 ?_⟩,by omega,by omega,?_⟩⟩
   ·rw[←CW];simpa using hf
   ·rw[mT,hN,←CW];simpa using hf
   ·rw[CU,List.take_of_length_le (by omega)]
    unfold uy
    rw[yM p i hi,←e4]
    simp
 ·have hi:=br e3 h
  have:i=p.2.2.2.1.length:=by omega
  rw[←this]
  exact Eq.symm g2
theorem acN:aM Tryz.prog 177 Lj:=
 aM.bZ (l:=[(237,KU)]) (A:=Y1) aH ⟨acj,trivial⟩ Tryz.func177 (by kernel_rfl) (by kernel_rfl) fun x hw hp=>ajL x.1 x.2.1 hp.1 hp.2 hw.1
theorem agl (p:ab):ai (ah ay [(238,KT)]) Tryz.f178 Li (Y0 (p,())) (p,())=(
U (p.2.2.2.2.1+mY p.2.2.2.2.1 p.2.2.2.2.2.1) fun(y1:Int)=>
U (decide (p.2.2.2.2.2.2.1<y1)) fun(y2:Bool)=>
True∧
bq IntKind.i64 y1∧
(y2=true→false=lh p∧True)∧
(y2=false→
(∃(fD:Nat),
(fD≤p.2.2.1.length∧fe (jM p) p.2.2.1 fD)∧
(↑fD:Int)=(0:Int)∧
p.2.2.1=p.2.2.1∧
(↑p.2.2.1.length:Int)=(↑p.2.2.1.length:Int)∧
aE p (True))∧
∀(s3:Nat),
U (decide ((↑s3:Int)<(↑p.2.2.1.length:Int))) fun(y4:Bool)=>
U (p.2.2.1.getD (↑s3:Int).toNat ([],((0:Int),(0:Int)),false)).2.1.1 fun(y5:Int)=>
U (p.1.getD y5.toNat ([],(0:Int),(0:Int))).2 fun(y6:Int×Int)=>
U (bif y6.1==(1:Int) then decide (y6.2<p.2.2.2.2.2.2.1) else false) fun(y7:Bool)=>
s3≤p.2.2.1.length∧fe (jM p) p.2.2.1 s3→
(y4=true→
aQ (↑s3:Int) p.2.2.1.length∧
aQ y5 p.1.length∧
(y7=true→false=lh p∧True)∧
(y7=false→
bq IntKind.i64 ((↑s3:Int)+(1:Int))∧
∃(kf:Nat),
(kf≤p.2.2.1.length∧fe (jM p) p.2.2.1 kf)∧
p.2.2.1.length - kf<p.2.2.1.length - s3∧
(↑kf:Int)=(↑s3:Int)+(1:Int)∧
p.2.2.1=p.2.2.1∧
(↑p.2.2.1.length:Int)=(↑p.2.2.1.length:Int)∧
aE p (True)))∧
(y4=false→
(∃(mL:Nat),
(mL≤p.1.length∧fe (ij p) p.1 mL)∧
(↑mL:Int)=(0:Int)∧
p.1=p.1∧
(↑p.1.length:Int)=(↑p.1.length:Int)∧
aE p (True))∧
∀(s8:Nat),
U (decide ((↑s8:Int)<(↑p.1.length:Int))) fun(y9:Bool)=>
U (p.1.getD (↑s8:Int).toNat ([],(0:Int),(0:Int))).2 fun(bp:Int×Int)=>
U (bif bp.1 !=(4:Int) then decide (bp.2<p.2.2.2.2.1) else false) fun(bI:Bool)=>
s8≤p.1.length∧fe (ij p) p.1 s8→
(y9=true→
aQ (↑s8:Int) p.1.length∧
(bI=true→false=lh p∧True)∧
(bI=false→
bq IntKind.i64 ((↑s8:Int)+(1:Int))∧
∃(nn:Nat),
(nn≤p.1.length∧fe (ij p) p.1 nn)∧
p.1.length - nn<p.1.length - s8∧
(↑nn:Int)=(↑s8:Int)+(1:Int)∧
p.1=p.1∧
(↑p.1.length:Int)=(↑p.1.length:Int)∧
aE p (True)))∧
(y9=false→true=lh p∧True)))):=by kernel_rfl
theorem ajK (p:ab) (hn:oH p=true) (hg:dm p=true) (hw:pO p):ai (ah ay [(238,KT)]) Tryz.f178 Li (Y0 (p,())) (p,()):=by
 have hL:lh p=(!decide (p.2.2.2.2.2.2.1<p.2.2.2.2.1+mY p.2.2.2.2.1 p.2.2.2.2.2.1)&&(p.2.2.1.all (jM p)&&p.1.all (ij p))):=by unfold lh;rfl
 obtain⟨n1,n2,n3⟩:=Fl hn
 have ju:=C8 p.2.2.2.2.1 p.2.2.2.2.2.1
 rw[agl,hL]
 refine U.mk fun y1 e1=>U.mk fun y2 e2=> ?_
 rw[←e1,←e2]
 simp only[dz,true_and,and_true,eq_self,Int.toNat_natCast]
 refine⟨bg (by omega) (by omega),fun h=>by rw[h];rfl,fun h=> ?_⟩
 rw[h,Bool.not_false,Bool.true_and]
 have FG:∀s,s<p.2.2.1.length→dx p (p.2.2.1.getD s zS).2.1=true:=fun s hs=>by
  unfold dm at hg
  rw[Bool.and_eq_true] at hg
  have:=gv.1 hg.1 s hs
  unfold kX Cj at this
  rw[Bool.and_eq_true] at this
  exact this.1
 refine⟨⟨0,⟨by omega,rfl⟩,rfl⟩,fun s=>U.mk fun y4 e4=>U.mk fun y5 e5=>U.mk fun y6 e6=>U.mk fun y7 e7=> ?_⟩
 rintro⟨h1,h2⟩
 have h2:(p.2.2.1.take s).all (jM p)=true:=h2
 have e5:y5=(p.2.2.1.getD s zS).2.1.1:=e5
 refine⟨fun h=> ?_,fun h=> ?_⟩
 ·have h:=ba e4 h
  have hf:=lT (FG s h)
  rw[←e5] at hf
  have hlen:qY p y5=y6.2:=by
   rw[e6]
   unfold qY
   rw[decide_eq_false (by omega),decide_eq_false (by omega)]
   rfl
  have hS:jM p (p.2.2.1.getD s zS)= !y7:=by
   rw[e7]
   unfold jM
   rw[←e5,hf.2.2.2.2,hlen,e6]
   show(!((p.1.getD y5.toNat zE).2.1==1&&_))= !(bif(p.1.getD y5.toNat zE).2.1==1 then _ else false)
   cases (p.1.getD y5.toNat zE).2.1==1<;>rfl
  refine⟨⟨by omega,by omega⟩,⟨by omega,by omega⟩,fun h6=> ?_,fun h6=>⟨dr h hw.2.2.1,s+1,⟨by omega,?_⟩,by omega,by omega⟩⟩
  ·rw[mG zS h (by rw[hS,h6];rfl)]
   rfl
  ·exact all_succ zS h h2 (by rw[hS,h6];rfl)
 rw[jx (br e4 h) h2,Bool.true_and]
 refine⟨⟨0,⟨by omega,rfl⟩,rfl⟩,fun u=>U.mk fun y9 e9=>U.mk fun bp du=>U.mk fun bI eH=> ?_⟩
 rintro⟨g1,g2⟩
 have g2:(p.1.take u).all (ij p)=true:=g2
 have hS:ij p (p.1.getD u zE)= !bI:=by
  have du:bp=(p.1.getD u zE).2:=du
  rw[eH,iH]
  unfold ij
  rw[←du]
  have key:∀a b:Bool,(!(!a&&b))= !(bif !a then b else false):=by decide
  exact key _ _
 refine⟨fun h=> ?_,fun h=> ?_⟩
 ·have h:=ba e9 h
  refine⟨⟨by omega,by omega⟩,fun h6=> ?_,fun h6=>⟨dr h hw.1,u+1,⟨by omega,?_⟩,by omega,by omega⟩⟩
  ·rw[mG zE h (by rw[hS,h6];rfl)]
  ·exact all_succ zE h g2 (by rw[hS,h6];rfl)
 rw[jx (br e9 h) g2]
theorem acM:aM Tryz.prog 178 Li:=
 aM.bZ (l:=[(238,KT)]) (A:=Y0) aH ⟨aci,trivial⟩ Tryz.func178 (by kernel_rfl) (by kernel_rfl) fun x hw hp=>ajK x.1 hp.1 hp.2 (k7 hw.1)
def wO (p:ab):Bool:=dR (fz p)||(dR (eY p)||dR (eJ p))
theorem Ez (p:ab):bV p=bif !lq p then 3 else bif !fArgs p then 1 else bif wO p then 4 else
 bif !bR p then 6 else bif !dm p then 7 else bif !fK p then 8 else bif !lh p then 9 else 0:=by unfold bV;rfl
theorem Qg {p:ab} (h:fArgs p=true):oH p=true:=by
 unfold fArgs at h
 rw[Bool.and_eq_true] at h
 exact h.1
theorem PZ (p:ab) (hS:lq p=true) (hA:fArgs p=true) (hT:wO p=false):
  ((!bR p)=true→(6:Int)=bV p)∧((!bR p)=false→(bR p=true∧m6 p=dS p)∧
   ((!dm p)=true→(7:Int)=bV p)∧((!dm p)=false→(bR p=true∧m6 p=dS p)∧
    ((!fK p)=true→(8:Int)=bV p)∧((!fK p)=false→(oH p=true∧dm p=true)∧
     ((!lh p)=true→(9:Int)=bV p)∧((!lh p)=false→(0:Int)=bV p)))):=by
 have hC:=Ez p
 rw[hS,hA,hT] at hC
 simp only[Bool.not_true,cond_false] at hC
 refine⟨fun h=>by rw[hC,h];rfl,fun h=> ?_⟩
 have hJ:bR p=true∧m6 p=dS p:=by
  have:bR p=true:=by simpa using h
  refine⟨this,?_⟩
  unfold m6
  rw[this];rfl
 rw[h] at hC
 simp only[cond_false] at hC
 refine⟨hJ,fun h=>by rw[hC,h];rfl,fun h=> ?_⟩
 have hG:dm p=true:=by simpa using h
 rw[h] at hC
 simp only[cond_false] at hC
 refine⟨hJ,fun h=>by rw[hC,h];rfl,fun h=>⟨⟨(Qg hA),hG⟩,fun h'=> ?_,fun h'=> ?_⟩⟩
 ·rw[hC,h,h'];rfl
 ·rw[hC,h,h'];rfl
theorem agP (p:ab):ai (ah ay [(170,Lp),(1730171,tR),(1740171,tQ),(1750171,tP),(175,Ll),(176,Lk),(177,Lj),(178,Li)] [] [(172,.pair (.ref PlanT) .unit),(173,.pair (.ref PlanT) .unit),(174,.pair (.ref PlanT) .unit)]) Tryz.f108 LM aq (p,())=(
U
(bif bif bif decide ((↑p.1.length:Int)>(40:Int)) then true else decide ((↑p.2.2.1.length:Int)>(24:Int)) then true else decide ((↑p.2.2.2.1.length:Int)>(4:Int)) then
true
else decide ((↑p.2.1.length:Int)>(80:Int)))
fun(y1:Bool)=>
U (p.2.2.2.2.2.1,p.2.2.2.2.2.2.1,p.2.2.2.2.2.2.2.1,p.2.2.2.2.2.2.2.2) fun(y2:Int×Int×Int×Bool)=>
U (p.2.2.1,p.2.2.2.1,p.2.2.2.2.1,y2) fun(y3:List (List UInt8×(Int×Int)×Bool)×List (List UInt8×List Int)×Int×Int×Int×Int×Bool)=>
U (bif dR (fz p) then true else dR (eY (p.1,p.2.1,y3))) fun(y4:Bool)=>
U (p.2.2.2.1,p.2.2.2.2.1,y2).1 fun(y5:List (List UInt8×List Int))=>
U (bif y4 then true else dR (eJ (p.1,p.2.1,y3))) fun(y6:Bool)=>
U
((p.1,p.2.1,y3).1,(p.2.1,y3).1,y3.1,y5,(p.2.2.2.2.1,y2).1,y2.1,
(p.2.2.2.2.2.2.1,p.2.2.2.2.2.2.2.1,p.2.2.2.2.2.2.2.2).1,p.2.2.2.2.2.2.2.1,p.2.2.2.2.2.2.2.2)
fun(y7:ab)=>
(y1=true→(3:Int)=bV p∧True)∧
(y1=false→
True∧
((!fArgs p)=true→(1:Int)=bV p∧True)∧
((!fArgs p)=false→
(↑p.1.length:Int)=(↑p.1.length:Int)∧
(dR (fz p)=false→(↑y3.1.length:Int)=(↑y3.1.length:Int))∧
(y4=false→(↑y5.length:Int)=(↑(p.2.2.2.1,p.2.2.2.2.1,y2).1.length:Int))∧
(y6=true→(4:Int)=bV p∧True)∧
(y6=false→
True∧
((!bR y7)=true→(6:Int)=bV p∧True)∧
((!bR y7)=false→
(bR y7=true∧m6 y7=dS y7)∧
((!dm y7)=true→(7:Int)=bV p∧True)∧
((!dm y7)=false→
(bR y7=true∧m6 y7=dS y7)∧
((!fK y7)=true→(8:Int)=bV p∧True)∧
((!fK y7)=false→
(oH y7=true∧dm y7=true)∧
((!lh y7)=true→(9:Int)=bV p∧True)∧((!lh y7)=false→(0:Int)=bV p∧True)))))))):=by kernel_rfl
theorem akc (p:ab):ai (ah ay [(170,Lp),(1730171,tR),(1740171,tQ),(1750171,tP),(175,Ll),(176,Lk),(177,Lj),(178,Li)] [] [(172,.pair (.ref PlanT) .unit),(173,.pair (.ref PlanT) .unit),(174,.pair (.ref PlanT) .unit)]) Tryz.f108 LM aq (p,()):=by
 rw[agP]
 refine U.mk fun y1 e1=>U.mk fun y2 e2=>U.mk fun y3 e3=>U.mk fun y4 e4=>U.mk fun y5 e5=>U.mk fun y6 e6=>U.mk fun y7 e7=> ?_
 have hy7:y7=p:=by rw[e7,e5,e3,e2]
 have RG:y4=(dR (fz p)||dR (eY p)):=by rw[e4,e3,e2];cases dR (fz p)<;>rfl
 have hy6:y6=wO p:=by
  rw[e6,RG,e3,e2]
  unfold wO
  cases dR (fz p)<;>cases dR (eY p)<;>rfl
 have hS:lq p= !y1:=by
  rw[e1,vT _ 40 40 rfl,vT _ 24 24 rfl,vT _ 4 4 rfl,vT _ 80 80 rfl]
  unfold lq
  generalize decide (p.1.length≤40)=a;generalize decide (p.2.2.1.length≤24)=b;generalize decide (p.2.2.2.1.length≤4)=c;generalize decide (p.2.1.length≤80)=d
  cases a<;>cases b<;>cases c<;>cases d<;>rfl
 rw[hy7]
 have hC:=Ez p
 simp only[true_and,and_true,eq_self]
 refine⟨fun h=>by rw[hC,hS,h];rfl,fun h=> ?_⟩
 have hS:lq p=true:=by rw[hS,h];rfl
 rw[hS] at hC
 refine⟨fun h=>by rw[hC,h];rfl,fun h=> ?_⟩
 have hA:fArgs p=true:=by simpa using h
 have four:wO p=true→(4:Int)=bV p:=fun ht=>by rw[hC,hA,ht];rfl
 have rest:=PZ p hS hA
 exact⟨fun _=>trivial,fun _=>by rw[e5],fun h=>four (by rw[←hy6,h]),fun h=>rest (by rw[←hy6,h])⟩
theorem adv:aM Tryz.prog 108 LM:=
 aM.bZ (l:=[(170,Lp),(1730171,tR),(1740171,tQ),(1750171,tP),(175,Ll),(176,Lk),(177,Lj),(178,Li)]) (clos:=[(172,.pair (.ref PlanT) .unit),(173,.pair (.ref PlanT) .unit),(174,.pair (.ref PlanT) .unit)]) (A:=fun _=>aq) aH
  ⟨acT,Rh,Rg,Rf,acP,acO,acN,acM,trivial⟩ Tryz.func108 (by kernel_rfl) (by kernel_rfl) fun x hw hp=>akc x.1
def cQ {α:Type} (l:List α):Prop:=l.length≤1000
def Lh:bh where
 args:=[.list B5]
 out:= .row 81 B5
 pre:=fun(x:List mq×Unit)=>cQ x.1
 fn:=fun(x:List mq×Unit)=>(x.1,())
def Lg:bh where
 args:=[.list B4]
 out:= .row 158 B4
 pre:=fun(x:List nf×Unit)=>cQ x.1
 fn:=fun(x:List nf×Unit)=>(x.1,())
def Lf:bh where
 args:=[.list wW]
 out:= .row 161 wW
 pre:=fun(x:List gw×Unit)=>cQ x.1
 fn:=fun(x:List gw×Unit)=>(x.1,())
def Le:bh where
 args:=[.list xP]
 out:= .row 174 xP
 pre:=fun(x:List ll×Unit)=>cQ x.1
 fn:=fun(x:List ll×Unit)=>(x.1,())
def IL:bh where
 args:=[.list I]
 out:= .row 3 I
 pre:=fun(x:List Int×Unit)=>cQ x.1
 fn:=fun(x:List Int×Unit)=>(x.1,())
def kG (p:ab):Prop:=cQ p.1∧cQ p.2.1∧cQ p.2.2.1∧cQ p.2.2.2.1∧cS p
def Dw:bh where
 args:=[PlanT]
 out:= .data [PlanT]
 pre:=fun(x:ab×Unit)=>kG x.1
 fn:=fun(x:ab×Unit)=>(x.1,())
def a109 (x:ab×Unit):eC:=bj [(4,fun _=>{
 σ:=Nat
 ok:=fun k=>k≤x.1.2.2.2.1.length
 mu:=fun k=>x.1.2.2.2.1.length - k
 sl:=fun k=>[(23,.one (.aC I (k:Int)))]
 bl:=fun k=>[(18,.row false 174 xP x.1.2.2.2.1)]
 keep:=[1,2,22]
 cy:=[1,2,6,9,12]})]
def gz (p:ab):Nat→List (ak×Int)
 |0=>[]
 |k+1=>gz p k++[((p.2.2.1.getD k zS).2.1,(k:Int))]
def lb (i:Int) (l:List Int):Nat→List (Int×Int×Int)
 |0=>[]
 |k+1=>lb i l k++[(l.getD k 0,i,(k:Int))]
def iE (p:ab):Nat→List (Int×Int×Int)
 |0=>[]
 |i+1=>iE p i++lb (i:Int) (p.2.2.2.1.getD i zL).2 (p.2.2.2.1.getD i zL).2.length
def MT (p:ab) (l:List Int):Int:=bif decide ((l.length:Int)>1) then(bif oW (dS p) l 0 then 1 else 0) else 0
def pF (p:ab) (l:List Int):Nat→Int
 |0=>MT p l
 |k+1=>((aT aL (dS p) (l.getD k 0,1 - pF p l k)).getD (0,0)).2
def nO (p:ab) (l:List Int):Nat→List (Int×Int)
 |0=>[]
 |k+1=>nO p l k++[(l.getD k 0,pF p l k)]
def jQ (p:ab):Nat→List (Int×Int)
 |0=>[]
 |i+1=>jQ p i++nO p (p.2.2.2.1.getD i zL).2 (p.2.2.2.1.getD i zL).2.length
@[irreducible] def zl (p:ab):List (ak×Int):=gz p p.2.2.1.length
@[irreducible] def Db (p:ab):List (Int×Int×Int):=iE p p.2.2.2.1.length
@[irreducible] def Ns (p:ab):List (Int×Int):=jQ p p.2.2.2.1.length
@[irreducible] def np (p:ab):aX:=(p,dS p,zl p,Db p,Ns p)
@[irreducible] def kp (p:ab):Option aX:=bif bV p==0 then some (np p) else none
def NA:bh where
 args:=[PlanT]
 out:= .data [.ptr jn,I]
 pre:=fun(x:ab×Unit)=>cS x.1
 fn:=fun(x:ab×Unit)=>(kp x.1,bV x.1,())
def jE (p:ab) (i:Int):List Int:=(p.2.2.2.1.getD i.toNat zL).2
def a50 (x:ab×Unit):eC:=bj [
 (6,fun _=>uC x.1.2.1.length (fun _=>True) 33 24 aL aL (bW x.1) [1,5,31,32] [1,29,25,26,27]),
 (11,fun _=>uC x.1.2.2.1.length (fun _=>True) 61 25 aL I (gz x.1) [1,5,59,60] [1,29,24,26,27]),
 (16,fun _=>{
  σ:=Nat
  ok:=fun k=>k≤x.1.2.2.2.1.length
  mu:=fun k=>x.1.2.2.2.1.length - k
  sl:=fun k=>[(77,.one (.aC I (k:Int)))]
  bl:=fun k=>[(26,.map false I (.pair I I) (iE x.1 k) none),(27,.map false I I (jQ x.1 k) none)]
  keep:=[1,5,75,76]
  cy:=[1,29,24,25]}),
 (24,fun S=>{
  σ:=Nat
  ok:=fun k=>k≤(jE x.1 (dC S 77)).length
  mu:=fun k=>(jE x.1 (dC S 77)).length - k
  sl:=fun k=>[(112,.one (.aC I (k:Int))),(12,.one (.aC I (pF x.1 (jE x.1 (dC S 77)) k)))]
  bl:=fun k=>[(26,.map false I (.pair I I) (iE x.1 (dC S 77).toNat++lb (dC S 77) (jE x.1 (dC S 77)) k) none),(27,.map false I I (jQ x.1 (dC S 77).toNat++nO x.1 (jE x.1 (dC S 77)) k) none)]
  keep:=[1,5,10,11,75,76,77,110,111]
  cy:=[1,29,24,25,11]})]
def Z5 (o:Option (Int×Int)):Int×Int:=match o with
 |some x=>x
 |none=>(-1, -1)
@[irreducible] def hU (n:aX) (e:Int):Int×Int:=Z5 (aT I n.2.2.2.1 e)
@[irreducible] def uO (n:aX) (e i:Int):Int:=bif !(aT I n.2.2.2.2 e).isSome||(decide (i<0)||decide (i>1)) then 0 else bif(aT I n.2.2.2.2 e).getD 0==i then 1 else 2
def K9:bh where
 args:=[.ref jn,I]
 out:= .data [I,I]
 pre:=fun(x:aX×Int×Unit)=>True
 fn:=fun(x:aX×Int×Unit)=>((hU x.1 x.2.1).1,(hU x.1 x.2.1).2,())
def K8:bh where
 args:=[.ref jn,I,I]
 out:= .data [I]
 pre:=fun(x:aX×Int×Int×Unit)=>True
 fn:=fun(x:aX×Int×Int×Unit)=>(uO x.1 x.2.1 x.2.2.1,())
def Lb:bh where
 args:=[.ref jn,I]
 out:= .data [aL,.bool]
 pre:=fun(x:aX×Int×Unit)=>True
 fn:=fun(x:aX×Int×Unit)=>((lB x.1.1 x.2.1).1,(lB x.1.1 x.2.1).2,())
def c52:bh where
 args:=[.ref jn]
 out:= .data [I]
 pre:=fun(x:aX×Unit)=>True
 fn:=fun(x:aX×Unit)=>((x.1.1.1.length:Int),())
@[irreducible] def Yh (p:ab):Option aX:=bif oI p then some (np p) else none
theorem agk (l:List (List UInt8×Int×Int)):ai (ah ay []) Tryz.f179 Lh aq (l,())=(
U (List.replicate (0:Nat) ([],(0:Int),(0:Int))) fun(y1:List (List UInt8×Int×Int))=>
∀(b2:Bool),(b2=true→l=[])→(b2=true→[]=l∧True)∧(b2=false→roomFor (y1.length+l.length) (32:Nat)∧y1++l=l∧True)):=by kernel_rfl
theorem agj (l:List ((Int×Int)×Int×Int)):ai (ah ay []) Tryz.f180 Lg aq (l,())=(
U (List.replicate (0:Nat) (((0:Int),(0:Int)),(0:Int),(0:Int))) fun(y1:List ((Int×Int)×Int×Int))=>
∀(b2:Bool),(b2=true→l=[])→(b2=true→[]=l∧True)∧(b2=false→roomFor (y1.length+l.length) (32:Nat)∧y1++l=l∧True)):=by kernel_rfl
theorem agi (l:List (List UInt8×(Int×Int)×Bool)):ai (ah ay []) Tryz.f181 Lf aq (l,())=(
U (List.replicate (0:Nat) ([],((0:Int),(0:Int)),false)) fun(y1:List (List UInt8×(Int×Int)×Bool))=>
∀(b2:Bool),(b2=true→l=[])→(b2=true→[]=l∧True)∧(b2=false→roomFor (y1.length+l.length) (40:Nat)∧y1++l=l∧True)):=by kernel_rfl
theorem v182 (l:List (List UInt8×List Int)):ai (ah ay []) Tryz.f182 Le aq (l,())=(
∀(b1:Bool),
(b1=true→l=[])→(b1=true→[]=l∧True)∧(b1=false→roomFor ((List.replicate (0:Nat) (([],[]):List Int×List (List Int×Int))).length+l.length) (40:Nat)∧List.replicate (0:Nat) ([],[])++l=l∧True)):=by kernel_rfl
theorem v59 (l:List Int):ai (ah ay []) Tryz.f59 IL aq (l,())=(
∀(b1:Bool),
(b1=true→l=[])→(b1=true→[]=l∧True)∧(b1=false→roomFor ((List.replicate (0:Nat) (0:Int)).length+l.length) (8:Nat)∧List.replicate (0:Nat) (0:Int)++l=l∧True)):=by kernel_rfl
theorem rP {α:Type} {l:List α} {n b:Nat} (h:l.length≤1000) (hn:n=0) (hb:b≤1000):roomFor (n+l.length) b:=c6 (by omega) hb
theorem acL:aM Tryz.prog 179 Lh:=
 aM.bZ (l:=[]) (A:=fun _=>aq) aH trivial Tryz.func179 (by kernel_rfl) (by kernel_rfl) fun x _ hp=>by
  obtain⟨l,u⟩:=x
  show ai (ah ay []) Tryz.f179 Lh aq (l,())
  rw[agk]
  refine U.mk fun y1 e1=>fun b hb=>⟨fun h=>⟨(hb h).symm,trivial⟩,fun h=>⟨rP hp (by rw[e1];rfl) (by decide),by rw[e1];rfl,trivial⟩⟩
theorem acK:aM Tryz.prog 180 Lg:=
 aM.bZ (l:=[]) (A:=fun _=>aq) aH trivial Tryz.func180 (by kernel_rfl) (by kernel_rfl) fun x _ hp=>by
  obtain⟨l,u⟩:=x
  show ai (ah ay []) Tryz.f180 Lg aq (l,())
  rw[agj]
  refine U.mk fun y1 e1=>fun b hb=>⟨fun h=>⟨(hb h).symm,trivial⟩,fun h=>⟨rP hp (by rw[e1];rfl) (by decide),by rw[e1];rfl,trivial⟩⟩
theorem acJ:aM Tryz.prog 181 Lf:=
 aM.bZ (l:=[]) (A:=fun _=>aq) aH trivial Tryz.func181 (by kernel_rfl) (by kernel_rfl) fun x _ hp=>by
  obtain⟨l,u⟩:=x
  show ai (ah ay []) Tryz.f181 Lf aq (l,())
  rw[agi]
  refine U.mk fun y1 e1=>fun b hb=>⟨fun h=>⟨(hb h).symm,trivial⟩,fun h=>⟨rP hp (by rw[e1];rfl) (by decide),by rw[e1];rfl,trivial⟩⟩
theorem acI:aM Tryz.prog 182 Le:=
 aM.bZ (l:=[]) (A:=fun _=>aq) aH trivial Tryz.func182 (by kernel_rfl) (by kernel_rfl) fun x _ hp=>by
  obtain⟨l,u⟩:=x
  show ai (ah ay []) Tryz.f182 Le aq (l,())
  rw[v182]
  exact fun b hb=>⟨fun h=>⟨(hb h).symm,trivial⟩,fun h=>⟨rP hp rfl (by decide),by first|exact⟨rfl,trivial⟩|trivial⟩⟩
theorem S4:aM Tryz.prog 59 IL:=
 aM.bZ (l:=[]) (A:=fun _=>aq) aH trivial Tryz.func59 (by kernel_rfl) (by kernel_rfl) fun x _ hp=>by
  obtain⟨l,u⟩:=x
  show ai (ah ay []) Tryz.f59 IL aq (l,())
  rw[v59]
  exact fun b hb=>⟨fun h=>⟨(hb h).symm,trivial⟩,fun h=>⟨rP hp rfl (by decide),by first|exact⟨rfl,trivial⟩|trivial⟩⟩
theorem v109 (p:ab):ai (ah ay [(179,Lh),(180,Lg),(181,Lf),(182,Le),(59,IL)]) Tryz.f109 Dw (a109 (p,())) (p,())=(
cQ p.1∧
cQ p.2.1∧
cQ p.2.2.1∧
cQ p.2.2.2.1∧
(∃(py:Nat),
py≤p.2.2.2.1.length∧
(↑py:Int)=(0:Int)∧
(↑p.2.2.2.1.length:Int)=(↑p.2.2.2.1.length:Int)∧
p.2.2.2.1=p.2.2.2.1∧
p.2.2.2.2.1=p.2.2.2.2.1∧
p.2.2.2.2.2.1=p.2.2.2.2.2.1∧
p.2.2.2.2.2.2.1=p.2.2.2.2.2.2.1∧
p.2.2.2.2.2.2.2.1=p.2.2.2.2.2.2.2.1∧
p.2.2.2.2.2.2.2.2=p.2.2.2.2.2.2.2.2∧
(0:Int)=(0:Int)∧
(0:Int)=(0:Int)∧(0:Int)=(0:Int)∧(0:Int)=(0:Int)∧false=false∧p.1=p.1∧p.2.1=p.2.1∧p.2.2.1=p.2.2.1∧True)∧
∀(s1:Nat),
U (decide ((↑s1:Int)<(↑p.2.2.2.1.length:Int))) fun(y2:Bool)=>
U (p.2.2.2.1.getD (↑s1:Int).toNat ([],[])) fun(y3:List UInt8×List Int)=>
s1≤p.2.2.2.1.length→
(y2=true→
aQ (↑s1:Int) p.2.2.2.1.length∧
cQ y3.2∧
aQ (↑s1:Int) p.2.2.2.1.length∧
bq IntKind.i64 ((↑s1:Int)+(1:Int))∧
∃(Oq:Nat),
Oq≤p.2.2.2.1.length∧
p.2.2.2.1.length - Oq<p.2.2.2.1.length - s1∧
(↑Oq:Int)=(↑s1:Int)+(1:Int)∧
(↑p.2.2.2.1.length:Int)=(↑p.2.2.2.1.length:Int)∧
p.2.2.2.1=p.2.2.2.1.set (↑s1:Int).toNat y3∧
p.2.2.2.2.1=p.2.2.2.2.1∧
p.2.2.2.2.2.1=p.2.2.2.2.2.1∧
p.2.2.2.2.2.2.1=p.2.2.2.2.2.2.1∧
p.2.2.2.2.2.2.2.1=p.2.2.2.2.2.2.2.1∧
p.2.2.2.2.2.2.2.2=p.2.2.2.2.2.2.2.2∧
(0:Int)=(0:Int)∧
(0:Int)=(0:Int)∧
(0:Int)=(0:Int)∧(0:Int)=(0:Int)∧false=false∧p.1=p.1∧p.2.1=p.2.1∧p.2.2.1=p.2.2.1∧True)∧
(y2=false→(p.1,p.2.1,p.2.2.1,p.2.2.2.1,p.2.2.2.2)=p∧True)):=by kernel_rfl
theorem akb (p:ab) (hp:kG p):ai (ah ay [(179,Lh),(180,Lg),(181,Lf),(182,Le),(59,IL)]) Tryz.f109 Dw (a109 (p,())) (p,()):=by
 rw[v109]
 simp only[dz,true_and,and_true,eq_self,Int.toNat_natCast]
 refine⟨hp.1,hp.2.1,hp.2.2.1,hp.2.2.2.1,⟨0,by omega,rfl⟩,fun k=>U.mk fun y2 e2=>U.mk fun y3 e3=>fun hk=>⟨fun h=> ?_,fun _=>trivial⟩⟩
 have hk:=ba e2 h
 have e3:y3=p.2.2.2.1.getD k zL:=e3
 have hm:y3∈p.2.2.2.1:=by rw[e3];exact fw zL hk
 have h4:p.2.2.2.1.length≤1000:=hp.2.2.2.1
 refine⟨⟨by omega,by omega⟩,hp.2.2.2.2 y3 hm,⟨by omega,by omega⟩,bg (by omega) (by omega),k+1,by omega,by omega,by omega,?_⟩
 rw[e3,eA zL hk,List.set_getElem_self]
theorem W8:aM Tryz.prog 109 Dw:=
 aM.bZ (l:=[(179,Lh),(180,Lg),(181,Lf),(182,Le),(59,IL)]) (A:=a109) aH ⟨acL,acK,acJ,acI,S4,trivial⟩ Tryz.func109 (by kernel_rfl) (by kernel_rfl) fun x hw hp=>akb x.1 hp
theorem gr {p:ab} (h:bV p=0):lq p=true∧fArgs p=true∧bR p=true∧dm p=true∧fK p=true:=by
 rw[Ez] at h
 cases hS:lq p<;>rw[hS] at h
 ·cases h
 cases hA:fArgs p<;>rw[hA] at h
 ·cases h
 cases hT:wO p<;>rw[hT] at h
 case true=>cases h
 cases hJ:bR p<;>rw[hJ] at h
 ·cases h
 cases hG:dm p<;>rw[hG] at h
 ·cases h
 cases hL:fK p<;>rw[hL] at h
 ·cases h
 exact⟨rfl,rfl,rfl,rfl,rfl⟩
theorem jB {p:ab} (h:lq p=true):p.1.length≤40∧p.2.2.1.length≤24∧p.2.2.2.1.length≤4∧p.2.1.length≤80:=by
 unfold lq at h
 simpa only[Bool.and_eq_true,decide_eq_true_eq] using h
theorem RD {p:ab} (h:bR p=true) (k:Nat) (hk:k<p.2.1.length):bW p (k+1)=dc aL (dc aL (bW p k) (p.2.1.getD k zJ).1 (p.2.1.getD k zJ).2) (p.2.1.getD k zJ).2 (p.2.1.getD k zJ).1:=by
 have he:xI p k:=by
  rw[uF,Bool.and_eq_true] at h
  exact gv.2 fun i hi=>gv.1 h.1 i (by rw[mj];omega)
 obtain⟨r1,r2⟩:=Fz p k hk he
 cases hb:(!dx p (p.2.1.getD k zJ).1||(!dx p (p.2.1.getD k zJ).2||((aT aL (bW p k) (p.2.1.getD k zJ).1).isSome||((aT aL (bW p k) (p.2.1.getD k zJ).2).isSome||(p.2.1.getD k zJ).1==(p.2.1.getD k zJ).2)))) with
 |true=>rw[r1 hb] at h;cases h
 |false=>exact(r2 hb).2
theorem Hk (p:ab) (x:ak):∀(k:Nat),(aT aL (gz p k) x).isSome=cd (fB p x) k
 |0=>rfl
 |k+1=>by
  have ih:=Hk p x k
  rw[gU] at ih ⊢
  show((gz p k++[((p.2.2.1.getD k zS).2.1,(k:Int))]).any _)=(cd (fB p x) k||fB p x k)
  rw[List.any_append,ih]
  simp only[List.any_cons,List.any_nil,Bool.or_false,Fx]
  rw[fF]
  rfl
theorem QQ {p:ab} (h:dm p=true) (k:Nat) (hk:k<p.2.2.1.length):gz p (k+1)=dc aL (gz p k) (p.2.2.1.getD k zS).2.1 (k:Int):=by
 unfold dm at h
 rw[Bool.and_eq_true] at h
 have:=gv.1 h.1 k hk
 unfold kX Cj at this
 simp only[Bool.and_eq_true] at this
 have hr:=this.2.2.2.2
 rw[J5 p k hk] at hr
 rw[nV pB (by rw[Hk];simpa using hr)]
 rfl
theorem Hg (i:Int) (l:List Int) (e:Int):∀(k:Nat),k≤l.length→((lb i l k).any fun x=>Ty.iW I e x.1)=bG (l.take k) e
 |0,_=>by unfold bG;rfl
 |k+1,h=>by
  show((lb i l k++[(l.getD k 0,i,(k:Int))]).any _)=_
  rw[List.any_append,Hg i l e k (by omega),eM 0 (by omega)]
  unfold bG
  rw[List.any_append]
  simp only[List.any_cons,List.any_nil,Bool.or_false,O6]
  rw[fF e]
theorem Ee (p:ab) (l:List Int) (e:Int):∀(k:Nat),k≤l.length→((nO p l k).any fun x=>Ty.iW I e x.1)=bG (l.take k) e
 |0,_=>by unfold bG;rfl
 |k+1,h=>by
  show((nO p l k++[(l.getD k 0,pF p l k)]).any _)=_
  rw[List.any_append,Ee p l e k (by omega),eM 0 (by omega)]
  unfold bG
  rw[List.any_append]
  simp only[List.any_cons,List.any_nil,Bool.or_false,O6]
  rw[fF e]
theorem HI (p:ab) (e:Int):∀(i:Nat),i≤p.2.2.2.1.length→((iE p i).any fun x=>Ty.iW I e x.1)=bG (kJ p i) e
 |0,_=>by unfold bG;rfl
 |i+1,h=>by
  show((iE p i++lb (i:Int) (p.2.2.2.1.getD i zL).2 (p.2.2.2.1.getD i zL).2.length).any _)=_
  rw[List.any_append,HI p e i (by omega),Hg _ _ e _ (Nat.le_refl _),yM p i (by omega),List.take_length]
  unfold bG
  rw[List.any_append]
theorem HL (p:ab) (e:Int):∀(i:Nat),i≤p.2.2.2.1.length→((jQ p i).any fun x=>Ty.iW I e x.1)=bG (kJ p i) e
 |0,_=>by unfold bG;rfl
 |i+1,h=>by
  show((jQ p i++nO p (p.2.2.2.1.getD i zL).2 (p.2.2.2.1.getD i zL).2.length).any _)=_
  rw[List.any_append,HL p e i (by omega),Ee _ _ e _ (Nat.le_refl _),yM p i (by omega),List.take_length]
  unfold bG
  rw[List.any_append]
theorem Ft {p:ab} (h:fK p=true) (i k:Nat) (hi:i<p.2.2.2.1.length) (hk:k<(p.2.2.2.1.getD i zL).2.length):
  bG (kJ p i++(p.2.2.2.1.getD i zL).2.take k) ((p.2.2.2.1.getD i zL).2.getD k 0)=false:=by
 unfold fK at h
 have:=gv.1 h i hi
 unfold jd at this
 rw[Bool.and_eq_true] at this
 have:=gv.1 this.1 k hk
 unfold lR at this
 simpa using this
theorem Rv {p:ab} (h:fK p=true) (i k:Nat) (hi:i<p.2.2.2.1.length) (hk:k<(p.2.2.2.1.getD i zL).2.length):
  (iE p i++lb (i:Int) (p.2.2.2.1.getD i zL).2 (k+1))=dc I (iE p i++lb (i:Int) (p.2.2.2.1.getD i zL).2 k) ((p.2.2.2.1.getD i zL).2.getD k 0) ((i:Int),(k:Int)):=by
 have hf:=Ft h i k hi hk
 rw[nV td (by
  rw[gU,List.any_append,HI p _ i (by omega),Hg _ _ _ k (by omega)]
  unfold bG at hf ⊢
  rw[List.any_append] at hf
  exact hf)]
 show iE p i++(lb (i:Int) _ k++_)=_
 rw[List.append_assoc]
theorem RA {p:ab} (h:fK p=true) (i k:Nat) (hi:i<p.2.2.2.1.length) (hk:k<(p.2.2.2.1.getD i zL).2.length):
  (jQ p i++nO p (p.2.2.2.1.getD i zL).2 (k+1))=dc I (jQ p i++nO p (p.2.2.2.1.getD i zL).2 k) ((p.2.2.2.1.getD i zL).2.getD k 0) (pF p (p.2.2.2.1.getD i zL).2 k):=by
 have hf:=Ft h i k hi hk
 rw[nV td (by
  rw[gU,List.any_append,HL p _ i (by omega),Ee _ _ _ k (by omega)]
  unfold bG at hf ⊢
  rw[List.any_append] at hf
  exact hf)]
 show jQ p i++(nO p _ k++_)=_
 rw[List.append_assoc]
theorem U1 {p:ab} (h:bR p=true) (l:List Int):∀(k:Nat),0≤pF p l k∧pF p l k≤3
 |0=>by
  show 0≤MT p l∧MT p l≤3
  unfold MT
  cases decide ((l.length:Int)>1)<;>cases oW (dS p) l 0<;>decide
 |k+1=>by
  show 0≤((aT aL (dS p) (l.getD k 0,1 - pF p l k)).getD (0,0)).2∧((aT aL (dS p) (l.getD k 0,1 - pF p l k)).getD (0,0)).2≤3
  cases hm:aT aL (dS p) (l.getD k 0,1 - pF p l k) with
  |none=>decide
  |some q=>exact Cz h _ (fI pB hm)
theorem v50 (p:ab):ai (ah ay [(108,LM),(109,Dw)]) Tryz.f50 NA (a50 (p,())) (p,())=(
True∧
((bV p !=(0:Int))=true→none=kp p∧bV p=bV p∧True)∧
((bV p !=(0:Int))=false→
kG p∧
(∃(py:Nat),
(py≤p.2.1.length∧True)∧
(↑py:Int)=(0:Int)∧
p.2.1=p.2.1∧
(↑p.2.1.length:Int)=(↑p.2.1.length:Int)∧
bW p py=[]∧
aE p (aE p (([]:List ((Int×Int)×Int))=[]∧([]:List (Int×Int×Int))=[]∧([]:List (Int×Int))=[]∧True)))∧
∀(s1:Nat),
U (decide ((↑s1:Int)<(↑p.2.1.length:Int))) fun(y2:Bool)=>
U (p.2.1.getD (↑s1:Int).toNat (((0:Int),(0:Int)),(0:Int),(0:Int))) fun(y3:(Int×Int)×Int×Int)=>
U
(sT (rl aL (bW p s1) y3.1 ((0:Int),(0:Int)))
(jO aL (bW p s1) y3.1) y3.2)
fun(y4:List ((Int×Int)×Int×Int))=>
s1≤p.2.1.length∧True→
(y2=true→
aQ (↑s1:Int) p.2.1.length∧
bq IntKind.i64 ((↑s1:Int)+(1:Int))∧
∃(fQ:Nat),
(fQ≤p.2.1.length∧True)∧
p.2.1.length - fQ<p.2.1.length - s1∧
(↑fQ:Int)=(↑s1:Int)+(1:Int)∧
p.2.1=p.2.1∧
(↑p.2.1.length:Int)=(↑p.2.1.length:Int)∧
bW p fQ=
sT (rl aL y4 y3.2 ((0:Int),(0:Int)))
(jO aL y4 y3.2) y3.1∧
aE p (aE p (([]:List ((Int×Int)×Int))=[]∧([]:List (Int×Int×Int))=[]∧([]:List (Int×Int))=[]∧True)))∧
(y2=false→
(∃(sW:Nat),
(sW≤p.2.2.1.length∧True)∧
(↑sW:Int)=(0:Int)∧
p.2.2.1=p.2.2.1∧
(↑p.2.2.1.length:Int)=(↑p.2.2.1.length:Int)∧
gz p sW=[]∧
aE p (aE p (bW p s1=bW p s1∧([]:List (Int×Int×Int))=[]∧([]:List (Int×Int))=[]∧True)))∧
∀(s5:Nat),
U (decide ((↑s5:Int)<(↑p.2.2.1.length:Int))) fun(y6:Bool)=>
s5≤p.2.2.1.length∧True→
(y6=true→
aQ (↑s5:Int) p.2.2.1.length∧
bq IntKind.i64 ((↑s5:Int)+(1:Int))∧
∃(nv:Nat),
(nv≤p.2.2.1.length∧True)∧
p.2.2.1.length - nv<p.2.2.1.length - s5∧
(↑nv:Int)=(↑s5:Int)+(1:Int)∧
p.2.2.1=p.2.2.1∧
(↑p.2.2.1.length:Int)=(↑p.2.2.1.length:Int)∧
gz p nv=
dc aL (gz p s5)
(p.2.2.1.getD (↑s5:Int).toNat ([],((0:Int),(0:Int)),false)).2.1 (↑s5:Int)∧
aE p (aE p (bW p s1=bW p s1∧([]:List (Int×Int×Int))=[]∧([]:List (Int×Int))=[]∧True)))∧
(y6=false→
(∃(kZ:Nat),
kZ≤p.2.2.2.1.length∧
(↑kZ:Int)=(0:Int)∧
p.2.2.2.1=p.2.2.2.1∧
(↑p.2.2.2.1.length:Int)=(↑p.2.2.2.1.length:Int)∧
iE p kZ=[]∧
jQ p kZ=[]∧
aE p (aE p (bW p s1=bW p s1∧gz p s5=gz p s5∧True)))∧
∀(s7:Nat),
U (decide ((↑s7:Int)<(↑p.2.2.2.1.length:Int))) fun(y8:Bool)=>
U (p.2.2.2.1.getD (↑s7:Int).toNat ([],[])) fun(y9:List UInt8×List Int)=>
U (decide ((↑y9.2.length:Int)>(1:Int))) fun(bp:Bool)=>
U (aT aL (bW p s1) (y9.2.getD (Int.toNat (0:Int)) (0:Int),(0:Int)))
fun(bI:Option (Int×Int))=>
s7≤p.2.2.2.1.length→
(y8=true→
aQ (↑s7:Int) p.2.2.2.1.length∧
(bp=true→aQ (0:Int) y9.2.length)∧
(bp=true→bI.isSome=true→aQ (1:Int) y9.2.length)∧
(∃(vg:Nat),
vg≤(jE p (↑s7:Int)).length∧
(↑vg:Int)=(0:Int)∧
(pF p (jE p (↑s7:Int)) vg=
bif bp then
bif bif bI.isSome then(bI.getD ((0:Int),(0:Int))).1==y9.2.getD (Int.toNat (1:Int)) (0:Int) else false then
(1:Int)
else(0:Int)
else(0:Int))∧
(↑s7:Int)=(↑s7:Int)∧
p.2.2.2.1=p.2.2.2.1∧
(↑p.2.2.2.1.length:Int)=(↑p.2.2.2.1.length:Int)∧
(↑s7:Int)=(↑s7:Int)∧
y9.2=y9.2∧
(↑y9.2.length:Int)=(↑y9.2.length:Int)∧
iE p (↑s7:Int).toNat++lb (↑s7:Int) (jE p (↑s7:Int)) vg=iE p s7∧
jQ p (↑s7:Int).toNat++nO p (jE p (↑s7:Int)) vg=jQ p s7∧
aE p (aE p (bW p s1=bW p s1∧
gz p s5=gz p s5∧y9.1=y9.1∧y9.2=y9.2∧True)))∧
∀(mK:Nat),
U (decide ((↑mK:Int)<(↑y9.2.length:Int))) fun(cb:Bool)=>
U (pF p (jE p (↑s7:Int)) mK) fun(cW:Int)=>
U (y9.2.getD (↑mK:Int).toNat (0:Int)) fun(bz:Int)=>
U (iE p (↑s7:Int).toNat++lb (↑s7:Int) (jE p (↑s7:Int)) mK) fun(cT:List (Int×Int×Int))=>
U (jQ p (↑s7:Int).toNat++nO p (jE p (↑s7:Int)) mK) fun(cF:List (Int×Int))=>
mK≤(jE p (↑s7:Int)).length→
(cb=true→
aQ (↑mK:Int) y9.2.length∧
bq IntKind.i64 ((1:Int) - cW)∧
bq IntKind.i64 ((↑mK:Int)+(1:Int))∧
∃(eO:Nat),
eO≤(jE p (↑s7:Int)).length∧
(jE p (↑s7:Int)).length - eO<(jE p (↑s7:Int)).length - mK∧
(↑eO:Int)=(↑mK:Int)+(1:Int)∧
pF p (jE p (↑s7:Int)) eO=
((aT aL (bW p s1) (bz,(1:Int) - cW)).getD
((0:Int),(0:Int))).2∧
(↑s7:Int)=(↑s7:Int)∧
p.2.2.2.1=p.2.2.2.1∧
(↑p.2.2.2.1.length:Int)=(↑p.2.2.2.1.length:Int)∧
(↑s7:Int)=(↑s7:Int)∧
y9.2=y9.2∧
(↑y9.2.length:Int)=(↑y9.2.length:Int)∧
iE p (↑s7:Int).toNat++lb (↑s7:Int) (jE p (↑s7:Int)) eO=
sT (rl I cT bz ((0:Int),(0:Int)))
(jO I cT bz) ((↑s7:Int),(↑mK:Int))∧
jQ p (↑s7:Int).toNat++nO p (jE p (↑s7:Int)) eO=
sT (rl I cF bz (0:Int)) (jO I cF bz)
cW∧
aE p (p.1=p.1∧
p.2.1=p.2.1∧
p.2.2.1=p.2.2.1∧
p.2.2.2.1=p.2.2.2.1∧
p.2.2.2.2.1=p.2.2.2.2.1∧
p.2.2.2.2.2.1=p.2.2.2.2.2.1∧
p.2.2.2.2.2.2.1=
p.2.2.2.2.2.2.1∧
p.2.2.2.2.2.2.2.1=
p.2.2.2.2.2.2.2.1∧
p.2.2.2.2.2.2.2.2=
p.2.2.2.2.2.2.2.2∧
bW p s1=bW p s1∧
gz p s5=gz p s5∧
y9.1=y9.1∧y9.2=y9.2∧True))∧
(cb=false→
bq IntKind.i64 ((↑s7:Int)+(1:Int))∧
∃(eO:Nat),
eO≤p.2.2.2.1.length∧
p.2.2.2.1.length - eO<p.2.2.2.1.length - s7∧
(↑eO:Int)=(↑s7:Int)+(1:Int)∧
p.2.2.2.1=p.2.2.2.1∧
(↑p.2.2.2.1.length:Int)=(↑p.2.2.2.1.length:Int)∧
iE p eO=cT∧
jQ p eO=cF∧
aE p (p.1=p.1∧
p.2.1=p.2.1∧
p.2.2.1=p.2.2.1∧
p.2.2.2.1=p.2.2.2.1∧
p.2.2.2.2.1=p.2.2.2.2.1∧
p.2.2.2.2.2.1=p.2.2.2.2.2.1∧
p.2.2.2.2.2.2.1=p.2.2.2.2.2.2.1∧
p.2.2.2.2.2.2.2.1=
p.2.2.2.2.2.2.2.1∧
p.2.2.2.2.2.2.2.2=
p.2.2.2.2.2.2.2.2∧
bW p s1=bW p s1∧
gz p s5=gz p s5∧True)))∧
(y8=false→some (p,bW p s1,gz p s5,iE p s7,jQ p s7)=kp p∧(0:Int)=bV p∧True))))):=by kernel_rfl
theorem b50 (p:ab) (hs:cS p) (hw:PlanT.wf p):ai (ah ay [(108,LM),(109,Dw)]) Tryz.f50 NA (a50 (p,())) (p,()):=by
 rw[v50]
 simp only[dz,true_and,and_true,eq_self,Int.toNat_natCast,HA pB,HA td]
 refine⟨fun h=> ?_,fun h=> ?_⟩
 ·unfold kp
  rw[iH] at h
  have:(bV p==0)=false:=by simpa using h
  rw[this];rfl
 have h0:bV p=0:=by
  rw[iH] at h
  simpa using h
 obtain⟨hS,hA,hJ,hG,hL⟩:=gr h0
 obtain⟨z1,z2,z3,z4⟩:=jB hS
 refine⟨⟨by show p.1.length≤1000;omega,by show p.2.1.length≤1000;omega,by show p.2.2.1.length≤1000;omega,by show p.2.2.2.1.length≤1000;omega,hs⟩,⟨0,by omega,rfl,rfl⟩,fun k=>U.mk fun y2 e2=>U.mk fun y3 e3=>U.mk fun y4 e4=>fun hk=>⟨fun h=> ?_,fun h=> ?_⟩⟩
 ·have hk:=ba e2 h
  have e3:y3=p.2.1.getD k zJ:=e3
  refine⟨⟨by omega,by omega⟩,bg (by omega) (by omega),k+1,by omega,by omega,by omega,?_⟩
  rw[e4,e3]
  exact RD hJ k hk
 have hN:bW p k=dS p:=Fo p k (br e2 h)
 rw[hN]
 refine⟨⟨0,by omega,rfl,rfl⟩,fun s=>U.mk fun y6 e6=>fun hk=>⟨fun h=> ?_,fun h=> ?_⟩⟩
 ·have hk:=ba e6 h
  exact⟨⟨by omega,by omega⟩,bg (by omega) (by omega),s+1,by omega,by omega,by omega,QQ hG s hk⟩
 have hR:s=p.2.2.1.length:=by have:=br e6 h;omega
 refine⟨⟨0,by omega,rfl,rfl,rfl⟩,fun i=>U.mk fun y8 e8=>U.mk fun y9 e9=>U.mk fun bp du=>U.mk fun bI eH=>fun hi=>⟨fun h=> ?_,fun h=> ?_⟩⟩
 ·have hi:=ba e8 h
  have e9:y9=p.2.2.2.1.getD i zL:=e9
  have hla:jE p (i:Int)=y9.2:=by unfold jE;rw[Int.toNat_natCast,e9]
  have yd:y9.2.length≤1000:=by rw[e9];exact hs _ (fw zL hi)
  rw[hla]
  refine⟨⟨by omega,by omega⟩,fun jF=> ?_,fun jF _=> ?_,⟨0,by omega,rfl,?_,?_,?_⟩,fun k=>U.mk fun cb hX=>U.mk fun cW jG=>U.mk fun bz gJ=>U.mk fun cT kT=>U.mk fun cF iN=>fun hk=>⟨fun h=> ?_,fun h=> ?_⟩⟩
  ·rw[jF] at du
   have:=of_decide_eq_true du.symm
   exact⟨by omega,by omega⟩
  ·rw[jF] at du
   have:=of_decide_eq_true du.symm
   exact⟨by omega,by omega⟩
  ·show MT p y9.2=_
   unfold MT
   rw[←du]
   cases bp with
   |false=>rfl
   |true=>
    simp only[cond_true]
    have:oW (dS p) y9.2 0=(bif bI.isSome then(bI.getD ((0:Int),(0:Int))).1==y9.2.getD (Int.toNat (1:Int)) (0:Int) else false):=by
     rw[eH]
     unfold oW
     show(match aT aL (dS p) (y9.2.getD 0 0,0) with |none=>false|some q=>q.1==y9.2.getD 1 0)=(bif(aT aL (dS p) (y9.2.getD 0 0,0)).isSome then((aT aL (dS p) (y9.2.getD 0 0,0)).getD (0,0)).1==y9.2.getD 1 0 else false)
     cases aT aL (dS p) (y9.2.getD 0 0,0)<;>rfl
    rw[this]
  ·show iE p i++[]=_
   rw[List.append_nil]
  ·show jQ p i++[]=_
   rw[List.append_nil]
  ·have hk:=ba hX h
   have oE:=U1 hJ y9.2 k
   rw[←jG] at oE
   refine⟨⟨by omega,by omega⟩,bg (by omega) (by omega),bg (by omega) (by omega),k+1,by omega,by omega,by omega,?_,?_,?_⟩
   ·rw[gJ,jG];rfl
   ·rw[kT,gJ,e9]
    exact Rv hL i k hi (by rw[←e9];exact hk)
   ·rw[iN,gJ,jG,e9]
    exact RA hL i k hi (by rw[←e9];exact hk)
  ·have u9:=br hX h
   have:k=y9.2.length:=by omega
   refine⟨bg (by omega) (by omega),i+1,by omega,by omega,by omega,?_,?_⟩
   ·rw[kT,this,e9];rfl
   ·rw[iN,this,e9];rfl
 ·have Eo:=br e8 h
  have:i=p.2.2.2.1.length:=by omega
  refine⟨?_,h0.symm⟩
  unfold kp np zl Db Ns
  rw[h0,this,hR]
  rfl
theorem abb:aM Tryz.prog 50 NA:=
 aM.bZ (l:=[(108,LM),(109,Dw)]) (A:=a50) aH ⟨adv,W8,trivial⟩ Tryz.func50 (by kernel_rfl) (by kernel_rfl) fun x hw hp=>b50 x.1 hp hw.1
theorem age (n:(ab)×List ((Int×Int)×Int×Int)×List ((Int×Int)×Int)×List (Int×Int×Int)×List (Int×Int)) (e:Int):ai (ah ay []) Tryz.f199 K9 aq (n,e,())=(
U (aT I n.2.2.2.1 e) fun(y2:Option (Int×Int))=>
U (y2.getD ((0:Int),(0:Int))).1 fun(y3:Int)=>
U (y2.getD ((0:Int),(0:Int))).2 fun(y4:Int)=>
[(0:Int),(0:Int)].length=(2:Nat)∧
(y2.isSome=true→(aQ (0:Int) (2:Nat)∧[y3,y4].length=(2:Nat))∧(aQ (1:Int) (2:Nat)∧[y3,y4].length=(2:Nat))∧y3=(hU n e).1∧y4=(hU n e).2∧True)∧
(y2.isSome=false→(-1:Int)=(hU n e).1∧(-1:Int)=(hU n e).2∧True)):=by kernel_rfl
theorem ajF (n:aX) (e:Int):ai (ah ay []) Tryz.f199 K9 aq (n,e,()):=by
 rw[age]
 refine U.mk fun y2 e2=>U.mk fun y3 e3=>U.mk fun y4 e4=>⟨rfl,fun h=> ?_,fun h=> ?_⟩
 ·obtain⟨q,hq⟩:=Option.isSome_iff_exists.1 h
  have hl:hU n e=q:=by unfold hU;rw[←e2,hq];rfl
  rw[hl,e3,e4,hq]
  exact⟨⟨⟨by decide,by decide⟩,rfl⟩,⟨⟨by decide,by decide⟩,rfl⟩,rfl,rfl,trivial⟩
 ·have hl:hU n e=(-1, -1):=by
   unfold hU
   rw[←e2]
   cases hy:y2 with
   |none=>rfl
   |some q=>rw[hy] at h;cases h
  rw[hl]
  exact⟨rfl,rfl,trivial⟩
theorem W0:aM Tryz.prog 199 K9:=
 aM.bZ (l:=[]) (A:=fun _=>aq) aH trivial Tryz.func199 (by kernel_rfl) (by kernel_rfl) fun x hw hp=>ajF x.1 x.2.1
theorem agd (n:(ab)×List ((Int×Int)×Int×Int)×List ((Int×Int)×Int)×List (Int×Int×Int)×List (Int×Int)) (e:Int) (i:Int):ai (ah ay []) Tryz.f202 K8 aq (n,e,i,())=(
U (aT I n.2.2.2.2 e) fun(y3:Option Int)=>
U (bif bif !y3.isSome then true else decide (i<(0:Int)) then true else decide (i>(1:Int))) fun(y4:Bool)=>
(y4=true→(0:Int)=uO n e i∧True)∧
(y4=false→((y3.getD (0:Int)==i)=true→(1:Int)=uO n e i∧True)∧((y3.getD (0:Int)==i)=false→(2:Int)=uO n e i∧True))):=by kernel_rfl
theorem ajE (n:aX) (e i:Int):ai (ah ay []) Tryz.f202 K8 aq (n,e,i,()):=by
 rw[agd]
 refine U.mk fun y3 e3=>U.mk fun y4 e4=> ?_
 have hl:uO n e i=bif y4 then 0 else bif y3.getD 0==i then 1 else 2:=by
  unfold uO
  rw[←e3,e4]
  cases y3.isSome<;>cases decide (i<0)<;>cases decide (i>1)<;>rfl
 rw[hl]
 refine⟨fun h=>by rw[h];exact⟨rfl,trivial⟩,fun h=>by rw[h];exact⟨fun h2=>by rw[h2];exact⟨rfl,trivial⟩,fun h2=>by rw[h2];exact⟨rfl,trivial⟩⟩⟩
theorem acC:aM Tryz.prog 202 K8:=
 aM.bZ (l:=[]) (A:=fun _=>aq) aH trivial Tryz.func202 (by kernel_rfl) (by kernel_rfl) fun x hw hp=>ajE x.1 x.2.1 x.2.2.1
theorem agf (n:(ab)×List ((Int×Int)×Int×Int)×List ((Int×Int)×Int)×List (Int×Int×Int)×List (Int×Int)) (s:Int):ai (ah ay []) Tryz.f197 Lb aq (n,s,())=(
U (bif decide (s<(0:Int)) then true else decide (s≥(↑n.1.2.2.1.length:Int))) fun(y2:Bool)=>
(y2=true→((0:Int),(0:Int))=(lB n.1 s).1∧false=(lB n.1 s).2∧True)∧
(y2=false→aQ s n.1.2.2.1.length∧(n.1.2.2.1.getD s.toNat ([],((0:Int),(0:Int)),false)).2.1=(lB n.1 s).1∧true=(lB n.1 s).2∧True)):=by kernel_rfl
theorem ajH (n:aX) (s:Int):ai (ah ay []) Tryz.f197 Lb aq (n,s,()):=by
 rw[agf]
 have hA:lB n.1 s=bif decide (s<0)||decide ((n.1.2.2.1.length:Int)≤s) then((0,0),false) else((n.1.2.2.1.getD s.toNat zS).2.1,true):=by unfold lB;rfl
 refine U.mk fun y2 e2=> ?_
 rw[xC] at e2
 have hA:lB n.1 s=bif y2 then((0,0),false) else((n.1.2.2.1.getD s.toNat zS).2.1,true):=by
  rw[hA,e2]
  cases decide (s<0)<;>rfl
 rw[hA]
 refine⟨fun h=>by rw[h];exact⟨rfl,rfl,trivial⟩,fun h=> ?_⟩
 rw[h] at e2 ⊢
 cases h1:decide (s<0) with
 |true=>rw[h1] at e2;cases e2
 |false=>
  rw[h1] at e2
  have h1:=of_decide_eq_false h1
  have h2:=of_decide_eq_false e2.symm
  exact⟨⟨by omega,by omega⟩,rfl,rfl,trivial⟩
theorem W1:aM Tryz.prog 197 Lb:=
 aM.bZ (l:=[]) (A:=fun _=>aq) aH trivial Tryz.func197 (by kernel_rfl) (by kernel_rfl) fun x hw hp=>ajH x.1 x.2.1
theorem v52 (n:(ab)×List ((Int×Int)×Int×Int)×List ((Int×Int)×Int)×List (Int×Int×Int)×List (Int×Int)):ai (ah ay []) Tryz.f52 c52 aq (n,())=(
(↑n.1.1.length:Int)=(↑n.1.1.length:Int)∧True):=by kernel_rfl
theorem ahl:aM Tryz.prog 52 c52:=
 aM.bZ (l:=[]) (A:=fun _=>aq) aH trivial Tryz.func52 (by kernel_rfl) (by kernel_rfl) fun x hw hp=>by
  obtain⟨n,u⟩:=x
  show ai (ah ay []) Tryz.f52 c52 aq (n,())
  rw[v52]
  exact⟨rfl,trivial⟩
theorem PJ {p:ab} (h:oI p=true):sw p=true∧bV p=0∧cS p:=by
 unfold oI at h
 rw[Bool.and_eq_true] at h
 refine⟨h.1,by simpa using h.2,fun l hl=> ?_⟩
 have h1:=h.1
 unfold sw at h1
 simp only[Bool.and_eq_true] at h1
 have:=List.all_eq_true.1 h1.2.2.2.2.1 l hl
 simp only[Bool.and_eq_true,decide_eq_true_eq] at this
 omega
abbrev lk:Ty:= .pair I I
abbrev cg:=Int×Int
def zT:cg:=(0,0)
abbrev T4:Ty:= .lD 201 (.pair (.ref I) .unit)
abbrev NZ:Ty:= .lD 204 .unit
def fj {α:Type} (p:α→Bool) (xs:List α):Int:=if xs.any p then((xs.findIdx p:Nat):Int) else -1
def tH {α:Type} (p:α→Bool) (xs:List α) (slot:Nat) (keep:List Nat):LA where
 σ:=Nat
 ok:=fun k=>k≤xs.length∧(xs.take k).any p=false
 mu:=fun k=>xs.length - k
 sl:=fun k=>[(slot,.one (.aC I (k:Int)))]
 bl:=fun _=>[]
 keep:=keep
 cy:=[]
def small (l:List cg):Prop:=l.length≤12∧∀t∈l, -1000≤t.1∧t.1≤1000
def oQ (l:List cg) (j:Nat):List cg:=(l.set (j+1) (l.getD j zT)).set j (l.getD (j+1) zT)
def n8:Nat→List cg→List cg
 |0,l=>l
 |j+1,l=>bif decide ((l.getD (j+1) zT).1 - (l.getD j zT).1<0) then n8 j (oQ l j) else l
def kF (l:List cg):Nat→List cg
 |0=>l
 |k+1=>n8 k (kF l k)
@[irreducible] def rI (l:List cg):List cg:=kF l l.length
def P6:bh where
 args:=[lk,.ref I]
 out:= .data [.bool]
 pre:=fun(x:cg×Int×Unit)=>True
 fn:=fun(x:cg×Int×Unit)=>(x.1.1==x.2.1,())
def Ae:bh where
 args:=[.list lk,T4]
 out:= .data [I]
 pre:=fun(x:List cg×(Int×Unit)×Unit)=>x.1.length≤1000
 fn:=fun(x:List cg×(Int×Unit)×Unit)=>(fj (fun t=>t.1==x.2.1.1) x.1,())
def LW (x:List cg×(Int×Unit)×Unit):eC:=bj [(2,fun _=>tH (fun t=>t.1==x.2.1.1) x.1 8 [0,1,7])]
def wS:bh where
 args:=[.list lk,T4]
 out:= .data [.bool]
 pre:=fun(x:List cg×(Int×Unit)×Unit)=>x.1.length≤1000
 fn:=fun(x:List cg×(Int×Unit)×Unit)=>(x.1.any (fun t=>t.1==x.2.1.1),())
def K7:bh where
 args:=[lk,lk]
 out:= .data [I]
 pre:=fun(x:cg×cg×Unit)=>(-1000≤x.1.1∧x.1.1≤1000)∧ -1000≤x.2.1.1∧x.2.1.1≤1000
 fn:=fun(x:cg×cg×Unit)=>(x.1.1 - x.2.1.1,())
def tM:fq where
 args:=[.row 195 lk,.aC I,.aC I,.aC NZ]
 outs:=[]
 pre:=fun(x:List cg×Int×Int×Unit×Unit)=>x.2.1=0∧x.2.2.1=(x.1.length:Int)∧small x.1
 fn:=fun _=>()
 fO:=fun(x:List cg×Int×Int×Unit×Unit)=>(rI x.1,x.2)
structure NY (l:List cg) (i j:Nat) (m:List cg):Prop where
 small:small m
 len:m.length=l.length
 le:j≤i
 lt:i<l.length
 same:n8 j m=n8 i l
def EH (x:List cg×Int×Int×Unit×Unit):eC:=bj [
 (1,fun _=>{
  σ:=Nat
  ok:=fun k=>k≤x.1.length - 1
  mu:=fun k=>x.1.length - k
  sl:=fun k=>[(8,.one (.aC I ((k:Int)+1)))]
  bl:=fun k=>[(1000000,.row false 195 lk (kF x.1 (k+1)))]
  keep:=[0,1,2,3]
  cy:=[]}),
 (4,fun S=>{
  σ:=Nat×List cg
  ok:=fun s=>NY (kF x.1 (dC S 8).toNat) (dC S 8).toNat s.1 s.2
  mu:=fun s=>s.1
  sl:=fun s=>[(9,.one (.aC I (s.1:Int)))]
  bl:=fun s=>[(1000000,.row false 195 lk s.2)]
  keep:=[0,1,2,3,8]
  cy:=[]})]
def tN:fq where
 args:=[.row 195 lk,.aC I,.aC I,.aC I,.aC NZ]
 outs:=[]
 pre:=fun(x:List cg×Int×Int×Int×Unit×Unit)=>x.2.1=0∧x.2.2.1=(x.1.length:Int)∧small x.1
 fn:=fun _=>()
 fO:=fun(x:List cg×Int×Int×Int×Unit×Unit)=>(rI x.1,x.2)
def EI (x:List cg×Int×Int×Int×Unit×Unit):eC:=bj [
 (2,fun _=>{
  σ:=Unit
  ok:=fun k=>True
  mu:=fun k=>0
  sl:=fun k=>[]
  bl:=fun k=>[]
  keep:=[0,1,2,3,4,10,11]
  cy:=[1000000]})]
def tO:fq where
 args:=[.row 195 lk,.aC NZ]
 outs:=[]
 pre:=fun(x:List cg×Unit×Unit)=>small x.1
 fn:=fun _=>()
 fO:=fun(x:List cg×Unit×Unit)=>(rI x.1,x.2)
def Nu (n:Int):Int:=[0,1,2,2,3,3,3,3,4,4,4,4,4].getD n.toNat 0
def IU:bh where
 args:=[.int .u64]
 out:= .data [I]
 pre:=fun(x:Int×Unit)=>x.1≤12
 fn:=fun(x:Int×Unit)=>(Nu x.1,())
def Ld:bh:=IU
def rq (n:aX) (out:List cg) (s:cv):List cg:=
 bif decide ((hU n s.1).1<0)||out.any (fun t=>t.1==(hU n s.1).1) then out else out++[((hU n s.1).1,uO n s.1 s.2.1)]
def fv (n:aX) (r:af):Nat→List cg
 |0=>[]
 |k+1=>rq n (fv n r k) (r.2.2.2.1.getD k iq)
@[irreducible] def dL (n:aX) (r:af):List cg:=rI (fv n r r.2.2.2.1.length)
def xt (n:aX):Prop:=∀x∈n.2.2.2.1,0≤x.2.1∧x.2.1≤9
def YC:bh where
 args:=[.ref jn,eP]
 out:= .data [.list lk]
 pre:=fun(x:aX×af×Unit)=>xt x.1∧x.2.1.2.2.2.1.length≤1000
 fn:=fun(x:aX×af×Unit)=>(dL x.1 x.2.1,())
def a124 (x:aX×af×Unit):eC:=bj [(3,fun _=>mN x.2.1.2.2.2.1.length 13 5 1000 195 lk (fv x.1 x.2.1) [0,3,11,12] [3])]
theorem Xr {n:Int} (h:bq .u64 n):0≤n∧n≤18446744073709551615:=by
 have h:IntKind.min .u64≤n∧n≤IntKind.max .u64:=h
 have e1:IntKind.min .u64=0:=by decide
 have e2:IntKind.max .u64=18446744073709551615:=by decide
 omega
theorem wrap_u64 {n:Int} (h1:0≤n) (h2:n<1000000000):IntKind.u64.wrap n=n:=IntWalk.u64_in _ (by omega)
theorem p6 {α:Type} {p:α→Bool} {xs:List α}:decide (fj p xs≥0)=xs.any p:=by
 unfold fj
 cases h:xs.any p<;>simp
theorem rJ {α:Type} {p:α→Bool} {xs:List α} {s:Nat} (d:α) (h:s<xs.length) (h0:(xs.take s).any p=false) (h1:p (xs.getD s d)=true):(s:Int)=fj p xs:=by
 rw[eA d h] at h1
 have ha:xs.any p=true:=List.any_eq_true.2 ⟨xs[s],List.getElem_mem h,h1⟩
 have hi:xs.findIdx p=s:=by
  rw[List.findIdx_eq h]
  refine⟨h1,fun j hj=> ?_⟩
  have:=List.any_eq_false.1 h0 xs[j] (by rw[List.mem_take_iff_getElem];exact⟨j,by omega,rfl⟩)
  simpa using this
 unfold fj
 rw[if_pos ha,hi]
theorem qn {α:Type} {p:α→Bool} {xs:List α} {s:Nat} (h:xs.length≤s) (h0:(xs.take s).any p=false): -1=fj p xs:=by
 rw[List.take_of_length_le h] at h0
 unfold fj
 rw[h0]
 rfl
theorem v201 (t:Int×Int) (l:Int):ai (ah ay []) Tryz.f201 P6 aq (t,l,())=(
(t.1==l)=(t.1==l)∧True):=by kernel_rfl
theorem acD:aM Tryz.prog 201 P6:=
 aM.bZ (l:=[]) (A:=fun _=>aq) aH trivial Tryz.func201 (by kernel_rfl) (by kernel_rfl) fun x _ _=>by
  obtain⟨t,l,u⟩:=x
  show ai (ah ay []) Tryz.f201 P6 aq (t,l,())
  rw[v201]
  exact⟨rfl,trivial⟩
theorem Ue (xs:List (Int×Int)) (l:Int×Unit):ai (ah ay [(201,P6)]) Tryz.f247 Ae (LW (xs,l,())) (xs,l,())=(
U (fj (fun(t:cg)=>t.1==l.1) xs) fun(y2:Int)=>
(∃(fD:Nat),
(fD≤xs.length∧((List.take fD xs).any fun(t:cg)=>t.1==l.1)=false)∧(↑fD:Int)=(0:Int)∧xs=xs∧l=l∧(↑xs.length:Int)=(↑xs.length:Int)∧True)∧
∀(s3:Nat),
U (decide ((↑s3:Int)<(↑xs.length:Int))) fun(y4:Bool)=>
U ((xs.getD (↑s3:Int).toNat ((0:Int),(0:Int))).1==l.1) fun(y5:Bool)=>
s3≤xs.length∧((List.take s3 xs).any fun(t:cg)=>t.1==l.1)=false→
(y4=true→
aQ (↑s3:Int) xs.length∧
True∧
(y5=true→(↑s3:Int)=y2∧True)∧
(y5=false→
bq IntKind.i64 ((↑s3:Int)+(1:Int))∧
∃(eR:Nat),
(eR≤xs.length∧((List.take eR xs).any fun(t:cg)=>t.1==l.1)=false)∧
xs.length - eR<xs.length - s3∧(↑eR:Int)=(↑s3:Int)+(1:Int)∧xs=xs∧l=l∧(↑xs.length:Int)=(↑xs.length:Int)∧True))∧
(y4=false→(-1:Int)=y2∧True)):=by kernel_rfl
theorem Rc:aM Tryz.prog 247 Ae:=
 aM.bZ (l:=[(201,P6)]) (A:=LW) aH ⟨acD,trivial⟩ Tryz.func247 (by kernel_rfl) (by kernel_rfl) fun x _ hp=>by
  obtain⟨xs,l,⟨⟩⟩:=x
  have hp:xs.length≤1000:=hp
  rw[Ue]
  refine U.mk fun y2 e2=> ?_
  simp only[true_and,and_true]
  refine⟨⟨0,⟨by omega,by simp⟩,rfl⟩,fun s=>U.mk fun y4 e4=>U.mk fun y5 e5=> ?_⟩
  rintro⟨h1,h2⟩
  rw[Int.toNat_natCast] at e5
  refine⟨fun hs=> ?_,fun hs=> ?_⟩
  ·have hs:=ba e4 hs
   refine⟨⟨by omega,by omega⟩,fun e=> ?_,fun e=>⟨bg (by omega) (by omega),s+1,⟨by omega,?_⟩,by omega,by omega⟩⟩
   ·rw[e2]
    exact rJ ((0:Int),(0:Int)) hs h2 (by rw[←e5];exact e)
   ·exact any_succ ((0:Int),(0:Int)) hs h2 (by rw[←e5];exact e)
  ·rw[e2]
   exact qn (s:=s) (br e4 hs) h2
theorem Uf (xs:List (Int×Int)) (l:Int×Unit):ai (ah ay [(2020247,Ae)]) Tryz.f200 wS aq (xs,l,())=(
U (fj (fun(t:cg)=>t.1==l.1) xs) fun(y2:Int)=>xs.length≤(1000:Nat)∧(decide (y2≥(0:Int))=xs.any fun(t:cg)=>t.1==l.1)∧True):=by kernel_rfl
theorem Re:aM Tryz.prog 200 wS:=
 aM.bZ (l:=[(2020247,Ae)]) (A:=fun _=>aq) aH ⟨Rc,trivial⟩ Tryz.func200 (by kernel_rfl) (by kernel_rfl) fun x _ hp=>by
  obtain⟨xs,l,⟨⟩⟩:=x
  rw[Uf]
  refine U.mk fun y2 e2=>⟨hp,?_,trivial⟩
  rw[e2]
  exact p6
theorem agc (s:Int×Int) (t:Int×Int):ai (ah ay []) Tryz.f204 K7 aq (s,t,())=(
bq IntKind.i64 (s.1 - t.1)∧s.1 - t.1=s.1 - t.1∧True):=by kernel_rfl
theorem ajD (s t:cg) (h1: -1000≤s.1∧s.1≤1000) (h2: -1000≤t.1∧t.1≤1000):ai (ah ay []) Tryz.f204 K7 aq (s,t,()):=by
 rw[agc]
 exact⟨bg (by omega) (by omega),rfl,trivial⟩
theorem acB:aM Tryz.prog 204 K7:=
 aM.bZ (l:=[]) (A:=fun _=>aq) aH trivial Tryz.func204 (by kernel_rfl) (by kernel_rfl) fun x _ hp=>ajD x.1 x.2.1 hp.1 hp.2
theorem zI (l:List cg) (j:Nat):(oQ l j).length=l.length:=by unfold oQ;simp
theorem zN {l:List cg} (h:small l) (k:Nat): -1000≤(l.getD k zT).1∧(l.getD k zT).1≤1000:=by
 by_cases hk:k<l.length
 ·exact h.2 _ (fw zT hk)
 ·have:l.getD k zT=zT:=by simp[List.getD_eq_getElem?_getD,List.getElem?_eq_none (Nat.le_of_not_lt hk)]
  rw[this]
  decide
theorem EY {l:List cg} (h:small l) (j:Nat):small (oQ l j):=by
 refine⟨by rw[zI];exact h.1,fun t ht=> ?_⟩
 unfold oQ at ht
 rcases List.mem_or_eq_of_mem_set ht with ht|rfl
 ·rcases List.mem_or_eq_of_mem_set ht with ht|rfl
  ·exact h.2 t ht
  ·exact zN h _
 ·exact zN h _
theorem Pb:∀(j:Nat) (l:List cg),(n8 j l).length=l.length
 |0,_=>rfl
 |j+1,l=>by
  unfold n8
  cases decide ((l.getD (j+1) zT).1 - (l.getD j zT).1<0) with
  |true=>rw[cond_true,Pb j,zI]
  |false=>rw[cond_false]
theorem G4:∀(j:Nat) {l:List cg},small l→small (n8 j l)
 |0,_,h=>h
 |j+1,l,h=>by
  unfold n8
  cases decide ((l.getD (j+1) zT).1 - (l.getD j zT).1<0) with
  |true=>rw[cond_true];exact G4 j (EY h j)
  |false=>rw[cond_false];exact h
theorem Cf (l:List cg):∀(k:Nat),(kF l k).length=l.length
 |0=>rfl
 |k+1=>by show(n8 k (kF l k)).length=_;rw[Pb,Cf l k]
theorem JW {l:List cg} (h:small l):∀(k:Nat),small (kF l k)
 |0=>h
 |k+1=>G4 k (JW h k)
theorem Ub (l:List (Int×Int)) (a:Int) (b:Int) (u:Unit):bN (ah ay [(204,K7)]) Tryz.f262 tM (EH (l,a,b,u,())) (l,a,b,u,())=(
bq IntKind.i64 (a+(1:Int))∧
(∃(wg:Nat),wg≤l.length - (1:Nat)∧(↑wg:Int)+(1:Int)=a+(1:Int)∧a=a∧b=b∧u=u∧kF l (wg+(1:Nat))=l∧True)∧
∀(s4:Nat),
U (decide ((↑s4:Int)+(1:Int)<b)) fun(y5:Bool)=>
U ((↑s4:Int)+(1:Int)+(1:Int)) fun(y6:Int)=>
s4≤l.length - (1:Nat)→
(y5=true→
(∃(kZ:Nat×List cg),
NY (kF l ((↑s4:Int)+(1:Int)).toNat) ((↑s4:Int)+(1:Int)).toNat kZ.1 kZ.2∧
(↑kZ.1:Int)=(↑s4:Int)+(1:Int)∧a=a∧b=b∧u=u∧(↑s4:Int)+(1:Int)=(↑s4:Int)+(1:Int)∧kZ.2=kF l (s4+(1:Nat))∧True)∧
∀(s7:Nat×List cg),
U (decide ((↑s7.1:Int)>a)) fun(y8:Bool)=>
U (s7.2.getD (↑s7.1:Int).toNat ((0:Int),(0:Int))) fun(y9:Int×Int)=>
U (s7.2.getD ((↑s7.1:Int) - (1:Int)).toNat ((0:Int),(0:Int))) fun(bp:Int×Int)=>
U (bif y8 then decide (y9.1 - bp.1<(0:Int)) else false) fun(bI:Bool)=>
U (s7.2.set (↑s7.1:Int).toNat bp) fun(aw:List (Int×Int))=>
NY (kF l ((↑s4:Int)+(1:Int)).toNat) ((↑s4:Int)+(1:Int)).toNat s7.1 s7.2→
(y8=true→aQ (↑s7.1:Int) s7.2.length)∧
(y8=true→bq IntKind.i64 ((↑s7.1:Int) - (1:Int)))∧
(y8=true→aQ ((↑s7.1:Int) - (1:Int)) s7.2.length)∧
(y8=true→((-1000:Int)≤y9.1∧y9.1≤(1000:Int))∧(-1000:Int)≤bp.1∧bp.1≤(1000:Int))∧
(bI=true→
bq IntKind.i64 ((↑s7.1:Int) - (1:Int))∧
bq IntKind.i64 ((↑s7.1:Int) - (1:Int))∧
aQ ((↑s7.1:Int) - (1:Int)) s7.2.length∧
aQ (↑s7.1:Int) s7.2.length∧
aQ (↑s7.1:Int) s7.2.length∧
aQ ((↑s7.1:Int) - (1:Int)) aw.length∧
bq IntKind.i64 ((↑s7.1:Int) - (1:Int))∧
∃(fN:Nat×List cg),
NY (kF l ((↑s4:Int)+(1:Int)).toNat) ((↑s4:Int)+(1:Int)).toNat fN.1 fN.2∧
fN.1<s7.1∧
(↑fN.1:Int)=(↑s7.1:Int) - (1:Int)∧
a=a∧
b=b∧
u=u∧(↑s4:Int)+(1:Int)=(↑s4:Int)+(1:Int)∧fN.2=aw.set ((↑s7.1:Int) - (1:Int)).toNat y9∧True)∧
(bI=false→
bq IntKind.i64 y6∧
∃(fN:Nat),
fN≤l.length - (1:Nat)∧
l.length - fN<l.length - s4∧(↑fN:Int)+(1:Int)=y6∧a=a∧b=b∧u=u∧kF l (fN+(1:Nat))=s7.2∧True))∧
(y5=false→kF l (s4+(1:Nat))=rI l∧True)):=by kernel_rfl
theorem V5 (l:List cg) (a b:Int) (h1:a=0) (h2:b=(l.length:Int)) (hs:small l):bN (ah ay [(204,K7)]) Tryz.f262 tM (EH (l,a,b,(),())) (l,a,b,(),()):=by
 subst h1 h2
 have hl:=hs.1
 rw[Ub]
 simp only[true_and,and_true,eq_self,Int.toNat_natCast]
 refine⟨bg (by omega) (by omega),⟨0,by omega,by omega,rfl⟩,fun k=>U.mk fun y5 e5=>U.mk fun y6 e6=>fun hk=>⟨fun h=> ?_,fun h=> ?_⟩⟩
 ·have h5:(k:Int)+1<(l.length:Int):=by rw[h] at e5;exact of_decide_eq_true e5.symm
  have hn:((k:Int)+1).toNat=k+1:=by omega
  rw[hn]
  refine⟨⟨(k+1,kF l (k+1)),⟨JW hs _,rfl,by omega,by rw[Cf];omega,rfl⟩,by omega,rfl⟩,fun s=>U.mk fun y8 e8=>U.mk fun y9 e9=>U.mk fun bp du=>U.mk fun bI eH=>U.mk fun aw dM=>fun ho=> ?_⟩
  obtain⟨j,m⟩:=s
  obtain⟨i1,i2,i3,i4,i5⟩:=ho
  have i1:small m:=i1
  have i2:m.length=(kF l (k+1)).length:=i2
  have i3:j≤k+1:=i3
  have i5:n8 j m=n8 (k+1) (kF l (k+1)):=i5
  have i2':m.length=l.length:=by rw[i2,Cf]
  have i4':k+1<l.length:=by omega
  have e8:y8=decide ((j:Int)>0):=e8
  have e9:y9=m.getD j zT:=e9
  have du:bp=m.getD ((j:Int) - 1).toNat zT:=du
  have dM:aw=m.set j bp:=dM
  have g9:=zN i1 j
  have g10:=zN i1 ((j:Int) - 1).toNat
  rw[←e9] at g9
  rw[←du] at g10
  show(y8=true→aQ (j:Int) m.length)∧(y8=true→bq IntKind.i64 ((j:Int) - 1))∧(y8=true→aQ ((j:Int) - 1) m.length)∧_∧_∧_
  refine⟨fun h8=>⟨by omega,by omega⟩,fun h8=>bg (by omega) (by omega),fun h8=> ?_,fun h8=>⟨g9,g10⟩,fun mC=> ?_,fun mC=> ?_⟩
  ·rw[h8] at e8
   have:=of_decide_eq_true e8.symm
   exact⟨by omega,by omega⟩
  ·rw[eH] at mC
   cases h8:y8 with
   |false=>rw[h8] at mC;cases mC
   |true=>
    rw[h8] at mC e8
    have mC:=of_decide_eq_true mC
    have h8:=of_decide_eq_true e8.symm
    obtain⟨j',rfl⟩:∃j',j=j'+1:=⟨j - 1,by omega⟩
    have hj:(((j'+1:Nat):Int) - 1).toNat=j':=by omega
    rw[hj] at du
    have hlen:aw.length=m.length:=by rw[dM,List.length_set]
    show bq IntKind.i64 (((j'+1:Nat):Int) - 1)∧_
    refine⟨bg (by omega) (by omega),bg (by omega) (by omega),⟨by show(0:Int)≤((j'+1:Nat):Int) - 1;omega,by show((j'+1:Nat):Int) - 1<(m.length:Int);omega⟩,⟨by show(0:Int)≤((j'+1:Nat):Int);omega,by show((j'+1:Nat):Int)<(m.length:Int);omega⟩,⟨by show(0:Int)≤((j'+1:Nat):Int);omega,by show((j'+1:Nat):Int)<(m.length:Int);omega⟩,⟨by show(0:Int)≤((j'+1:Nat):Int) - 1;omega,by show((j'+1:Nat):Int) - 1<(aw.length:Int);omega⟩,bg (by omega) (by omega),(j',oQ m j'),⟨EY i1 _,?_,?_,?_,?_⟩,?_,?_,?_⟩
    ·show(oQ m j').length=_;rw[zI];exact i2
    ·show j'≤_;omega
    ·rw[Cf];omega
    ·show n8 j' (oQ m j')=_
     rw[←i5]
     show _=n8 (j'+1) m
     conv=>rhs;unfold n8
     rw[←e9,←du,decide_eq_true mC]
     rfl
    ·show j'<j'+1;omega
    ·show(j':Int)=((j'+1:Nat):Int) - 1;omega
    ·show oQ m j'=aw.set (((j'+1:Nat):Int) - 1).toNat y9
     rw[hj,dM,e9,du]
     rfl
  ·refine⟨by rw[e6];exact bg (by omega) (by omega),k+1,by omega,by omega,by rw[e6];omega,?_⟩
   show n8 (k+1) (kF l (k+1))=m
   rw[←i5]
   cases j with
   |zero=>rfl
   |succ j'=>
    have hj:(((j'+1:Nat):Int) - 1).toNat=j':=by omega
    rw[hj] at du
    have h8:y8=true:=by rw[e8];exact decide_eq_true (by omega)
    rw[h8] at eH
    rw[mC] at eH
    unfold n8
    rw[←e9,←du]
    rw[cond_true] at eH
    rw[←eH]
    rfl
 ·have h5:¬(k:Int)+1<(l.length:Int):=by rw[h] at e5;exact of_decide_eq_false e5.symm
  unfold rI
  by_cases h0:l.length=0
  ·have hk:k=0:=by omega
   rw[h0,hk]
   rfl
  ·have:k+1=l.length:=by omega
   rw[this]
theorem Q8:ew Tryz.prog 262 tM:=
 ew.bZ (l:=[(204,K7)]) (A:=EH) aH ⟨acB,trivial⟩ Tryz.func262 (by kernel_rfl) (by kernel_rfl) fun x hw hp=>V5 x.1 x.2.1 x.2.2.1 hp.1 hp.2.1 hp.2.2
theorem Uc (l:List (Int×Int)) (a:Int) (b:Int) (m:Int) (u:Unit):bN (ah ay [(2050262,tM)]) Tryz.f248 tN (EI (l,a,b,m,u,())) (l,a,b,m,u,())=(
U (decide (b - a≤(12:Int))) fun(y5:Bool)=>
(∃(lx:Unit),True∧a=a∧b=b∧m=m∧u=u∧true=true∧true=true∧l=l∧True)∧
∀(s6:Unit),
True→
bq IntKind.i64 (b - a)∧
(y5=true→(a=(0:Int)∧b=(↑l.length:Int)∧small l)∧rI l=rI l∧True)∧
(y5=false→((m==(0:Int))=true→False)∧((m==(0:Int))=false→((!true)=true→False)∧((!true)=false→False)))):=by kernel_rfl
theorem V6 (l:List cg) (a b m:Int) (h1:a=0) (h2:b=(l.length:Int)) (h3:small l):bN (ah ay [(2050262,tM)]) Tryz.f248 tN (EI (l,a,b,m,(),())) (l,a,b,m,(),()):=by
 subst h1 h2
 have hl:=h3.1
 rw[Uc]
 refine U.mk fun y5 e5=> ?_
 have h5:y5=true:=by rw[e5];exact decide_eq_true (by omega)
 simp only[true_and,and_true,eq_self]
 exact⟨⟨(),trivial⟩,fun _ _=>⟨bg (by omega) (by omega),fun _=>h3,fun h=>by rw[h5] at h;cases h⟩⟩
theorem Q9:ew Tryz.prog 248 tN:=
 ew.bZ (l:=[(2050262,tM)]) (A:=EI) aH ⟨Q8,trivial⟩ Tryz.func248 (by kernel_rfl) (by kernel_rfl) fun x hw hp=>V6 x.1 x.2.1 x.2.2.1 x.2.2.2.1 hp.1 hp.2.1 hp.2.2
theorem v194 (n:Int):ai (ah ay []) Tryz.f194 Ld aq (n,())=(
U (bif decide (n≥(4294967296:Int)) then n.fdiv ((2:Int) ^ min (Int.toNat (32:Int)) IntKind.u64.bits) else n) fun(y1:Int)=>
U (bif decide (n≥(4294967296:Int)) then(32:Int) else(0:Int)) fun(y2:Int)=>
U (bif decide (y1≥(65536:Int)) then y1.fdiv ((2:Int) ^ min (Int.toNat (16:Int)) IntKind.u64.bits) else y1) fun(y3:Int)=>
U (bif decide (y1≥(65536:Int)) then y2+(16:Int) else y2) fun(y4:Int)=>
U (IntKind.u8.wrap (bif decide (y3≥(256:Int)) then y3.fdiv ((2:Int) ^ min (Int.toNat (8:Int)) IntKind.u64.bits) else y3)) fun(y5:Int)=>
U
[(8:UInt8),(8:UInt8),(8:UInt8),(8:UInt8),(8:UInt8),(8:UInt8),(8:UInt8),(8:UInt8),(8:UInt8),(8:UInt8),(8:UInt8),(8:UInt8),(8:UInt8),(8:UInt8),
(8:UInt8),(8:UInt8),(8:UInt8),(8:UInt8),(8:UInt8),(8:UInt8),(8:UInt8),(8:UInt8),(8:UInt8),(8:UInt8),(8:UInt8),(8:UInt8),(8:UInt8),(8:UInt8),
(8:UInt8),(8:UInt8),(8:UInt8),(8:UInt8),(8:UInt8),(8:UInt8),(8:UInt8),(8:UInt8),(8:UInt8),(8:UInt8),(8:UInt8),(8:UInt8),(8:UInt8),(8:UInt8),
(8:UInt8),(8:UInt8),(8:UInt8),(8:UInt8),(8:UInt8),(8:UInt8),(8:UInt8),(8:UInt8),(8:UInt8),(8:UInt8),(8:UInt8),(8:UInt8),(8:UInt8),(8:UInt8),
(8:UInt8),(8:UInt8),(8:UInt8),(8:UInt8),(8:UInt8),(8:UInt8),(8:UInt8),(8:UInt8)]
fun(y6:List UInt8)=>
U
(([(0:UInt8),(1:UInt8),(2:UInt8),(2:UInt8),(3:UInt8),(3:UInt8),(3:UInt8),(3:UInt8),(4:UInt8),(4:UInt8),(4:UInt8),(4:UInt8),(4:UInt8),(4:UInt8),
(4:UInt8),(4:UInt8),(5:UInt8),(5:UInt8),(5:UInt8),(5:UInt8),(5:UInt8),(5:UInt8),(5:UInt8),(5:UInt8),(5:UInt8),(5:UInt8),(5:UInt8),
(5:UInt8),(5:UInt8),(5:UInt8),(5:UInt8),(5:UInt8),(6:UInt8),(6:UInt8),(6:UInt8),(6:UInt8),(6:UInt8),(6:UInt8),(6:UInt8),(6:UInt8),
(6:UInt8),(6:UInt8),(6:UInt8),(6:UInt8),(6:UInt8),(6:UInt8),(6:UInt8),(6:UInt8),(6:UInt8),(6:UInt8),(6:UInt8),(6:UInt8),(6:UInt8),
(6:UInt8),(6:UInt8),(6:UInt8),(6:UInt8),(6:UInt8),(6:UInt8),(6:UInt8),(6:UInt8),(6:UInt8),(6:UInt8),(6:UInt8)].append
[(7:UInt8),(7:UInt8),(7:UInt8),(7:UInt8),(7:UInt8),(7:UInt8),(7:UInt8),(7:UInt8),(7:UInt8),(7:UInt8),(7:UInt8),(7:UInt8),(7:UInt8),
(7:UInt8),(7:UInt8),(7:UInt8),(7:UInt8),(7:UInt8),(7:UInt8),(7:UInt8),(7:UInt8),(7:UInt8),(7:UInt8),(7:UInt8),(7:UInt8),(7:UInt8),
(7:UInt8),(7:UInt8),(7:UInt8),(7:UInt8),(7:UInt8),(7:UInt8),(7:UInt8),(7:UInt8),(7:UInt8),(7:UInt8),(7:UInt8),(7:UInt8),(7:UInt8),
(7:UInt8),(7:UInt8),(7:UInt8),(7:UInt8),(7:UInt8),(7:UInt8),(7:UInt8),(7:UInt8),(7:UInt8),(7:UInt8),(7:UInt8),(7:UInt8),(7:UInt8),
(7:UInt8),(7:UInt8),(7:UInt8),(7:UInt8),(7:UInt8),(7:UInt8),(7:UInt8),(7:UInt8),(7:UInt8),(7:UInt8),(7:UInt8),(7:UInt8)]).append
(y6.append y6))
fun(y7:List UInt8)=>
U ((bif decide (y3≥(256:Int)) then y4+(8:Int) else y4)+(↑(y7.getD y5.toNat (0:UInt8)).toNat:Int)) fun(y8:Int)=>
(decide (n≥(4294967296:Int))=true→(0:Int)≤(32:Int))∧
(decide (y1≥(65536:Int))=true→(0:Int)≤(16:Int))∧
(decide (y1≥(65536:Int))=true→bq IntKind.i64 (y2+(16:Int)))∧
(decide (y3≥(256:Int))=true→(0:Int)≤(8:Int))∧
(decide (y3≥(256:Int))=true→bq IntKind.i64 (y4+(8:Int)))∧aQ y5 y7.length∧bq IntKind.i64 y8∧y8=Nu n∧True):=by kernel_rfl
theorem ajJ (n:Int) (h0:0≤n) (hp:n≤12):ai (ah ay []) Tryz.f194 Ld aq (n,()):=by
 rw[v194]
 have hn:n=0∨n=1∨n=2∨n=3∨n=4∨n=5∨n=6∨n=7∨n=8∨n=9∨n=10∨n=11∨n=12:=by omega
 rcases hn with rfl|rfl|rfl|rfl|rfl|rfl|rfl|rfl|rfl|rfl|rfl|rfl|rfl<;>
 exact And.intro (fun h=>absurd h (by decide)) (And.intro (fun h=>absurd h (by decide)) (And.intro (fun h=>absurd h (by decide)) (And.intro (fun h=>absurd h (by decide)) (And.intro (fun h=>absurd h (by decide)) (And.intro (And.intro (by decide) (by decide)) (And.intro (bg (by decide) (by decide)) (And.intro (by decide) trivial)))))))
theorem acH:aM Tryz.prog 194 Ld:=
 aM.bZ (l:=[]) (A:=fun _=>aq) aH trivial Tryz.func194 (by kernel_rfl) (by kernel_rfl) fun x hw hp=>ajJ x.1 (Xr hw.1).1 hp
theorem agO (n:Int):ai (ah ay [(194,Ld)]) Tryz.f113 IU aq (n,())=(
(false=true→False)∧(false=false→n≤(12:Int)∧Nu n=Nu n∧True)):=by kernel_rfl
theorem aka (n:Int) (hp:n≤12):ai (ah ay [(194,Ld)]) Tryz.f113 IU aq (n,()):=by
 rw[agO]
 exact And.intro (fun h=>Bool.noConfusion h) (fun _=>⟨hp,rfl,trivial⟩)
theorem ads:aM Tryz.prog 113 IU:=
 aM.bZ (l:=[(194,Ld)]) (A:=fun _=>aq) aH ⟨acH,trivial⟩ Tryz.func113 (by kernel_rfl) (by kernel_rfl) fun x hw hp=>aka x.1 hp
theorem Ud (l:List (Int×Int)) (u:Unit):bN (ah ay [(2050248,tN),(113,IU)]) Tryz.f203 tO aq (l,u,())=(
IntKind.u64.wrap (↑l.length:Int)≤(12:Int)∧((0:Int)=(0:Int)∧(↑l.length:Int)=(↑l.length:Int)∧small l)∧rI l=rI l∧True):=by kernel_rfl
theorem V7 (l:List cg) (h3:small l):bN (ah ay [(2050248,tN),(113,IU)]) Tryz.f203 tO aq (l,(),()):=by
 have hl:=h3.1
 rw[Ud]
 refine⟨?_,⟨rfl,rfl,h3⟩,rfl,trivial⟩
 have:IntKind.u64.wrap (l.length:Int)=(l.length:Int):=wrap_u64 (by omega) (by omega)
 omega
theorem Ra:ew Tryz.prog 203 tO:=
 ew.bZ (l:=[(2050248,tN),(113,IU)]) (A:=fun _=>aq) aH ⟨Q9,ads,trivial⟩ Tryz.func203 (by kernel_rfl) (by kernel_rfl) fun x hw hp=>V7 x.1 hp
theorem Vl {n:aX} (h:xt n) (e:Int):(hU n e).1<0∨(0≤(hU n e).1∧(hU n e).1≤9):=by
 unfold hU
 cases hm:aT I n.2.2.2.1 e with
 |none=>exact .inl (by decide)
 |some x=>exact .inr (h _ (fI td hm))
structure zB (l:List cg):Prop where
 nodup:(l.map Prod.fst).Nodup
 inn:∀t∈l,0≤t.1∧t.1≤9
theorem N7 {n:aX} (h:xt n) {l:List cg} (hl:zB l) (s:cv):zB (rq n l s):=by
 unfold rq
 cases h1:decide ((hU n s.1).1<0) with
 |true=>exact hl
 |false=>
  cases h2:l.any (fun t=>t.1==(hU n s.1).1) with
  |true=>exact hl
  |false=>
   refine⟨?_,fun t ht=> ?_⟩
   ·show((l++[_]).map Prod.fst).Nodup
    rw[List.map_append,List.nodup_append]
    refine⟨hl.nodup,by simp,fun a ha b hb he=> ?_⟩
    have hb:b=(hU n s.1).1:=by simpa using hb
    obtain⟨t,ht,rfl⟩:=List.mem_map.1 ha
    have:=List.any_eq_false.1 h2 t ht
    rw[he,hb] at this
    simp at this
   ·rcases List.mem_append.1 (show t∈l++[_] from ht) with ht|ht
    ·exact hl.inn t ht
    ·rw[List.mem_singleton.1 ht]
     rcases Vl h s.1 with h|h
     ·exact absurd h (of_decide_eq_false h1)
     ·exact h
theorem zH {n:aX} (h:xt n) (r:af):∀k,zB (fv n r k)
 |0=>⟨List.nodup_nil,fun t ht=>absurd ht (List.not_mem_nil)⟩
 |k+1=>N7 h (zH h r k) _
theorem A8 {l:List cg} (h:zB l):l.length≤10:=by
 have:=pX (l:=l.map Prod.fst) (m:=[0,1,2,3,4,5,6,7,8,9]) h.nodup (fun x hx=>by
  obtain⟨t,ht,rfl⟩:=List.mem_map.1 hx
  have:=h.inn t ht
  have:t.1=0∨t.1=1∨t.1=2∨t.1=3∨t.1=4∨t.1=5∨t.1=6∨t.1=7∨t.1=8∨t.1=9:=by omega
  simp only[List.mem_cons,List.not_mem_nil,or_false]
  exact this)
 rw[List.length_map] at this
 exact this
theorem L3 {l:List cg} (h:zB l):small l:=⟨by have:=A8 h;omega,fun t ht=>by have:=h.inn t ht;omega⟩
theorem v124 (n:aX) (r:af):ai (ah ay [(199,K9),(202,K8),(2020200,wS),(2050203,tO)] [] [(201,.pair (.ref I) .unit),(204,.unit)]) Tryz.f124 YC (a124 (n,r,())) (n,r,())=(
(∃(dp:Nat),
dp≤r.2.2.2.1.length∧
(↑dp:Int)=(0:Int)∧
[n]=[n]∧
(0:Nat)=(0:Nat)∧
r.2.2.2.1=r.2.2.2.1∧
(↑r.2.2.2.1.length:Int)=(↑r.2.2.2.1.length:Int)∧
fv n r dp=[]∧
aE r (True))∧
∀(s2:Nat),
U (decide ((↑s2:Int)<(↑r.2.2.2.1.length:Int))) fun(y3:Bool)=>
U (r.2.2.2.1.getD (↑s2:Int).toNat ((0:Int),(0:Int),(0:Int))) fun(y4:Int×Int×Int)=>
U (decide ((hU n y4.1).1<(0:Int))) fun(y5:Bool)=>
U ((fv n r s2).any fun(t:cg)=>t.1==(hU n y4.1).1) fun(y6:Bool)=>
U (uO n y4.1 y4.2.1) fun(y7:Int)=>
U ((List.replicate (1:Nat) ((0:Int),(0:Int))).set (0:Nat) ((hU n y4.1).1,y7)) fun(y8:List (Int×Int))=>
U ((List.replicate (1:Nat) ((0:Int),(0:Int))).set (0:Nat) ((hU n y4.1).1,y7)) fun(y9:List (Int×Int))=>
s2≤r.2.2.2.1.length→
(y3=true→
aQ (↑s2:Int) r.2.2.2.1.length∧
True∧
(y5=false→
(fv n r s2).length≤(1000:Nat)∧
(y6=true→
bq IntKind.i64 ((↑s2:Int)+(1:Int))∧
∃(cU:Nat),
cU≤r.2.2.2.1.length∧
r.2.2.2.1.length - cU<r.2.2.2.1.length - s2∧
(↑cU:Int)=(↑s2:Int)+(1:Int)∧
[n]=[n]∧
(0:Nat)=(0:Nat)∧
r.2.2.2.1=r.2.2.2.1∧
(↑r.2.2.2.1.length:Int)=(↑r.2.2.2.1.length:Int)∧
fv n r cU=fv n r s2∧
aE r (True))∧
(y6=false→
True∧
roomFor ((fv n r s2).length+y8.length) (16:Nat)∧
bq IntKind.i64 ((↑s2:Int)+(1:Int))∧
∃(cU:Nat),
cU≤r.2.2.2.1.length∧
r.2.2.2.1.length - cU<r.2.2.2.1.length - s2∧
(↑cU:Int)=(↑s2:Int)+(1:Int)∧
[n]=[n]∧
(0:Nat)=(0:Nat)∧
r.2.2.2.1=r.2.2.2.1∧
(↑r.2.2.2.1.length:Int)=(↑r.2.2.2.1.length:Int)∧
fv n r cU=fv n r s2++y8∧
aE r (True)))∧
(y5= !false→
(true=true→
bq IntKind.i64 ((↑s2:Int)+(1:Int))∧
∃(cU:Nat),
cU≤r.2.2.2.1.length∧
r.2.2.2.1.length - cU<r.2.2.2.1.length - s2∧
(↑cU:Int)=(↑s2:Int)+(1:Int)∧
[n]=[n]∧
(0:Nat)=(0:Nat)∧
r.2.2.2.1=r.2.2.2.1∧
(↑r.2.2.2.1.length:Int)=(↑r.2.2.2.1.length:Int)∧
fv n r cU=fv n r s2∧
aE r (True))∧
(true=false→
True∧
roomFor ((fv n r s2).length+y9.length) (16:Nat)∧
bq IntKind.i64 ((↑s2:Int)+(1:Int))∧
∃(cU:Nat),
cU≤r.2.2.2.1.length∧
r.2.2.2.1.length - cU<r.2.2.2.1.length - s2∧
(↑cU:Int)=(↑s2:Int)+(1:Int)∧
[n]=[n]∧
(0:Nat)=(0:Nat)∧
r.2.2.2.1=r.2.2.2.1∧
(↑r.2.2.2.1.length:Int)=(↑r.2.2.2.1.length:Int)∧
fv n r cU=fv n r s2++y9∧
aE r (True))))∧
(y3=false→small (fv n r s2)∧rI (fv n r s2)=dL n r∧True)):=by kernel_rfl
theorem aj3 (n:aX) (r:af) (hl:xt n) (hr:r.2.2.2.1.length≤1000):ai (ah ay [(199,K9),(202,K8),(2020200,wS),(2050203,tO)] [] [(201,.pair (.ref I) .unit),(204,.unit)]) Tryz.f124 YC (a124 (n,r,())) (n,r,()):=by
 rw[v124]
 simp only[dz,true_and,and_true,eq_self]
 refine⟨⟨0,by omega,by omega,rfl⟩,fun s=>U.mk fun y3 e3=>U.mk fun y4 e4=>U.mk fun y5 e5=>U.mk fun y6 e6=>U.mk fun y7 e7=>U.mk fun y8 e8=>U.mk fun y9 e9=>fun hs=>⟨fun h=> ?_,fun h=> ?_⟩⟩
 ·have nC:=ba e3 h
  rw[Int.toNat_natCast] at e4
  have hw:fv n r (s+1)=rq n (fv n r s) y4:=by rw[e4];rfl
  have hq:rq n (fv n r s) y4=bif y5||y6 then fv n r s else fv n r s++y8:=by rw[e5,e6,e8,e7];rfl
  have jF:=A8 (zH hl r s)
  refine⟨⟨by omega,by omega⟩,fun h5=>⟨by omega,fun h6=>⟨bg (by omega) (by omega),s+1,by omega,by omega,by omega,?_⟩,fun h6=>⟨c6 (by rw[e8];show _+1≤_;omega) (by omega),bg (by omega) (by omega),s+1,by omega,by omega,by omega,?_⟩⟩,fun h5=>⟨fun _=>⟨bg (by omega) (by omega),s+1,by omega,by omega,by omega,?_⟩,fun h=>Bool.noConfusion h⟩⟩
  ·rw[hw,hq,h5,h6];rfl
  ·rw[hw,hq,h5,h6];rfl
  ·rw[hw,hq,h5];rfl
 ·have nC:=br e3 h
  have:s=r.2.2.2.1.length:=by omega
  subst this
  refine⟨L3 (zH hl r _),?_⟩
  unfold dL
  rfl
theorem adk:aM Tryz.prog 124 YC:=
 aM.bZ (l:=[(199,K9),(202,K8),(2020200,wS),(2050203,tO)]) (wraps:=[]) (clos:=[(201,.pair (.ref I) .unit),(204,.unit)]) (A:=a124) aH ⟨W0,acC,Re,Ra,trivial⟩ Tryz.func124 (by kernel_rfl) (by kernel_rfl) fun x hw hp=>aj3 x.1 x.2.1 hp.1 hp.2
theorem KD {p:ab} {l:List Int} {o:Int}:∀k,(ed p l o k).2.2=true→(ed p l o k).1.length=k+1
 |0,_=>rfl
 |k+1,h=>by
  have h0:(ed p l o k).2.2=true:=by
   cases h0:(ed p l o k).2.2 with
   |true=>rfl
   |false=>rw[xH h0 (k+1) (by omega)] at h;cases h
  have ih:=KD k h0
  unfold ed at h ⊢
  cases hb:((ed p l o k).2.2&&((n9 p l k (ed p l o k).2.1).2&&(n9 p l k (ed p l o k).2.1).1.1==l.getD (k+1) 0)) with
  |true=>
   show(_++[_]).length=_
   rw[List.length_append,ih]
   rfl
  |false=>rw[hb] at h;cases h
theorem MF {p:ab} (h:fK p=true) {s:Nat} (hs:s<p.2.2.2.1.length):(eB p (p.2.2.2.1.getD s zL).2).2=true:=by
 unfold fK at h
 have:=gv.1 h s hs
 unfold jd at this
 rw[Bool.and_eq_true] at this
 exact this.2
def Tc (l:List cg) (i:Nat):Int:=(l.getD i zT).1
theorem swap_perm:∀(j:Nat) (l:List cg),j+1<l.length→(oQ l j).Perm l
 |_,[],h=>by simp at h
 |0,[x],h=>by simp at h
 |0,x::y::l,_=>by show(y::x::l).Perm _;exact .swap x y l
 |j+1,x::l,h=>by
  have:=swap_perm j l (by simp at h;omega)
  have e:oQ (x::l) (j+1)=x::oQ l j:=by unfold oQ;simp
  rw[e]
  exact this.cons x
theorem Km:∀(j:Nat) (l:List cg),j<l.length→(n8 j l).Perm l
 |0,l,_=> .refl l
 |j+1,l,h=>by
  unfold n8
  cases decide ((l.getD (j+1) zT).1 - (l.getD j zT).1<0) with
  |true=>rw[cond_true];exact(Km j _ (by rw[zI];omega)).trans (swap_perm j l h)
  |false=>exact .refl l
theorem N9 (l:List cg):∀(k:Nat),k≤l.length→(kF l k).Perm l
 |0,_=> .refl l
 |k+1,h=>(Km k _ (by rw[Cf];omega)).trans (N9 l k (by omega))
theorem G3 (l:List cg):(rI l).Perm l:=by
 unfold rI
 exact N9 l _ (Nat.le_refl _)
structure aky (l:List cg) (j K:Nat):Prop where
 rest:∀a b,a<b→b<K→a≠j→b≠j→Tc l a≤Tc l b
 lt:∀b,j<b→b<K→Tc l j<Tc l b
theorem mem_row {i:Int} {l:List Int} {x:Int×Int×Int}:∀{n:Nat},x∈lb i l n↔∃k,k<n∧x=(l.getD k 0,i,(k:Int))
 |0=>⟨fun h=>absurd h List.not_mem_nil,fun⟨k,h,_⟩=>absurd h (by omega)⟩
 |n+1=>by
  show x∈lb i l n++[(l.getD n 0,i,(n:Int))]↔_
  rw[List.mem_append,mem_row (n:=n),List.mem_singleton]
  constructor
  ·rintro(⟨k,hk,e⟩|e)
   ·exact⟨k,by omega,e⟩
   ·exact⟨n,by omega,e⟩
  ·rintro⟨k,hk,e⟩
   by_cases h:k=n
   ·subst h;exact .inr e
   ·exact .inl ⟨k,by omega,e⟩
theorem HD {p:ab} {x:Int×Int×Int}:∀{n:Nat},x∈iE p n↔∃s k:Nat,s<n∧k<(p.2.2.2.1.getD s zL).2.length∧x=((p.2.2.2.1.getD s zL).2.getD k 0,(s:Int),(k:Int))
 |0=>⟨fun h=>absurd h List.not_mem_nil,fun⟨s,k,h,_⟩=>absurd h (by omega)⟩
 |n+1=>by
  show x∈iE p n++lb (n:Int) (p.2.2.2.1.getD n zL).2 (p.2.2.2.1.getD n zL).2.length↔_
  rw[List.mem_append,HD (n:=n),mem_row]
  constructor
  ·rintro(⟨s,k,hs,hk,e⟩|⟨k,hk,e⟩)
   ·exact⟨s,k,by omega,hk,e⟩
   ·exact⟨n,k,by omega,hk,e⟩
  ·rintro⟨s,k,hs,hk,e⟩
   by_cases h:s=n
   ·subst h;exact .inr ⟨k,hk,e⟩
   ·exact .inl ⟨s,k,by omega,hk,e⟩
theorem Z1 (p:ab):np p=(p,dS p,zl p,Db p,Ns p):=by unfold np;rfl
theorem OR {p:ab} (h:p.2.2.2.1.length≤10):xt (np p):=by
 intro x hx
 have hx:x∈Db p:=by rw[Z1] at hx;exact hx
 unfold Db at hx
 obtain⟨s,k,hs,hk,e⟩:=HD.1 hx
 rw[e]
 exact⟨by show(0:Int)≤(s:Int);omega,by show(s:Int)≤9;omega⟩
theorem KB {p:ab} {l:List Int} {o:Int} (h0:1 - o=pF p l 0):∀k,(ed p l o k).2.2=true→(ed p l o k).2.1=1 - pF p l k∧∀j,j≤k→(ed p l o k).1.getD j 0=pF p l j
 |0,_=>by
  refine⟨?_,fun j hj=> ?_⟩
  ·show o=_
   omega
  ·have e:j=0:=by omega
   rw[e]
   exact h0
 |k+1,h=>by
  have hk:(ed p l o k).2.2=true:=by
   cases hk:(ed p l o k).2.2 with
   |true=>rfl
   |false=>rw[xH hk (k+1) (by omega)] at h;cases h
  obtain⟨i1,i2⟩:=KB h0 k hk
  have hlen:=KD k hk
  cases hb:((ed p l o k).2.2&&((n9 p l k (ed p l o k).2.1).2&&(n9 p l k (ed p l o k).2.1).1.1==l.getD (k+1) 0)) with
  |false=>unfold ed at h;rw[hb] at h;cases h
  |true=>
   have he:ed p l o (k+1)=((ed p l o k).1++[(n9 p l k (ed p l o k).2.1).1.2],1 - (n9 p l k (ed p l o k).2.1).1.2,true):=by
    conv=>lhs;unfold ed
    rw[hb]
    rfl
   simp only[Bool.and_eq_true] at hb
   have oE:(n9 p l k (ed p l o k).2.1).1.2=pF p l (k+1):=by
    show _=((aT aL (dS p) (l.getD k 0,1 - pF p l k)).getD (0,0)).2
    rw[mP,←i1]
    have:=hb.2.1
    unfold n9 at this ⊢
    rw[this]
    rfl
   rw[he,oE]
   refine⟨rfl,fun j hj=> ?_⟩
   show(_++[_]).getD j 0=_
   by_cases JB:j=k+1
   ·subst JB
    rw[List.getD_eq_getElem?_getD,List.getElem?_append_right (by omega),hlen]
    simp
   ·have:=i2 j (by omega)
    rw[List.getD_eq_getElem?_getD,List.getElem?_append_left (by omega),←List.getD_eq_getElem?_getD]
    exact this
theorem Nw {p:ab} {l:List Int} (h:(eB p l).2=true) {k:Nat} (hk:k<l.length):(eB p l).1.getD k 0=pF p l k∧aI p (l.getD k 0)=1:=by
 have Va:pF p l 0=MT p l:=rfl
 unfold eB at h ⊢
 cases h1:decide (l.length=0)|| !l.all (fun e=>aI p e==1) with
 |true=>rw[h1] at h;cases h
 |false=>
  rw[h1,cond_false] at h;rw[cond_false]
  have BA:aI p (l.getD k 0)=1:=by
   rw[Bool.or_eq_false_iff] at h1
   have:=h1.2
   have:l.all (fun e=>aI p e==1)=true:=by simpa using this
   exact eq_of_beq (List.all_eq_true.1 this _ (fw 0 hk))
  refine⟨?_,BA⟩
  cases h2:decide (l.length=1) with
  |true=>
   rw[cond_true]
   have:=of_decide_eq_true h2
   have hk0:k=0:=by omega
   subst hk0
   rw[Va]
   unfold MT
   rw[this]
   rfl
  |false=>
   rw[h2,cond_false] at h;rw[cond_false]
   have Pr:=of_decide_eq_false h2
   cases h3:decide (fJ p l<0) with
   |true=>rw[h3] at h;cases h
   |false=>
    rw[h3,cond_false] at h;rw[cond_false]
    have h3:=of_decide_eq_false h3
    have aak:1 - fJ p l=pF p l 0:=by
     rw[Va]
     unfold MT
     rw[decide_eq_true (by omega:(l.length:Int)>1),cond_true,Bl]
     unfold fJ at h3 ⊢
     cases ho:qH p l 0 with
     |true=>rfl
     |false=>
      rw[ho] at h3
      cases ho1:qH p l 1 with
      |true=>rfl
      |false=>rw[ho1] at h3;exact absurd (by decide) h3
    cases h4:(ed p l (fJ p l) (l.length - 1)).2.2 with
    |false=>rw[h4] at h;cases h
    |true=>
     rw[cond_true]
     exact(KB aak _ h4).2 k (by omega)
end YtjnappfomhkeeaaGreat
end Go.Proofs
end

section
set_option maxRecDepth 100000
set_option linter.unusedVariables false
namespace Go.Vc
open Go
theorem aM.ptr {P:Program} {f:Nat} {t:Ty} {ts:List Ty} {out:Out} {pre:jI (.ref t::ts)→Prop} {fn:jI (.ref t::ts)→jI out.Jm} {pre':jI (.ptr t::ts)→Prop} (h:aM P f ⟨.ref t::ts,out,pre,fn⟩)
  (hp:∀x:jI (.ptr t::ts),pre' x→∃y,x.1=some y∧pre (y,x.2)):aM P f ⟨.ptr t::ts,out,pre',fun x=>fn (x.1.getD t.Dh,x.2)⟩ where
 fn:=h.fn
 calls F w x vs hF hx od:=by
  obtain⟨y,hy,hq⟩:=hp x od
  obtain⟨x1,x2⟩:=x
  have hy:x1=some y:=hy
  subst hy
  obtain⟨v,us,rfl,h1,h2⟩:=hx
  refine h.calls F w (y,x2) (v::us) hF ⟨v,us,rfl,?_,h2⟩ hq
  have h1:dh F (.ptr t) (some y) [v]:=h1
  rcases h1 with ⟨h,_⟩|⟨y',MX,b,off,k⟩
  ·cases h
  ·cases MX
   exact⟨b,off,k⟩
end Go.Vc
namespace Go.Proofs
open Go Go.Vc
namespace YtjnappfomhkeeaaGreat
abbrev Zq:Ty:= .map I (.list I)
abbrev TX:Ty:= .map I (.list ek)
abbrev rb:Ty:= .pair I (.pair Zq (.pair Zq (.pair TX TX)))
abbrev av:=Int×List (Int×List Int)×List (Int×List Int)×List (Int×List aY)×List (Int×List aY)
abbrev v7:eQ:= .cells true (.pair (.aC I) (.pair (.map I (.list I)) (.pair (.map I (.list I)) (.pair (.map I (.list ek)) (.map I (.list ek))))))
abbrev DH:Ty:= .pair (.ptr jn) (.map lk .bool)
abbrev eG:=Option aX×List (cg×Bool)
abbrev NQ:eQ:= .cells true (.pair (.aC (.ptr jn)) (.map lk .bool))
def bH (o:Option aX):aX:=o.getD (Ty.Dh jn)
def iL (o:Option aX):Prop:=∃n,o=some n
def gL (o:Option aX):Prop:=∃n,o=some n∧xt n
def BW:bh where
 args:=[.ptr jn,eP]
 out:= .data [.list lk]
 pre:=fun(x:Option aX×af×Unit)=>gL x.1∧x.2.1.2.2.2.1.length≤1000
 fn:=fun(x:Option aX×af×Unit)=>(dL (bH x.1) x.2.1,())
def NG:bh where
 args:=[.ptr jn,I]
 out:= .data [I,I]
 pre:=fun(x:Option aX×Int×Unit)=>iL x.1
 fn:=fun(x:Option aX×Int×Unit)=>((hU (bH x.1) x.2.1).1,(hU (bH x.1) x.2.1).2,())
def NH:bh where
 args:=[.ptr jn,I]
 out:= .data [aL,.bool]
 pre:=fun(x:Option aX×Int×Unit)=>iL x.1
 fn:=fun(x:Option aX×Int×Unit)=>((lB (bH x.1).1 x.2.1).1,(lB (bH x.1).1 x.2.1).2,())
def IP:bh where
 args:=[.ptr jn]
 out:= .data [I]
 pre:=fun(x:Option aX×Unit)=>iL x.1
 fn:=fun(x:Option aX×Unit)=>(((bH x.1).1.1.length:Int),())
theorem S6:aM Tryz.prog 124 BW:=adk.ptr fun x h=>by
 obtain⟨⟨n,h1,h2⟩,h3⟩:=h
 exact⟨n,h1,h2,h3⟩
theorem ZU:aM Tryz.prog 199 NG:=W0.ptr fun x h=>by
 obtain⟨n,h1⟩:=h
 exact⟨n,h1,trivial⟩
theorem ZV:aM Tryz.prog 197 NH:=W1.ptr fun x h=>by
 obtain⟨n,h1⟩:=h
 exact⟨n,h1,trivial⟩
theorem WR:aM Tryz.prog 52 IP:=ahl.ptr fun x h=>by
 obtain⟨n,h1⟩:=h
 exact⟨n,h1,trivial⟩
def LK:bh where
 args:=[.list I,I]
 out:= .data [I]
 pre:=fun(x:List Int×Int×Unit)=>True
 fn:=fun(x:List Int×Int×Unit)=>(fj (fun y=>x.2.1==y) x.1,())
def a117 (x:List Int×Int×Unit):eC:=bj [(2,fun _=>tH (fun y=>x.2.1==y) x.1 8 [0,1,7])]
def BS:bh where
 args:=[.list I,I]
 out:= .data [.bool]
 pre:=fun(x:List Int×Int×Unit)=>True
 fn:=fun(x:List Int×Int×Unit)=>(bG x.1 x.2.1,())
def VV:fq where
 args:=[.aC I]
 outs:=[v7]
 pre:=fun(x:Int×Unit)=>True
 fn:=fun(x:Int×Unit)=>((max 0 (min x.1 40),[],[],[],[]),())
def oX (b:av) (e:Int):Prop:=∀x∈b.2.1,∀y∈b.2.1,bG x.2 e=true→bG y.2 e=true→x.1=y.1
def WL (o:Option (Int×List Int)):Int:=match o with
 |some x=>x.1
 |none=> -1
@[irreducible] def eT (b:av) (e:Int):Int:=WL (b.2.1.find? fun x=>bG x.2 e)
def Gh:bh where
 args:=[.ref rb,I]
 out:= .data [I]
 pre:=fun(x:av×Int×Unit)=>oX x.1 x.2.1
 fn:=fun(x:av×Int×Unit)=>(eT x.1 x.2.1,())
def Ct (b:av) (e:Int) (todo:List (Int×List Int)):Prop:=∃done,b.2.1.Perm (done++todo)∧done.any (fun x=>bG x.2 e)=false
def a29 (x:av×Int×Unit):eC:=bj [(2,fun _=>{
 σ:=List (Int×List Int)
 ok:=fun todo=>Ct x.1 x.2.1 todo
 mu:=fun todo=>todo.length
 sl:=fun todo=>[(11,.one (.ptr 11 0))]
 bl:=fun todo=>[(11,.iter I (.list I) todo none)]
 keep:=[0,1]
 cy:=[]})]
def VU:fq where
 args:=[.aC (.ptr jn)]
 outs:=[NQ]
 pre:=fun(x:Option aX×Unit)=>True
 fn:=fun(x:Option aX×Unit)=>((x.1,[]),())
def pI (m:List (cg×Bool)) (t:cg):Bool:=(aT lk m t).getD false
@[irreducible] def wP (m:List (cg×Bool)) (l:Int):Int:=bif pI m (l,1) then 1 else bif pI m (l,2) then 2 else 0
def VL:bh where
 args:=[.ref DH,I]
 out:= .data [I]
 pre:=fun(x:eG×Int×Unit)=>True
 fn:=fun(x:eG×Int×Unit)=>(wP x.1.2 x.2.1,())
def zW (m:List (cg×Bool)) (l:Int) (k:Nat):Prop:=∀j,1≤j→j<k+1→pI m (l,(j:Int))=false
def a95 (x:eG×Int×Unit):eC:=bj [(2,fun _=>{
 σ:=Nat
 ok:=fun k=>k≤2∧zW x.1.2 x.2.1 k
 mu:=fun k=>2 - k
 sl:=fun k=>[(5,.one (.aC I ((k:Int)+1)))]
 bl:=fun _=>[]
 keep:=[0,1]
 cy:=[]})]
def vO (iC:List Bool) (e:Int):Bool:=decide (0≤e)&&(decide (e<(iC.length:Int))&&iC.getD e.toNat false)
def Fs (n:aX) (l:Int) (iC:List Bool) (b:av) (I5:Int) (k:Nat):Bool:=
 (hU n (k:Int)).1==l&&((vO iC (k:Int)&& !((k:Int)==I5))||decide (0≤eT b (k:Int)))
@[irreducible] def C9 (n:aX) (l:Int) (iC:List Bool) (b:av) (I5:Int):Bool:= !cd (Fs n l iC b I5) n.1.1.length
def kj (b:av):Prop:=∀e,oX b e
def La:bh where
 args:=[.ref DH,I,.list .bool,.ref rb,I]
 out:= .data [.bool]
 pre:=fun(x:eG×Int×List Bool×av×Int×Unit)=>iL x.1.1∧kj x.2.2.2.1
 fn:=fun(x:eG×Int×List Bool×av×Int×Unit)=>(C9 (bH x.1.1) x.2.1 x.2.2.1 x.2.2.2.1 x.2.2.2.2.1,())
def a198 (x:eG×Int×List Bool×av×Int×Unit):eC:=bj [(2,fun _=>dE (bH x.1.1).1.1.length (dZ (Fs (bH x.1.1) x.2.1 x.2.2.1 x.2.2.2.1 x.2.2.2.2.1)) 19 [0,1,2,3,4,18] [])]
def DA (n:aX) (s:Int):Int:=bif(lB n.1 s).2 then(lB n.1 s).1.1 else -1
def sa (t:eG) (iC:List Bool) (b:av) (I5:Int) (w:cg):Bool:=
 !(wP t.2 w.1==0)&&(!(wP t.2 w.1==w.2)&& !C9 (bH t.1) w.1 iC b I5)
@[irreducible] def mh (t:eG) (r:af) (iC:List Bool) (b:av):Int:=
 bif(dL (bH t.1) r).any (sa t iC b (DA (bH t.1) r.1)) then 8 else 0
def Du:bh where
 args:=[.ref DH,eP,.list .bool,.ref rb]
 out:= .data [I]
 pre:=fun(x:eG×af×List Bool×av×Unit)=>(gL x.1.1∧x.2.1.2.2.2.1.length≤1000)∧kj x.2.2.2.1
 fn:=fun(x:eG×af×List Bool×av×Unit)=>(mh x.1 x.2.1 x.2.2.1 x.2.2.2.1,())
def Y7 (x:eG×af×List Bool×av×Unit):eC:=bj [(6,fun _=>{
 σ:=Nat
 ok:=fun k=>k≤(dL (bH x.1.1) x.2.1).length∧((dL (bH x.1.1) x.2.1).take k).any (sa x.1 x.2.2.1 x.2.2.2.1 (DA (bH x.1.1) x.2.1.1))=false
 mu:=fun k=>(dL (bH x.1.1) x.2.1).length - k
 sl:=fun k=>[(35,.one (.aC I (k:Int))),(9,.one (.aC I (DA (bH x.1.1) x.2.1.1)))]
 bl:=fun _=>[]
 keep:=[0,2,3,33,34]
 cy:=[]})]
def ZO (m:List (cg×Bool)) (w:cg):List (cg×Bool):=dc lk (iQ lk m (w.1,3 - w.2)) w true
def tp (m:List (cg×Bool)) (l:List cg):Nat→List (cg×Bool)
 |0=>m
 |k+1=>ZO (tp m l k) (l.getD k zT)
@[irreducible] def C7 (t:eG) (r:af):List (cg×Bool):=tp t.2 (dL (bH t.1) r) (dL (bH t.1) r).length
def Tu (t:eG) (r:af) (iC:List Bool) (b:av):eG:=(t.1,bif mh t r iC b==0 then C7 t r else t.2)
def VP:fq where
 args:=[NQ,.aC eP,.aC (.list .bool),v7]
 outs:=[.aC I]
 pre:=fun(x:eG×af×List Bool×av×Unit)=>(gL x.1.1∧x.2.1.2.2.2.1.length≤1000)∧kj x.2.2.2.1
 fn:=fun(x:eG×af×List Bool×av×Unit)=>(mh x.1 x.2.1 x.2.2.1 x.2.2.2.1,())
 fO:=fun(x:eG×af×List Bool×av×Unit)=>(Tu x.1 x.2.1 x.2.2.1 x.2.2.2.1,x.2.1,x.2.2.1,x.2.2.2.1,())
def a70 (x:eG×af×List Bool×av×Unit):eC:=bj [(5,fun _=>{
 σ:=Nat
 ok:=fun k=>k≤(dL (bH x.1.1) x.2.1).length
 mu:=fun k=>(dL (bH x.1.1) x.2.1).length - k
 sl:=fun k=>[(27,.one (.aC I (k:Int)))]
 bl:=fun k=>[(1000001,.map false lk .bool (tp x.1.2 (dL (bH x.1.1) x.2.1) k) none)]
 keep:=[0,3,25,26]
 cy:=[1000000,1000002,1000003,1000004,1000005,1000006]})]
end YtjnappfomhkeeaaGreat
end Go.Proofs
end

section
set_option maxRecDepth 100000
set_option linter.unusedVariables false
set_option linter.unusedSimpArgs false
set_option maxHeartbeats 4000000
namespace Go.Proofs
open Go Go.Vc
namespace YtjnappfomhkeeaaGreat
theorem v117 (xs:List Int) (v:Int):ai (ah ay []) Tryz.f117 LK (a117 (xs,v,())) (xs,v,())=(
U (fj (fun(y:Int)=>v==y) xs) fun(y2:Int)=>
(∃(fD:Nat),(fD≤xs.length∧((List.take fD xs).any fun(y:Int)=>v==y)=false)∧(↑fD:Int)=(0:Int)∧xs=xs∧v=v∧(↑xs.length:Int)=(↑xs.length:Int)∧True)∧
∀(s3:Nat),
U (decide ((↑s3:Int)<(↑xs.length:Int))) fun(y4:Bool)=>
U (v==xs.getD (↑s3:Int).toNat (0:Int)) fun(y5:Bool)=>
s3≤xs.length∧((List.take s3 xs).any fun(y:Int)=>v==y)=false→
(y4=true→
aQ (↑s3:Int) xs.length∧
(y5=true→(↑s3:Int)=y2∧True)∧
(y5=false→
bq IntKind.i64 ((↑s3:Int)+(1:Int))∧
∃(eR:Nat),
(eR≤xs.length∧((List.take eR xs).any fun(y:Int)=>v==y)=false)∧
xs.length - eR<xs.length - s3∧(↑eR:Int)=(↑s3:Int)+(1:Int)∧xs=xs∧v=v∧(↑xs.length:Int)=(↑xs.length:Int)∧True))∧
(y4=false→(-1:Int)=y2∧True)):=by kernel_rfl
theorem aj9 (xs:List Int) (v:Int) (hw:xs.length≤aK):ai (ah ay []) Tryz.f117 LK (a117 (xs,v,())) (xs,v,()):=by
 rw[v117]
 refine U.mk fun y2 e2=> ?_
 simp only[true_and,and_true,eq_self]
 refine⟨⟨0,⟨by omega,by simp⟩,by omega⟩,fun s=>U.mk fun y4 e4=>U.mk fun y5 e5=> ?_⟩
 rintro⟨h1,h2⟩
 rw[Int.toNat_natCast] at e5
 refine⟨fun hs=> ?_,fun hs=> ?_⟩
 ·have hs:=ba e4 hs
  refine⟨⟨by omega,by omega⟩,fun e=> ?_,fun e=>⟨dr hs hw,s+1,⟨by omega,?_⟩,by omega,by omega⟩⟩
  ·rw[e2]
   exact rJ (0:Int) hs h2 (by rw[←e5];exact e)
  ·exact any_succ (0:Int) hs h2 (by rw[←e5];exact e)
 ·rw[e2]
  exact qn (s:=s) (br e4 hs) h2
theorem W7:aM Tryz.prog 117 LK:=
 aM.bZ (l:=[]) (A:=a117) aH trivial Tryz.func117 (by kernel_rfl) (by kernel_rfl) fun x hw hp=>aj9 x.1 x.2.1 hw.1.1
theorem v74 (xs:List Int) (v:Int):ai (ah ay [(117,LK)]) Tryz.f74 BS aq (xs,v,())=(
U (fj (fun(y:Int)=>v==y) xs) fun(y2:Int)=>True∧decide (y2≥(0:Int))=bG xs v∧True):=by kernel_rfl
theorem b74 (xs:List Int) (v:Int):ai (ah ay [(117,LK)]) Tryz.f74 BS aq (xs,v,()):=by
 rw[v74]
 refine U.mk fun y2 e2=>⟨trivial,?_,trivial⟩
 rw[e2,p6]
 unfold bG
 congr 1
 funext y
 rw[fF]
theorem S3:aM Tryz.prog 74 BS:=
 aM.bZ (l:=[(117,LK)]) (A:=fun _=>aq) aH ⟨W7,trivial⟩ Tryz.func74 (by kernel_rfl) (by kernel_rfl) fun x hw hp=>b74 x.1 x.2.1
theorem v51 (n:Int):bN (ah ay []) Tryz.f51 VV aq (n,())=(
max (0:Int) (min n (40:Int))=max (0:Int) (min n (40:Int))∧([]:List (Int×List Int)).Perm []∧([]:List (Int×List Int)).Perm []∧([]:List (Int×List aY)).Perm []∧([]:List (Int×List aY)).Perm []∧True):=by kernel_rfl
theorem ahm:ew Tryz.prog 51 VV:=
 ew.bZ (l:=[]) (A:=fun _=>aq) aH trivial Tryz.func51 (by kernel_rfl) (by kernel_rfl) fun x hw hp=>by
  obtain⟨n,⟨⟩⟩:=x
  show bN (ah ay []) Tryz.f51 VV aq (n,())
  rw[v51]
  exact⟨rfl,.refl _,.refl _,.refl _,.refl _,trivial⟩
theorem Ka {b:av} {e:Int} (h:oX b e) {x:Int×List Int} (hx:x∈b.2.1) (hm:bG x.2 e=true):eT b e=x.1:=by
 unfold eT
 cases hf:b.2.1.find? (fun x=>bG x.2 e) with
 |none=>exact absurd hm (by simpa using List.find?_eq_none.1 hf x hx)
 |some y=>exact h y (List.mem_of_find?_eq_some hf) x hx (by simpa using List.find?_some hf) hm
theorem Fj {b:av} {e:Int} (h:b.2.1.any (fun x=>bG x.2 e)=false):eT b e= -1:=by
 unfold eT
 rw[List.find?_eq_none.2 fun x hx=>by simpa using List.any_eq_false.1 h x hx]
 rfl
theorem UD {α:Type} {l m:List α} (h:l.Perm m) (q:α→Bool):l.any q=m.any q:=by
 cases hm:m.any q with
 |true=>
  obtain⟨x,hx,hq⟩:=List.any_eq_true.1 hm
  exact List.any_eq_true.2 ⟨x,h.mem_iff.2 hx,hq⟩
 |false=>exact List.any_eq_false.2 fun x hx=>List.any_eq_false.1 hm x (h.mem_iff.1 hx)
theorem v29 (b:av) (e:Int):ai (ah ay [(74,BS)]) Tryz.f29 Gh (a29 (b,e,())) (b,e,())=(
(∃(dp:List (Int×List Int)),Ct b e dp∧[b]=[b]∧(0:Nat)=(0:Nat)∧e=e∧dp=b.2.1∧True)∧
∀(s2:List (Int×List Int)),
Ct b e s2→
(s2=[]→(false=true→False)∧(false=false→(-1:Int)=eT b e∧True))∧
∀(x3:Int×List Int) (D6:List (Int×List Int)),
s2.Perm (x3::D6)→
(true=true→
True∧
(bG x3.2 e=true→x3.1=eT b e∧True)∧
(bG x3.2 e=false→∃(fQ:List (Int×List Int)),Ct b e fQ∧fQ.length<s2.length∧[b]=[b]∧(0:Nat)=(0:Nat)∧e=e∧fQ=D6∧True))∧
(true=false→(-1:Int)=eT b e∧True)):=by kernel_rfl
theorem b29 (b:av) (e:Int) (h:oX b e):ai (ah ay [(74,BS)]) Tryz.f29 Gh (a29 (b,e,())) (b,e,()):=by
 rw[v29]
 simp only[true_and,and_true,eq_self]
 refine⟨⟨b.2.1,⟨[],.refl _,rfl⟩,rfl⟩,fun s hs=>⟨fun h0=>⟨fun h=>Bool.noConfusion h,fun _=> ?_⟩,fun x rest hp=>⟨fun _=>⟨fun hm=> ?_,fun hm=> ?_⟩,fun h=>Bool.noConfusion h⟩⟩⟩
 ·obtain⟨done,h1,h2⟩:=hs
  subst h0
  rw[Fj]
  rw[UD h1,List.append_nil]
  exact h2
 ·obtain⟨done,h1,h2⟩:=hs
  exact(Ka h (h1.mem_iff.2 (List.mem_append_right _ (hp.mem_iff.2 (List.mem_cons_self ..)))) hm).symm
 ·obtain⟨done,h1,h2⟩:=hs
  refine⟨rest,⟨done++[x],?_,?_⟩,?_,rfl⟩
  ·rw[List.append_assoc]
   exact h1.trans (hp.append_left done)
  ·rw[List.any_append,h2]
   simp[hm]
  ·rw[hp.length_eq]
   exact Nat.lt_succ_self _
theorem WT:aM Tryz.prog 29 Gh:=
 aM.bZ (l:=[(74,BS)]) (A:=a29) aH ⟨S3,trivial⟩ Tryz.func29 (by kernel_rfl) (by kernel_rfl) fun x hw hp=>b29 x.1 x.2.1 hp
theorem v53 (n:Option (aX)):bN (ah ay []) Tryz.f53 VU aq (n,())=(
n=n∧([]:List (cg×Bool)).Perm []∧True):=by kernel_rfl
theorem ahk:ew Tryz.prog 53 VU:=
 ew.bZ (l:=[]) (A:=fun _=>aq) aH trivial Tryz.func53 (by kernel_rfl) (by kernel_rfl) fun x hw hp=>by
  obtain⟨n,⟨⟩⟩:=x
  show bN (ah ay []) Tryz.f53 VU aq (n,())
  rw[v53]
  exact⟨rfl,.refl _,trivial⟩
theorem v95 (t:Option (aX)×List ((Int×Int)×Bool)) (l:Int):ai (ah ay []) Tryz.f95 VL (a95 (t,l,())) (t,l,())=(
(∃(dp:Nat),(dp≤(2:Nat)∧zW t.2 l dp)∧(↑dp:Int)+(1:Int)=(1:Int)∧[t]=[t]∧(0:Nat)=(0:Nat)∧l=l∧True)∧
∀(s2:Nat),
U (decide ((↑s2:Int)+(1:Int)≤(2:Int))) fun(y3:Bool)=>
U ((aT aL t.2 (l,(↑s2:Int)+(1:Int))).getD false) fun(y4:Bool)=>
U ((↑s2:Int)+(1:Int)+(1:Int)) fun(y5:Int)=>
s2≤(2:Nat)∧zW t.2 l s2→
(y3=true→
(y4=true→(↑s2:Int)+(1:Int)=wP t.2 l∧True)∧
(y4=false→
bq IntKind.i64 y5∧
∃(eR:Nat),(eR≤(2:Nat)∧zW t.2 l eR)∧(2:Nat) - eR<(2:Nat) - s2∧(↑eR:Int)+(1:Int)=y5∧[t]=[t]∧(0:Nat)=(0:Nat)∧l=l∧True))∧
(y3=false→(0:Int)=wP t.2 l∧True)):=by kernel_rfl
theorem aaO {m:List (cg×Bool)} {l:Int} {k:Nat} (hk:k<2) (h0:zW m l k) (h:pI m (l,(k:Int)+1)=true):((k:Int)+1)=wP m l:=by
 unfold wP
 rcases(by omega:k=0∨k=1) with rfl|rfl
 ·have h:pI m (l,1)=true:=h
  rw[h]
  rfl
 ·have h:pI m (l,2)=true:=h
  have h1:pI m (l,1)=false:=h0 1 (by omega) (by omega)
  rw[h,h1]
  rfl
theorem VI {m:List (cg×Bool)} {l:Int} (h0:zW m l 2):0=wP m l:=by
 unfold wP
 have h1:pI m (l,1)=false:=h0 1 (by omega) (by omega)
 have h2:pI m (l,2)=false:=h0 2 (by omega) (by omega)
 rw[h1,h2]
 rfl
theorem b95 (t:eG) (l:Int):ai (ah ay []) Tryz.f95 VL (a95 (t,l,())) (t,l,()):=by
 rw[v95]
 simp only[true_and,and_true,eq_self]
 refine⟨⟨0,⟨by omega,fun j h1 h2=>by omega⟩,by omega⟩,fun k=>U.mk fun y3 e3=>U.mk fun y4 e4=>U.mk fun y5 e5=> ?_⟩
 rintro⟨h1,h2⟩
 have e4:y4=pI t.2 (l,(k:Int)+1):=e4
 refine⟨fun h=>⟨fun hy=> ?_,fun hy=> ?_⟩,fun h=> ?_⟩
 ·rw[h] at e3
  have:=of_decide_eq_true e3.symm
  exact aaO (by omega) h2 (by rw[←e4];exact hy)
 ·rw[h] at e3
  have:=of_decide_eq_true e3.symm
  refine⟨bg (by omega) (by omega),k+1,⟨by omega,fun j h3 h4=> ?_⟩,by omega,by omega⟩
  by_cases hj:j=k+1
  ·subst hj
   rw[←hy,e4]
   congr 2
  ·exact h2 j h3 (by omega)
 ·rw[h] at e3
  have:=of_decide_eq_false e3.symm
  have:k=2:=by omega
  subst this
  exact VI h2
theorem ag4:aM Tryz.prog 95 VL:=
 aM.bZ (l:=[]) (A:=a95) aH trivial Tryz.func95 (by kernel_rfl) (by kernel_rfl) fun x hw hp=>b95 x.1 x.2.1
theorem v198 (t:Option (aX)×List ((Int×Int)×Bool)) (l:Int) (o:List Bool) (b:av) (h:Int):ai (ah ay [(199,NG),(52,IP),(29,Gh)]) Tryz.f198 La (a198 (t,l,o,b,h,())) (t,l,o,b,h,())=(
U (bH t.1).1.1.length fun(y5:Nat)=>
U (C9 (bH t.1) l o b h) fun(y6:Bool)=>
iL t.1∧
(∃(kZ:Nat),
(kZ≤y5∧dZ (Fs (bH t.1) l o b h) kZ)∧
(↑kZ:Int)=(0:Int)∧
[t]=[t]∧(0:Nat)=(0:Nat)∧l=l∧o=o∧[b]=[b]∧(0:Nat)=(0:Nat)∧h=h∧(↑(bH t.1).1.1.length:Int)=(↑(bH t.1).1.1.length:Int)∧True)∧
∀(s7:Nat),
U (decide ((↑s7:Int)<(↑(bH t.1).1.1.length:Int))) fun(y8:Bool)=>
U ((hU (bH t.1) (↑s7:Int)).1==l) fun(y9:Bool)=>
U (decide ((↑s7:Int)<(↑o.length:Int))) fun(bp:Bool)=>
U (bif bif bp then o.getD (↑s7:Int).toNat false else false then(↑s7:Int) !=h else false) fun(bI:Bool)=>
U (bif y9 then bif bI then true else decide (eT b (↑s7:Int)≥(0:Int)) else false) fun(aw:Bool)=>
s7≤y5∧dZ (Fs (bH t.1) l o b h) s7→
(y8=true→
iL t.1∧
(y9=true→bp=true→aQ (↑s7:Int) o.length)∧
(y9=true→bI=false→oX b (↑s7:Int))∧
(aw=true→false=y6∧True)∧
(aw=false→
bq IntKind.i64 ((↑s7:Int)+(1:Int))∧
∃(fN:Nat),
(fN≤y5∧dZ (Fs (bH t.1) l o b h) fN)∧
y5 - fN<y5 - s7∧
(↑fN:Int)=(↑s7:Int)+(1:Int)∧
[t]=[t]∧
(0:Nat)=(0:Nat)∧
l=l∧o=o∧[b]=[b]∧(0:Nat)=(0:Nat)∧h=h∧(↑(bH t.1).1.1.length:Int)=(↑(bH t.1).1.1.length:Int)∧True))∧
(y8=false→true=y6∧True)):=by kernel_rfl
theorem ajG (t:eG) (l:Int) (o:List Bool) (b:av) (h:Int) (hn:iL t.1) (hb:kj b) (hl:(bH t.1).1.1.length≤aK):ai (ah ay [(199,NG),(52,IP),(29,Gh)]) Tryz.f198 La (a198 (t,l,o,b,h,())) (t,l,o,b,h,()):=by
 rw[v198]
 refine U.mk fun y5 e5=>U.mk fun y6 e6=> ?_
 simp only[true_and,and_true,eq_self]
 rw[←e5]
 refine⟨hn,⟨0,⟨by omega,rfl⟩,by omega⟩,fun s=>U.mk fun y8 e8=>U.mk fun y9 e9=>U.mk fun bp du=>U.mk fun bI eH=>U.mk fun aw dM=> ?_⟩
 rintro⟨h1,h2⟩
 have hq:y6= !cd (Fs (bH t.1) l o b h) y5:=by rw[e6,e5];unfold C9;rfl
 refine⟨fun hs=> ?_,fun hs=> ?_⟩
 ·have hs:=ba e8 hs
  have XR:Fs (bH t.1) l o b h s=aw:=by
   unfold Fs vO
   rw[dM,eH,du,e9,decide_eq_true (by omega:(0:Int)≤(s:Int))]
   cases ((hU (bH t.1) (s:Int)).1==l)<;>cases decide ((s:Int)<(o.length:Int))<;>cases (o.getD (s:Int).toNat false)<;>cases hx:((s:Int)==h)<;>simp[hx,bne]
  refine⟨hn,fun _ jF=> ?_,fun _ _=>hb _,fun hy=> ?_,fun hy=>⟨dr hs (by rw[e5];exact hl),s+1,⟨by omega,jV h2 (by rw[XR];exact hy)⟩,by omega,by omega⟩⟩
  ·rw[jF] at du
   have:=of_decide_eq_true du.symm
   exact⟨by omega,by omega⟩
  ·rw[hq,nL hs (by rw[XR];exact hy)]
   rfl
 ·have hs:=br e8 hs
  have:s=y5:=by omega
  subst this
  rw[hq,h2]
  rfl
theorem Z0 {o:Option aX} (h:(Ty.ptr jn).wf o):(bH o).1.1.length≤aK:=by
 cases o with
 |none=>exact Nat.zero_le _
 |some n=>
  have:=h n rfl
  exact this.1.1.1
theorem acE:aM Tryz.prog 198 La:=
 aM.bZ (l:=[(199,NG),(52,IP),(29,Gh)]) (A:=a198) aH ⟨ZU,WR,WT,trivial⟩ Tryz.func198 (by kernel_rfl) (by kernel_rfl) fun x hw hp=>ajG x.1 x.2.1 x.2.2.1 x.2.2.2.1 x.2.2.2.2.1 hp.1 hp.2 (Z0 hw.1.1)
theorem FJ {o:Option aX} (h:gL o) (r:af):(dL (bH o) r).length≤10:=by
 obtain⟨n,rfl,hl⟩:=h
 show(dL n r).length≤10
 unfold dL
 rw[(G3 _).length_eq]
 exact A8 (zH hl r _)
theorem agG (t:Option (aX)×List ((Int×Int)×Bool)) (r:af) (o:List Bool) (b:av):ai (ah ay [(124,BW),(197,NH),(95,VL),(198,La)]) Tryz.f123 Du (Y7 (t,r,o,b,())) (t,r,o,b,())=(
U (dL (bH t.1) r).length fun(y4:Nat)=>
U (DA (bH t.1) r.1) fun(y5:Int)=>
U (lB (bH t.1).1 r.1) fun(y6:ak×Bool)=>
U (dL (bH t.1) r).length fun(y7:Nat)=>
iL t.1∧
(gL t.1∧r.2.2.2.1.length≤(1000:Nat))∧
(∃(mL:Nat),
(mL≤y4∧(List.take mL (dL (bH t.1) r)).any (sa t o b y5)=false)∧
(↑mL:Int)=(0:Int)∧
(y5=bif y6.2 then y6.1.1 else(-1:Int))∧
[t]=[t]∧(0:Nat)=(0:Nat)∧o=o∧[b]=[b]∧(0:Nat)=(0:Nat)∧dL (bH t.1) r=dL (bH t.1) r∧(↑y7:Int)=(↑y7:Int)∧True)∧
∀(s8:Nat),
U (decide ((↑s8:Int)<(↑y7:Int))) fun(y9:Bool)=>
U ((dL (bH t.1) r).getD (↑s8:Int).toNat ((0:Int),(0:Int))) fun(bp:Int×Int)=>
U (bif wP t.2 bp.1 !=(0:Int) then wP t.2 bp.1 !=bp.2 else false) fun(bI:Bool)=>
U (bif bI then !C9 (bH t.1) bp.1 o b y5 else false) fun(aw:Bool)=>
s8≤y4∧(List.take s8 (dL (bH t.1) r)).any (sa t o b y5)=false→
(y9=true→
aQ (↑s8:Int) y7∧
True∧
(bI=true→iL t.1∧kj b)∧
(aw=true→(8:Int)=mh t r o b∧True)∧
(aw=false→
bq IntKind.i64 ((↑s8:Int)+(1:Int))∧
∃(fN:Nat),
(fN≤y4∧(List.take fN (dL (bH t.1) r)).any (sa t o b y5)=false)∧
y4 - fN<y4 - s8∧
(↑fN:Int)=(↑s8:Int)+(1:Int)∧
y5=y5∧
[t]=[t]∧
(0:Nat)=(0:Nat)∧
o=o∧[b]=[b]∧(0:Nat)=(0:Nat)∧dL (bH t.1) r=dL (bH t.1) r∧(↑y7:Int)=(↑y7:Int)∧True))∧
(y9=false→(0:Int)=mh t r o b∧True)):=by kernel_rfl
theorem aj4 (t:eG) (r:af) (o:List Bool) (b:av) (hn:gL t.1) (hr:r.2.2.2.1.length≤1000) (hb:kj b):ai (ah ay [(124,BW),(197,NH),(95,VL),(198,La)]) Tryz.f123 Du (Y7 (t,r,o,b,())) (t,r,o,b,()):=by
 rw[agG]
 refine U.mk fun y4 e4=>U.mk fun y5 e5=>U.mk fun y6 e6=>U.mk fun y7 e7=> ?_
 have ht:iL t.1:=by obtain⟨n,h,_⟩:=hn;exact⟨n,h⟩
 have hl:=FJ hn r
 have e7:y7=y4:=by rw[e4];exact e7
 subst e7
 have hF:mh t r o b=bif(dL (bH t.1) r).any (sa t o b y5) then 8 else 0:=by rw[e5];unfold mh;rfl
 simp only[true_and,and_true,eq_self]
 refine⟨ht,⟨hn,hr⟩,⟨0,⟨by omega,by simp⟩,by omega,by rw[e5,e6];rfl⟩,fun s=>U.mk fun y9 e9=>U.mk fun bp du=>U.mk fun bI eH=>U.mk fun aw dM=> ?_⟩
 rintro⟨h1,h2⟩
 refine⟨fun hs=> ?_,fun hs=> ?_⟩
 ·have hs:=ba e9 hs
  rw[Int.toNat_natCast] at du
  have du:bp=(dL (bH t.1) r).getD s zT:=du
  have ju:sa t o b y5 ((dL (bH t.1) r).getD s zT)=aw:=by
   rw[←du,dM,eH]
   unfold sa
   cases hx:(wP t.2 bp.1==0)<;>cases hz:(wP t.2 bp.1==bp.2)<;>simp[hx,hz,bne]
  refine⟨⟨by omega,by omega⟩,fun _=>⟨ht,hb⟩,fun hy=> ?_,fun hy=>⟨bg (by omega) (by omega),s+1,⟨by omega,?_⟩,by omega,by omega⟩⟩
  ·rw[hF,pK (s:=s) zT (by omega) (by rw[ju];exact hy)]
   rfl
  ·exact any_succ zT (by omega) h2 (by rw[ju];exact hy)
 ·have hs:=br e9 hs
  rw[hF,n4 (s:=s) (by omega) h2]
  rfl
theorem W5:aM Tryz.prog 123 Du:=
 aM.bZ (l:=[(124,BW),(197,NH),(95,VL),(198,La)]) (A:=Y7) aH ⟨S6,ZV,ag4,acE,trivial⟩ Tryz.func123 (by kernel_rfl) (by kernel_rfl) fun x hw hp=>aj4 x.1 x.2.1 x.2.2.1 x.2.2.2.1 hp.1.1 hp.1.2 hp.2
theorem Vm (n:aX) (e i:Int):0≤uO n e i∧uO n e i≤2:=by
 unfold uO
 cases (!(aT I n.2.2.2.2 e).isSome||(decide (i<0)||decide (i>1))) with
 |true=>exact⟨Int.le_refl 0,by show(0:Int)≤2;decide⟩
 |false=>
  cases ((aT I n.2.2.2.2 e).getD 0==i) with
  |true=>exact⟨by decide,by decide⟩
  |false=>exact⟨by decide,by decide⟩
theorem yp (n:aX) (r:af):∀(k:Nat),∀t∈fv n r k,0≤t.2∧t.2≤2
 |0,t,h=>absurd h List.not_mem_nil
 |k+1,t,h=>by
  have h:t∈rq n (fv n r k) (r.2.2.2.1.getD k iq):=h
  unfold rq at h
  cases hc:(decide ((hU n (r.2.2.2.1.getD k iq).1).1<0)||(fv n r k).any (fun t=>t.1==(hU n (r.2.2.2.1.getD k iq).1).1)) with
  |true=>rw[hc] at h;exact yp n r k t h
  |false=>
   rw[hc] at h
   rcases List.mem_append.1 h with h|h
   ·exact yp n r k t h
   ·rw[List.mem_singleton.1 h]
    exact Vm n _ _
theorem v70 (t:Option (aX)×List ((Int×Int)×Bool)) (r:af) (o:List Bool) (b:av):bN (ah ay [(123,Du),(124,BW)]) Tryz.f70 VP (a70 (t,r,o,b,())) (t,r,o,b,())=(
U (mh t r o b !=(0:Int)) fun(y4:Bool)=>
U (bif mh t r o b==(0:Int) then C7 t r else t.2) fun(y5:List (cg×Bool))=>
U (dL (bH t.1) r).length fun(y6:Nat)=>
U (dL (bH t.1) r).length fun(y7:Nat)=>
((gL t.1∧r.2.2.2.1.length≤(1000:Nat))∧kj b)∧
(y4=true→
mh t r o b=mh t r o b∧
t.1=t.1∧
t.2.Perm y5∧
b.1=b.1∧b.2.1.Perm b.2.1∧b.2.2.1.Perm b.2.2.1∧b.2.2.2.1.Perm b.2.2.2.1∧b.2.2.2.2.Perm b.2.2.2.2∧True)∧
(y4=false→
(gL t.1∧r.2.2.2.1.length≤(1000:Nat))∧
(∃(mL:Nat),
mL≤y6∧
(↑mL:Int)=(0:Int)∧
dL (bH t.1) r=dL (bH t.1) r∧
(↑y7:Int)=(↑y7:Int)∧
tp t.2 (dL (bH t.1) r) mL=t.2∧
t.1=t.1∧
b.1=b.1∧b.2.1=b.2.1∧b.2.2.1=b.2.2.1∧b.2.2.2.1=b.2.2.2.1∧b.2.2.2.2=b.2.2.2.2∧True)∧
∀(s8:Nat),
U (decide ((↑s8:Int)<(↑y7:Int))) fun(y9:Bool)=>
U ((dL (bH t.1) r).getD (↑s8:Int).toNat ((0:Int),(0:Int))) fun(bp:Int×Int)=>
U (tp t.2 (dL (bH t.1) r) s8) fun(bI:List (cg×Bool))=>
s8≤y6→
(y9=true→
aQ (↑s8:Int) y7∧
bq IntKind.i64 ((3:Int) - bp.2)∧
bq IntKind.i64 ((↑s8:Int)+(1:Int))∧
∃(nn:Nat),
nn≤y6∧
y6 - nn<y6 - s8∧
(↑nn:Int)=(↑s8:Int)+(1:Int)∧
dL (bH t.1) r=dL (bH t.1) r∧
(↑y7:Int)=(↑y7:Int)∧
tp t.2 (dL (bH t.1) r) nn=
dc aL (iQ aL bI (bp.1,(3:Int) - bp.2))
bp true∧
t.1=t.1∧
b.1=b.1∧
b.2.1=b.2.1∧b.2.2.1=b.2.2.1∧b.2.2.2.1=b.2.2.2.1∧b.2.2.2.2=b.2.2.2.2∧True)∧
(y9=false→
(0:Int)=mh t r o b∧
t.1=t.1∧
bI.Perm y5∧
b.1=b.1∧
b.2.1.Perm b.2.1∧b.2.2.1.Perm b.2.2.1∧b.2.2.2.1.Perm b.2.2.2.1∧b.2.2.2.2.Perm b.2.2.2.2∧True))):=by kernel_rfl
theorem b70 (t:eG) (r:af) (o:List Bool) (b:av) (hn:gL t.1) (hr:r.2.2.2.1.length≤1000) (hb:kj b):bN (ah ay [(123,Du),(124,BW)]) Tryz.f70 VP (a70 (t,r,o,b,())) (t,r,o,b,()):=by
 rw[v70]
 have hl:=FJ hn r
 simp only[true_and,and_true,eq_self,List.Perm.refl]
 refine U.mk fun y4 e4=>U.mk fun y5 e5=>U.mk fun y6 e6=>U.mk fun y7 e7=> ?_
 have e7:y7=y6:=by rw[e6];exact e7
 subst e7
 refine⟨⟨⟨hn,hr⟩,hb⟩,fun h=> ?_,fun h=>⟨⟨hn,hr⟩,⟨0,by omega,by omega,rfl⟩,fun s=>U.mk fun y9 e9=>U.mk fun bp du=>U.mk fun bI eH=>fun hs=>⟨fun h9=> ?_,fun h9=> ?_⟩⟩⟩
 ·rw[h] at e4
  have:(mh t r o b==0)=false:=by
   cases hx:(mh t r o b==0) with
   |false=>rfl
   |true=>rw[iH,hx] at e4;cases e4
  rw[e5,this]
  exact .refl _
 ·have nC:=ba e9 h9
  rw[Int.toNat_natCast] at du
  have du:bp=(dL (bH t.1) r).getD s zT:=du
  have hm:bp∈dL (bH t.1) r:=by rw[du];exact fw zT (by omega)
  have hd:0≤bp.2∧bp.2≤2:=by
   unfold dL at hm
   exact yp _ r _ _ ((G3 _).mem_iff.1 hm)
  refine⟨⟨by omega,by omega⟩,bg (by omega) (by omega),bg (by omega) (by omega),s+1,by omega,by omega,by omega,?_⟩
  rw[eH,du]
  rfl
 ·have nC:=br e9 h9
  have hm:mh t r o b=0:=by
   rw[h,iH] at e4
   cases hx:(mh t r o b==0) with
   |false=>rw[hx] at e4;cases e4
   |true=>exact eq_of_beq hx
  refine⟨hm.symm,?_⟩
  have:s=(dL (bH t.1) r).length:=by omega
  subst this
  rw[eH,e5,hm]
  unfold C7
  exact .refl _
theorem ag9:ew Tryz.prog 70 VP:=
 ew.bZ (l:=[(123,Du),(124,BW)]) (A:=a70) aH ⟨W5,S6,trivial⟩ Tryz.func70 (by kernel_rfl) (by kernel_rfl) fun x hw hp=>b70 x.1 x.2.1 x.2.2.1 x.2.2.2.1 hp.1.1 hp.1.2 hp.2
def mQ (p:ab) (y:ak):Prop:=∃x,(bu p x).2=true∧y=(bu p x).1
structure Kept (p:ab) (Q:au→Prop):Prop where
 qG:∀s,Q s→s.1=p
 bare:∀s,Q s→Q (ui s)
 nk:∀s (y:ak),Q s→mQ p y→kD (iT s) y.1=false→bG (cL s) y.1=false→(cL s).length<12→Q (Mc s (cL s++[y.1]))
 hold:∀s z,Q s→Q (Bg s z)
 met:∀s m,Q s→Q (eN s m)
 guard:∀s (y:ak),Q s→mQ p y→kD (iT s) y.1=false→aI p y.1=2→(y.2==0)=false→bn (aP s) (y.1,y.2)=false→bn (aP s) (y.1,3 - y.2)=false→
  Q (zO s (aP s++[(y.1,3 - y.2)]))
theorem GO {p:ab} {Q:au→Prop} (k:Kept p Q) {s:au} (h:Q s) {y:ak} (hy:mQ p y) (ho:kD (iT s) y.1=false):Q (bL s y.1).2:=by
 unfold bL
 cases hm:bG (cL s) y.1 with
 |true=>exact h
 |false=>
  cases hl:decide (12≤(cL s).length) with
  |true=>exact k.bare _ h
  |false=>exact k.nk _ _ h hy ho hm (by have:=of_decide_eq_false hl;omega)
theorem yI {p:ab} {Q:au→Prop} (k:Kept p Q) {rec:ak→au→au} (pe:∀y s,mQ p y→Q s→Q (rec y s)) (e stop:Int) {s:au} (h:Q s):Q (px rec e stop s):=by
 unfold px
 have hp:=k.qG s h
 cases hn:(bu s.1 (e,stop)).2 with
 |true=>exact pe _ _ ⟨(e,stop),by rw[←hp];exact hn,by rw[hp]⟩ h
 |false=>exact h
theorem Mj {p:ab} {Q:au→Prop} (k:Kept p Q) {rec:ak→au→au} (pe:∀y s,mQ p y→Q s→Q (rec y s)) {y:ak} {s:au} (h:Q s) (hy:mQ p y)
  (ho:kD (iT s) y.1=false) (hk:aI p y.1=2):Q (jg rec y s):=by
 have hz:=GO k h hy ho
 unfold jg
 cases h0:y.2==0 with
 |true=>
  cases (bL s y.1).1 with
  |true=>exact yI k pe _ _ (yI k pe _ _ hz)
  |false=>exact hz
 |false=>
  cases h1: !bn (cY s) (y.1,y.2)&& !bn (aP s) (y.1,y.2) with
  |true=>
   cases h2:bn (aP s) (y.1,3 - y.2) with
   |true=>exact h
   |false=>
    rw[Bool.and_eq_true] at h1
    exact k.guard s y h hy ho hk h0 (by simpa using h1.2) h2
  |false=>
   cases (bL s y.1).1 with
   |true=>exact yI k pe _ _ hz
   |false=>exact hz
theorem UN {p:ab} {Q:au→Prop} (k:Kept p Q) {rec:ak→au→au} (pe:∀y s,mQ p y→Q s→Q (rec y s)) {y:ak} {s:au} (h:Q s) (hy:mQ p y)
  (ho:kD (iT s) y.1=false):Q (vf rec y s):=by
 have hz:=GO k h hy ho
 have hp:=k.qG s h
 unfold vf
 cases decide (0≤b8 s.1 y)&& !s.1.2.2.2.2.2.2.2.2 with
 |true=>
  cases bG (cD s) (b8 s.1 y) with
  |true=>exact h
  |false=>exact k.hold _ _ h
 |false=>
  cases aI s.1 y.1==4 with
  |true=>exact k.bare _ h
  |false=>
   cases hk:aI s.1 y.1==2 with
   |true=>exact Mj k pe h hy ho (by rw[←hp];exact eq_of_beq hk)
   |false=>
    cases (bL s y.1).1 with
    |true=>exact yI k pe _ _ hz
    |false=>exact hz
theorem IG {p:ab} {Q:au→Prop} (k:Kept p Q):∀(n:Nat) (y:ak) (s:au),mQ p y→Q s→Q (dQ n y s)
 |0,_,_,_,h=>h
 |n+1,y,s,hy,h=>by
  show Q (sG (dQ n) y s)
  unfold sG
  cases hb:kD (iT s) y.1||fS (cr s) y with
  |true=>exact h
  |false=>
   rw[Bool.or_eq_false_iff] at hb
   refine UN k (IG k n) (k.met _ _ h) hy ?_
   unfold iT at hb ⊢
   exact hb.1
theorem qm {p:ab} {Q:au→Prop} (k:Kept p Q) {r:af} (h0:Q (s0 p r)):∀n,Q (bE p r n)
 |0=>h0
 |n+1=>yI k (IG k 161) _ _ (qm k h0 n)
def still (p:ab) (r:af) (s:au):Prop:=s.1=p∧s.2.1=r.1∧s.2.2.1=r.2.1∧s.2.2.2.1=r.2.2.1∧eL s=r.2.2.2.1∧cY s=r.2.2.2.2.1
theorem Oe (p:ab) (r:af):Kept p (still p r) where
 qG s h:=h.1
 bare s h:=h
 nk s y h _ _ _ _:=h
 hold s z h:=h
 met s m h:=h
 guard s y h _ _ _ _ _ _:=h
theorem th (p:ab) (r:af):(dT p r).1=r.1∧(dT p r).2.1=r.2.1∧(dT p r).2.2.1=r.2.2.1∧(dT p r).2.2.2.1=r.2.2.2.1∧(dT p r).2.2.2.2.1=r.2.2.2.2.1:=by
 have:=qm (Oe p r) (r:=r) ⟨rfl,rfl,rfl,rfl,rfl,rfl⟩ (bA p r).length
 obtain⟨h1,h2,h3,h4,h5,h6⟩:=this
 unfold dT iT
 exact⟨h2,h3,h4,h5,h6⟩
structure pL (p:ab):Prop where
 ai3:oI p=true
 check:bV p=0
 short:cS p
 made:Yh p=some (np p)
 len:(ct p).1.length≤64
 qF:∀r∈(ct p).1,∃q∈(cZ p).1,r=dT p q
theorem wm {p:ab} (h:(ct p).2=true):pL p:=by
 have hf:oI p=true:=by
  unfold ct at h
  cases hf:oI p with
  |true=>rfl
  |false=>rw[hf] at h;cases h
 obtain⟨_,hc,hl⟩:=PJ hf
 have hR:(ct p).1=(cx p).1.2∧(cx p).2=0:=by
  unfold ct at h ⊢
  rw[hf] at h ⊢
  exact⟨rfl,eq_of_beq h⟩
 have ha:(cZ p).2=0:=by
  have hb:=hR.2
  unfold cx at hb
  rw[hc] at hb
  cases ha:((cZ p).2==0) with
  |true=>exact eq_of_beq ha
  |false=>
   rw[ha] at hb
   have hb:(cZ p).2=0:=hb
   rw[hb] at ha
   cases ha
 have hB:(ct p).1=(cZ p).1.map (dT p):=by
  rw[hR.1]
  unfold cx
  rw[hc,ha]
  rfl
 refine⟨hf,hc,hl,?_,?_,fun r hr=> ?_⟩
 ·unfold Yh
  rw[hf]
  rfl
 ·rw[hB,List.length_map]
  exact DF p
 ·rw[hB] at hr
  obtain⟨q,hq,e⟩:=List.mem_map.1 hr
  exact⟨q,hq,e.symm⟩
theorem J3 {p:ab} (h:pL p) {r:af} (hr:r∈(ct p).1):r.2.2.2.1.length≤13∧r.2.2.2.2.1.length≤1000:=by
 obtain⟨q,hq,rfl⟩:=h.qF r hr
 obtain⟨_,h2,h3⟩:=GK (gr h.check).2.2.1 q hq
 have hs:=th p q
 rw[hs.2.2.2.1,hs.2.2.2.2]
 exact⟨h2,by omega⟩
def Ta (ts:List Ty):bh where
 args:=ts
 out:= .data [.bool]
 pre _:=True
 fn _:=(true,())
def zy {α:Type} (q:α→Bool) (xs:List α) (slot:Nat) (keep cy:List Nat):LA where
 σ:=Nat
 ok:=fun k=>k≤xs.length∧(xs.take k).any q=false
 mu:=fun k=>xs.length - k
 sl:=fun k=>[(slot,.one (.aC I (k:Int)))]
 bl:=fun _=>[]
 keep:=keep
 cy:=cy
def sO (x y:aY):Bool:=x.1==y.1&& !(x.2==y.2)
def ki (r:af):Prop:=r.2.2.2.1.length≤1000∧r.2.2.2.2.1.length≤1000∧r.2.2.2.2.2.1.length≤1000
@[irreducible] def bC (r:af):List aY:=r.2.2.2.2.1++r.2.2.2.2.2.1
theorem VE (p:ab) (x:ak):x∈bT p↔∃j∈p.2.1,x=j.1∨x=j.2:=by
 unfold bT
 rw[List.mem_flatMap]
 constructor
 ·rintro⟨j,hj,hx⟩
  exact⟨j,hj,by simpa using hx⟩
 ·rintro⟨j,hj,hx⟩
  exact⟨j,hj,by simpa using hx⟩
def Hq (s:cv):ak:=(s.1,s.2.2)
def aae (s:cv):ak:=(s.1,s.2.1)
def fP (l:List cv) (t:Nat):cv:=l.getD t iq
def chained (p:ab) (l:List cv):Prop:=∀t,t+1<l.length→bu p (Hq (fP l t))=(aae (fP l (t+1)),true)
def Mm (p:ab) (s:cv):Prop:=aI p s.1=4∨∃w∈bF p s.1 s.2.1,w.1=s.2.2
def Z2 (p:ab) (l:List cv) (n:aY):Prop:=(∃s∈l,s.1=n.1)∧(n.2=1∨n.2=2)
structure Wf (p:ab) (q:af):Prop where
 chain:chained p q.2.2.2.1
 nodup:(q.2.2.2.1.map Prod.fst).Nodup
 pass:∀s∈q.2.2.2.1,Mm p s
 Kg:∀n∈q.2.2.2.2.1,Z2 p q.2.2.2.1 n
 once:(q.2.2.2.2.1.map Prod.fst).Nodup
theorem yr {l:List cv} {s:cv} {t:Nat} (h:t<l.length):fP (l++[s]) t=fP l t:=by
 unfold fP
 rw[List.getD_eq_getElem?_getD,List.getElem?_append_left h,←List.getD_eq_getElem?_getD]
theorem EX (l:List cv) (s:cv):fP (l++[s]) l.length=s:=by
 unfold fP
 rw[List.getD_eq_getElem?_getD,List.getElem?_append_right (Nat.le_refl _)]
 simp
structure Zs (p:ab) (q:af) (x:ak) (met:List Int):Prop where
 run:Wf p q
 last:q.2.2.2.1.length≠0→bu p (Hq (fP q.2.2.2.1 (q.2.2.2.1.length - 1)))=(x,true)
 met:∀s∈q.2.2.2.1,s.1∈met
theorem yn (r:af) (s:cv) (pos stop to:Int):(eK r s pos stop to).2.2.2.2.1=r.2.2.2.2.1++(bif pos==0 then[] else[(s.1,pos)]):=by unfold eK;rfl
theorem zQ {p:ab} {q:af} {x:ak} {met:List Int} (g:Zs p q x met) (hx:x.1∉met) {o pos:Int} (stop to:Int) (hp:Mm p (x.1,x.2,o)) (vu:pos=0∨pos=1∨pos=2):Wf p (eK q (x.1,x.2,o) pos stop to):=by
 have ql:∀s∈q.2.2.2.1,s.1≠x.1:=fun s hs e=>hx (by rw[←e];exact g.met s hs)
 constructor
 ·rw[jJ]
  intro t ht
  rw[List.length_append] at ht
  have ht:t+1<q.2.2.2.1.length+1:=ht
  by_cases h:t+1<q.2.2.2.1.length
  ·rw[yr h,yr (by omega)]
   exact g.run.chain t h
  ·have e:t+1=q.2.2.2.1.length:=by omega
   rw[e,EX,yr (by omega)]
   have:=g.last (by omega)
   rw[show q.2.2.2.1.length - 1=t by omega] at this
   exact this
 ·rw[jJ,List.map_append,List.nodup_append]
  refine⟨g.run.nodup,by simp,fun a ha b hb e=> ?_⟩
  obtain⟨s,hs,rfl⟩:=List.mem_map.1 ha
  have hb:b=x.1:=by simpa using hb
  exact ql s hs (e.trans hb)
 ·rw[jJ]
  intro s hs
  rcases List.mem_append.1 hs with hs|hs
  ·exact g.run.pass s hs
  ·rw[List.mem_singleton.1 hs];exact hp
 ·rw[jJ,yn]
  intro n hn
  rcases List.mem_append.1 hn with hn|hn
  ·obtain⟨⟨s,hs,e⟩,h2⟩:=g.run.Kg n hn
   exact⟨⟨s,List.mem_append_left _ hs,e⟩,h2⟩
  ·cases h0:(pos==0) with
   |true=>rw[h0] at hn;exact absurd hn List.not_mem_nil
   |false=>
    rw[h0] at hn
    have hn:n=(x.1,pos):=List.mem_singleton.1 hn
    rw[hn]
    refine⟨⟨(x.1,x.2,o),List.mem_append_right _ (List.mem_singleton.2 rfl),rfl⟩,?_⟩
    rcases vu with h|h|h
    ·rw[h] at h0;cases h0
    ·exact .inl h
    ·exact .inr h
 ·rw[yn,List.map_append,List.nodup_append]
  refine⟨g.run.once,?_,fun a ha b hb e=> ?_⟩
  ·cases (pos==0) with
   |true=>exact List.nodup_nil
   |false=>show([x.1]:List Int).Nodup;simp
  ·obtain⟨n,hn,rfl⟩:=List.mem_map.1 ha
   obtain⟨⟨s,hs,e1⟩,_⟩:=g.run.Kg n hn
   cases h0:(pos==0) with
   |true=>rw[h0] at hb;exact absurd hb List.not_mem_nil
   |false=>
    rw[h0] at hb
    have hb:b=x.1:=by
     have hb:b∈[x.1]:=hb
     exact List.mem_singleton.1 hb
    exact ql s hs (by rw[e1,e,hb])
theorem UI {p:ab} {e i:Int} {w:Int×Int} (hw:w∈bF p e i):w.2=0∨w.2=1∨w.2=2:=by
 have hh:dx p (e,i)=true:=by
  cases hh:dx p (e,i) with
  |true=>rfl
  |false=>unfold bF at hw;rw[hh] at hw;cases hw
 unfold bF at hw
 rw[hh] at hw
 have hw:w∈(bif aI p e==1 then[(1 - i,0)] else bif aI p e==3 then[(tk i,0)] else bif aI p e==2 then(bif i==0 then[(1,1),(2,2)] else[(0,i)]) else[]):=hw
 cases h1:aI p e==1 with
 |true=>rw[h1] at hw;rw[List.mem_singleton.1 hw];exact .inl rfl
 |false=>
  rw[h1] at hw
  have hw:w∈(bif aI p e==3 then[(tk i,0)] else bif aI p e==2 then(bif i==0 then[(1,1),(2,2)] else[(0,i)]) else[]):=hw
  cases h3:aI p e==3 with
  |true=>rw[h3] at hw;rw[List.mem_singleton.1 hw];exact .inl rfl
  |false=>
   rw[h3] at hw
   have hw:w∈(bif aI p e==2 then(bif i==0 then[(1,1),(2,2)] else[(0,i)]) else[]):=hw
   cases h2:aI p e==2 with
   |false=>rw[h2] at hw;exact absurd hw List.not_mem_nil
   |true=>
    rw[h2] at hw
    have hw:w∈(bif i==0 then[(1,1),(2,2)] else[(0,i)]):=hw
    cases h0:(i==0) with
    |true=>
     rw[h0] at hw
     have hw:w=(1,1)∨w=(2,2):=by simpa using hw
     rcases hw with rfl|rfl
     ·exact .inr (.inl rfl)
     ·exact .inr (.inr rfl)
    |false=>
     rw[h0] at hw
     have hw:w=(0,i):=List.mem_singleton.1 hw
     rw[hw]
     have hk:aI p e=2:=eq_of_beq h2
     unfold dx at hh
     have hh:(decide (0≤e)&&(decide (e<(p.1.length:Int))&&(decide (0≤i)&&decide (i<cO (aI p e)))))=true:=hh
     rw[hk,show cO 2=3 by unfold cO;rfl] at hh
     simp only[Bool.and_eq_true,decide_eq_true_eq] at hh
     have:i≠0:=fun e=>by rw[e] at h0;cases h0
     show i=0∨i=1∨i=2
     omega
theorem SZ {p:ab}:∀(n:Nat) (r:af) (x:ak) (met:List Int),Zs p r x met→∀q∈mZ p n r x met,Wf p q
 |0,_,_,_,_,q,hq=>absurd hq List.not_mem_nil
 |n+1,r,x,met,g,q,hq=>by
  have hq:q∈nA p (mZ p n) r x met:=hq
  unfold nA at hq
  cases h1:bG met x.1||decide (r.2.2.2.1.length=12) with
  |true=>rw[h1] at hq;cases hq
  |false=>
   rw[h1] at hq
   have hx:x.1∉met:=fun hx=>by
    have:=(Bool.or_eq_false_iff.1 h1).1
    unfold bG at this
    have:=List.any_eq_false.1 this _ hx
    simp at this
   cases h2:aI p x.1==4 with
   |true=>
    rw[h2] at hq
    have hq:q=eK r (x.1,x.2, -1) 0 2 (-1):=by simpa using hq
    rw[hq]
    exact zQ g hx 2 (-1) (.inl (eq_of_beq h2)) (.inl rfl)
   |false=>
    rw[h2] at hq
    have hq:q∈jc p (mZ p n) r x (met++[x.1]) (bF p x.1 x.2).length:=hq
    unfold jc at hq
    rw[List.take_length] at hq
    obtain⟨w,hw,hq⟩:=List.mem_flatMap.1 hq
    have hp:Mm p (x.1,x.2,w.1):= .inr ⟨w,hw,rfl⟩
    have vu:=UI hw
    unfold qJ at hq
    cases h3:decide (0≤b8 p (x.1,w.1)) with
    |true=>
     rw[h3] at hq
     have hq:q=eK r (x.1,x.2,w.1) w.2 1 (b8 p (x.1,w.1)):=by simpa using hq
     rw[hq]
     exact zQ g hx _ _ hp vu
    |false=>
     rw[h3] at hq
     cases h4:(bu p (x.1,w.1)).2 with
     |false=>
      rw[h4] at hq
      have hq:q=eK r (x.1,x.2,w.1) w.2 3 (-1):=by simpa using hq
      rw[hq]
      exact zQ g hx _ _ hp vu
     |true=>
      rw[h4] at hq
      have hq:q∈mZ p n (eK r (x.1,x.2,w.1) w.2 0 (-1)) (bu p (x.1,w.1)).1 (met++[x.1]):=hq
      refine SZ n _ _ _ ⟨zQ g hx _ _ hp vu,fun _=> ?_,fun s hs=> ?_⟩ q hq
      ·rw[jJ,List.length_append]
       show bu p (Hq (fP _ (r.2.2.2.1.length+1 - 1)))=_
       rw[Nat.add_sub_cancel,EX,←h4]
       rfl
      ·rw[jJ] at hs
       rcases List.mem_append.1 hs with hs|hs
       ·exact List.mem_append_left _ (g.met s hs)
       ·rw[List.mem_singleton.1 hs]
        exact List.mem_append_right _ (List.mem_singleton.2 rfl)
theorem YM {p:ab}:∀q∈(cZ p).1,Wf p q:=by
 intro q hq
 unfold cZ at hq
 cases h:cd (jW p) p.2.2.1.length with
 |true=>rw[h] at hq;cases hq
 |false=>
  rw[h] at hq
  have hq:q∈fL p p.2.2.1.length:=hq
  unfold fL at hq
  obtain⟨s,_,hq⟩:=List.mem_flatMap.1 hq
  unfold pr at hq
  cases h1:(lB p (s:Int)).2 with
  |false=>rw[h1] at hq;cases hq
  |true=>
   rw[h1] at hq
   cases h2:(bu p (lB p (s:Int)).1).2 with
   |false=>rw[h2] at hq;cases hq
   |true=>
    rw[h2] at hq
    have h0:Wf p (wo (s:Int)):=⟨fun t ht=>absurd ht (by show ¬t+1<0;omega),List.nodup_nil,fun s hs=>absurd hs List.not_mem_nil,fun n hn=>absurd hn List.not_mem_nil,List.nodup_nil⟩
    exact SZ 13 _ _ _ ⟨h0,fun h=>absurd rfl h,fun s hs=>absurd hs List.not_mem_nil⟩ q hq
theorem J2 {p:ab} (h:pL p) {r:af} (hr:r∈(ct p).1):Wf p r:=by
 obtain⟨q,hq,rfl⟩:=h.qF r hr
 have hs:=th p q
 have:=YM q hq
 constructor
 ·rw[hs.2.2.2.1];exact this.chain
 ·rw[hs.2.2.2.1];exact this.nodup
 ·rw[hs.2.2.2.1];exact this.pass
 ·rw[hs.2.2.2.1,hs.2.2.2.2];exact this.Kg
 ·rw[hs.2.2.2.2];exact this.once
structure Row (p:ab) (C:Nat→ak) (m:Nat):Prop where
 ak8:∀k,k<m→aI p (C k).1=1
 ends:∀k,k<m→(C k).2=0∨(C k).2=1
 next:∀k,k+1<m→bu p ((C k).1,1 - (C k).2)=(C (k+1),true)
 apart:∀j k,j<m→k<m→(C j).1=(C k).1→j=k
theorem Oz {p:ab} (h:pL p) {r:af} (hr:r∈(ct p).1):ki r:=by
 have hl:=J3 h hr
 obtain⟨q,hq,rfl⟩:=h.qF r hr
 obtain⟨h1,h2,h3⟩:=GK (gr h.check).2.2.1 q hq
 have hon:=(wM (p:=p) (r:=q) ⟨h.check,⟨by omega,h1⟩,by omega⟩ (bA p q).length)
 have hi:=hon.1.1
 have hm:=pX hi.nodup hi.sub
 have hg:=hi.guards
 have he:(bT (bE p q (bA p q).length).1).length≤160:=by
  rw[hon.2,mj]
  have:=(jB (gr h.check).1).2.2.2
  omega
 refine⟨by omega,hl.2,?_⟩
 have:(dT p q).2.2.2.2.2.1=aP (bE p q (bA p q).length):=by unfold dT iT;rfl
 rw[this]
 omega
def w8 (l:List Int) (j:Nat):List Int:=(l.set (j+1) (l.getD j 0)).set j (l.getD (j+1) 0)
def yW:Nat→List Int→List Int
 |0,l=>l
 |j+1,l=>bif decide (l.getD (j+1) 0<l.getD j 0) then yW j (w8 l j) else l
def mJ (l:List Int):Nat→List Int
 |0=>l
 |k+1=>yW k (mJ l k)
def Eh (a b:Int):Bool:=decide (a≤b)
def Yt:fq where
 args:=[.row 3 I]
 outs:=[]
 pre:=fun(x:List Int×Unit)=>x.1.length≤1000000
 fn:=fun _=>()
 fO:=fun(x:List Int×Unit)=>(mJ x.1 x.1.length,x.2)
def TA:bh where
 args:=[.list ek]
 out:= .data [.list ek]
 pre:=fun(x:List aY×Unit)=>cQ x.1
 fn:=fun(x:List aY×Unit)=>(x.1,())
def BR:bh where
 args:=[.list ek]
 out:= .row 90 ek
 pre:=fun(x:List aY×Unit)=>cQ x.1
 fn:=fun(x:List aY×Unit)=>(x.1,())
def TB:bh where
 args:=[.list I]
 out:= .data [.list I]
 pre:=fun(x:List Int×Unit)=>cQ x.1
 fn:=fun(x:List Int×Unit)=>(x.1,())
def j9 {α:Type} (m:List (Int×List α)) (o:Int):List α:=(aT I m o).getD []
structure ga (b:av):Prop where
 steps:∀x∈b.2.1,x.2.length≤1000
 nk:∀x∈b.2.2.1,x.2.length≤1000
 uv:∀x∈b.2.2.2.1,x.2.length≤1000
 guards:∀x∈b.2.2.2.2,x.2.length≤1000
 rU:b.2.1.length≤1000∧b.2.2.1.length≤1000∧b.2.2.2.1.length≤1000
def EC (b:av) (e:Int):Bool:=decide (0≤e)&&decide (e<b.1)
def KS:bh where
 args:=[.ref rb,I]
 out:= .data [.bool]
 pre:=fun(x:av×Int×Unit)=>True
 fn:=fun(x:av×Int×Unit)=>(EC x.1 x.2.1,())
@[irreducible] def gE (b:av) (o:Int):Bool:=decide (((j9 b.2.1 o).length:Int)+((j9 b.2.2.1 o).length:Int)+((j9 b.2.2.2.2 o).length:Int)>0)
def BT:bh where
 args:=[.ref rb,I]
 out:= .data [.bool]
 pre:=fun(x:av×Int×Unit)=>ga x.1
 fn:=fun(x:av×Int×Unit)=>(gE x.1 x.2.1,())
def qx (b:av) (r:af) (i:Nat):Bool:=EC b (fP r.2.2.2.1 i).1&& !cd (fun j=>(fP r.2.2.2.1 j).1==(fP r.2.2.2.1 i).1) i
def r8 (b:av) (r:af) (e:Int):Bool:=EC b e&& !bG (cm r) e
def eS (r:af) (i:Nat):aY:=(bC r).getD i (0,0)
def lQ (b:av) (r:af) (i:Nat):Bool:=EC b (eS r i).1&&(((eS r i).2==1||(eS r i).2==2)&& !cd (fun j=>sO (eS r j) (eS r i)) i)
@[irreducible] def oh (b:av) (r:af):Bool:=
 !decide (r.2.2.2.1.length=0)&&(db (qx b r) r.2.2.2.1.length&&(r.2.2.2.2.2.2.1.all (r8 b r)&&db (lQ b r) (r.2.2.2.2.1.length+r.2.2.2.2.2.1.length)))
def Lc:bh where
 args:=[.ref rb,eP]
 out:= .data [.bool]
 pre:=fun(x:av×af×Unit)=>ki x.2.1
 fn:=fun(x:av×af×Unit)=>(oh x.1 x.2.1,())
def fY (r:af) (k:Nat):List (Int×Bool):=(r.2.2.2.1.take k).map fun s=>(s.1,true)
def ji (r:af):Nat→List (Int×Int)
 |0=>[]
 |k+1=>dc I (ji r k) (eS r k).1 (eS r k).2
def j8 (r:af):Nat→Nat
 |0=>0
 |1=>r.2.2.2.2.1.length
 |_=>r.2.2.2.2.1.length+r.2.2.2.2.2.1.length
def uD (r:af):Nat→List aY
 |0=>r.2.2.2.2.1
 |_=>r.2.2.2.2.2.1
def a196 (x:av×af×Unit):eC:=bj [
 (5,fun _=>{
  σ:=Nat
  ok:=fun k=>k≤x.2.1.2.2.2.1.length∧db (qx x.1 x.2.1) k=true
  mu:=fun k=>x.2.1.2.2.2.1.length - k
  sl:=fun k=>[(25,.one (.aC I (k:Int)))]
  bl:=fun k=>[(21,.map false I .bool (fY x.2.1 k) none)]
  keep:=[0,3,5,23,24]
  cy:=[3]}),
 (12,fun _=>{
  σ:=Nat
  ok:=fun k=>k≤x.2.1.2.2.2.2.2.2.1.length∧(x.2.1.2.2.2.2.2.2.1.take k).all (r8 x.1 x.2.1)=true
  mu:=fun k=>x.2.1.2.2.2.2.2.2.1.length - k
  sl:=fun k=>[(47,.one (.aC I (k:Int)))]
  bl:=fun k=>[]
  keep:=[0,3,5,45,46]
  cy:=[3,21]}),
 (19,fun _=>{
  σ:=Nat
  ok:=fun k=>k≤2∧db (lQ x.1 x.2.1) (j8 x.2.1 k)=true
  mu:=fun k=>2 - k
  sl:=fun k=>[(68,.one (.aC I (k:Int)))]
  bl:=fun k=>[(61,.map false I I (ji x.2.1 (j8 x.2.1 k)) none)]
  keep:=[0,10,66,67]
  cy:=[66]}),
 (22,fun S=>{
  σ:=Nat
  ok:=fun k=>k≤(uD x.2.1 (dC S 68).toNat).length∧db (lQ x.1 x.2.1) (j8 x.2.1 (dC S 68).toNat+k)=true
  mu:=fun k=>(uD x.2.1 (dC S 68).toNat).length - k
  sl:=fun k=>[(74,.one (.aC I (k:Int)))]
  bl:=fun k=>[(61,.map false I I (ji x.2.1 (j8 x.2.1 (dC S 68).toNat+k)) none)]
  keep:=[0,10,66,67,68,72,73]
  cy:=[66]})]
def eD (e:Int) (l:List (Int×List Int)):List Int:=(l.filter fun x=>bG x.2 e).map fun x=>x.1
@[irreducible] def kb (b:av) (e:Int):List Int:=mJ (eD e b.2.2.1) (eD e b.2.2.1).length
def o7 (b:av) (e:Int):Prop:=b.2.2.1.length≤1000
def c30:bh where
 args:=[.ref rb,I]
 out:= .data [.list I]
 pre:=fun(x:av×Int×Unit)=>o7 x.1 x.2.1
 fn:=fun(x:av×Int×Unit)=>(kb x.1 x.2.1,())
def Yz:bh where
 args:=[.ref rb,I]
 out:= .row 3 I
 pre:=fun(x:av×Int×Unit)=>o7 x.1 x.2.1
 fn:=fun(x:av×Int×Unit)=>(kb x.1 x.2.1,())
def jD {α:Type} (l:List α) (s:List α×List α):Prop:=l.Perm (s.2++s.1)
def a30 (x:av×Int×Unit):eC:=bj [(3,fun _=>{
 σ:=List (Int×List Int)×List (Int×List Int)
 ok:=fun s=>jD x.1.2.2.1 s
 mu:=fun s=>s.1.length
 sl:=fun s=>[(12,.one (.ptr 12 0)),(5,.one (.row I 1000))]
 bl:=fun s=>[(12,.iter I (.list I) s.1 none),(1000,.row false 3 I (eD x.2.1 s.2))]
 keep:=[0,1]
 cy:=[]})] [20]
def lP (b:av) (o:Int):List aY:=j9 b.2.2.2.1 o++j9 b.2.2.2.2 o
def lS (b:av) (o e:Int):Option aY:=(lP b o).find? fun x=>x.1==e
def holds (b:av) (e:Int) (x:Int×List aY):Bool:=(lS b x.1 e).isSome
def gd (b:av) (e:Int) (l:List (Int×List aY)):Int:=match l.find? (holds b e) with
 |some x=>((lS b x.1 e).getD (0,0)).2
 |none=>0
@[irreducible] def lA (b:av) (e:Int):Int×Int:=(gd b e b.2.2.2.1,((b.2.2.2.1.filter (holds b e)).length:Int))
def pG (b:av) (e:Int):Prop:=∀x∈b.2.2.2.1,∀y∈b.2.2.2.1,∀u v,lS b x.1 e=some u→lS b y.1 e=some v→u.2=v.2
def ND:bh where
 args:=[.ref rb,I]
 out:= .data [I,I]
 pre:=fun(x:av×Int×Unit)=>ga x.1∧pG x.1 x.2.1
 fn:=fun(x:av×Int×Unit)=>((lA x.1 x.2.1).1,(lA x.1 x.2.1).2,())
def YH (S:St) (n:Nat):List (Int×List aY):=
 match find S.bl n with
 |some (.iter (.int _) (.list (.pair (.int _) (.int _))) todo _)=>todo
 |_=>[]
def a33 (x:av×Int×Unit):eC:=bj [(3,fun _=>{
 σ:=List (Int×List aY)×List (Int×List aY)
 ok:=fun s=>jD x.1.2.2.2.1 s
 mu:=fun s=>s.1.length
 sl:=fun s=>[(15,.one (.ptr 15 0)),(6,.one (.aC I (gd x.1 x.2.1 s.2))),(7,.one (.aC I ((s.2.filter (holds x.1 x.2.1)).length:Int)))]
 bl:=fun s=>[(15,.iter I (.list ek) s.1 none)]
 keep:=[0,1]
 cy:=[]}),
 (6,fun S=>{
 σ:=Nat
 ok:=fun k=>k≤(lP x.1 (dC S 8)).length∧((lP x.1 (dC S 8)).take k).any (fun n=>n.1==x.2.1)=false
 mu:=fun k=>(lP x.1 (dC S 8)).length - k
 sl:=fun k=>[(35,.one (.aC I (k:Int)))]
 bl:=fun k=>[(15,.iter I (.list ek) (YH S 15) none)]
 keep:=[0,1,6,7,8,15,33,34]
 cy:=[33]})]
def kV (b:av) (s:cv):Bool:=decide (0≤eT b s.1)||decide (0<(kb b s.1).length)
def ld (b:av) (x:aY):Bool:= !((lA b x.1).1==0)&& !((lA b x.1).1==x.2)
@[irreducible] def jv (b:av) (o:Int) (r:af):Int:=
 bif decide (o<0)||(gE b o|| !oh b r) then 1 else bif r.2.2.2.1.any (kV b) then 14 else bif r.2.2.2.2.2.2.1.any (fun e=>decide (0≤eT b e)) then 14 else
  bif(bC r).any (ld b) then 15 else 0
structure pT (b:av):Prop where
 small:ga b
 rU:kj b
 held:∀e,pG b e
 Nr:∀e,o7 b e
def Dv:bh where
 args:=[.ref rb,I,eP]
 out:= .data [I]
 pre:=fun(x:av×Int×af×Unit)=>pT x.1∧ki x.2.2.1
 fn:=fun(x:av×Int×af×Unit)=>(jv x.1 x.2.1 x.2.2.1,())
def Y8 (x:av×Int×af×Unit):eC:=bj [
 (4,fun _=>zy (kV x.1) x.2.2.1.2.2.2.1 33 [0,5,31,32] [5]),
 (10,fun _=>zy (fun e=>decide (0≤eT x.1 e)) x.2.2.1.2.2.2.2.2.2.1 54 [0,5,52,53] [5]),
 (16,fun _=>{
  σ:=Nat
  ok:=fun k=>k≤2∧((bC x.2.2.1).take (j8 x.2.2.1 k)).any (ld x.1)=false
  mu:=fun k=>2 - k
  sl:=fun k=>[(69,.one (.aC I (k:Int)))]
  bl:=fun k=>[]
  keep:=[0,67,68]
  cy:=[67]}),
 (19,fun S=>{
  σ:=Nat
  ok:=fun k=>k≤(uD x.2.2.1 (dC S 69).toNat).length∧((bC x.2.2.1).take (j8 x.2.2.1 (dC S 69).toNat+k)).any (ld x.1)=false
  mu:=fun k=>(uD x.2.2.1 (dC S 69).toNat).length - k
  sl:=fun k=>[(75,.one (.aC I (k:Int)))]
  bl:=fun k=>[]
  keep:=[0,67,68,69,73,74]
  cy:=[67]})]
def oJ (r:af) (k:Nat):List Int:=(r.2.2.2.1.take k).map fun s=>s.1
def taken (b:av) (o:Int) (r:af):av:=(b.1,dc I b.2.1 o (cm r),dc I b.2.2.1 o r.2.2.2.2.2.2.1,dc I b.2.2.2.1 o r.2.2.2.2.1,dc I b.2.2.2.2 o r.2.2.2.2.2.1)
@[irreducible] def og (b:av) (o:Int) (r:af):av:=bif jv b o r==0 then taken b o r else b
def VO:fq where
 args:=[v7,.aC I,.aC eP]
 outs:=[.aC I]
 pre:=fun(x:av×Int×af×Unit)=>(pT x.1∧ki x.2.2.1)∧cQ x.2.2.1.2.2.2.2.2.2.1
 fn:=fun(x:av×Int×af×Unit)=>(jv x.1 x.2.1 x.2.2.1,())
 fO:=fun(x:av×Int×af×Unit)=>(og x.1 x.2.1 x.2.2.1,x.2.1,x.2.2.1,())
def a71 (x:av×Int×af×Unit):eC:=bj [(6,fun _=>mN x.2.2.1.2.2.2.1.length 21 8 1000 3 I (oJ x.2.2.1) [0,1,5,19,20] [5,1000000,1000001,1000002,1000003,1000004])]
theorem Bc (l:List Int) (j:Nat):(w8 l j).length=l.length:=by unfold w8;simp
theorem Kn:∀(j:Nat) (l:List Int),(yW j l).length=l.length
 |0,_=>rfl
 |j+1,l=>by
  unfold yW
  cases decide (l.getD (j+1) 0<l.getD j 0) with
  |true=>rw[cond_true,Kn j,Bc]
  |false=>rw[cond_false]
theorem xd (l:List Int):∀(k:Nat),(mJ l k).length=l.length
 |0=>rfl
 |k+1=>by show(yW k (mJ l k)).length=_;rw[Kn,xd l k]
theorem ET:∀(j:Nat) (l:List Int),j+1<l.length→(w8 l j).Perm l
 |_,[],h=>by simp at h
 |0,[x],h=>by simp at h
 |0,x::y::l,_=>by show(y::x::l).Perm _;exact .swap x y l
 |j+1,x::l,h=>by
  have:=ET j l (by simp at h;omega)
  have e:w8 (x::l) (j+1)=x::w8 l j:=by unfold w8;simp
  rw[e]
  exact this.cons x
theorem HQ:∀(j:Nat) (l:List Int),j<l.length→(yW j l).Perm l
 |0,l,_=> .refl l
 |j+1,l,h=>by
  unfold yW
  cases decide (l.getD (j+1) 0<l.getD j 0) with
  |true=>rw[cond_true];exact(HQ j _ (by rw[Bc];omega)).trans (ET j l h)
  |false=>exact .refl l
theorem ve (l:List Int):∀(k:Nat),k≤l.length→(mJ l k).Perm l
 |0,_=> .refl l
 |k+1,h=>(HQ k _ (by rw[xd];omega)).trans (ve l k (by omega))
theorem Am (l:List Int) (j:Nat) (h:j+1<l.length) (i:Nat):(w8 l j).getD i 0=if i=j then l.getD (j+1) 0 else if i=j+1 then l.getD j 0 else l.getD i 0:=by
 unfold w8
 simp only[List.getD_eq_getElem?_getD,List.getElem?_set,List.length_set]
 by_cases h1:i=j
 ·subst h1
  simp[show i<l.length by omega]
 ·by_cases h2:i=j+1
  ·subst h2
   simp[h,h1]
  ·rw[if_neg (fun e=>h1 e.symm),if_neg (fun e=>h2 e.symm),if_neg h1,if_neg h2]
structure Zr (l:List Int) (j K:Nat):Prop where
 rest:∀a b,a<b→b<K→a≠j→b≠j→l.getD a 0≤l.getD b 0
 lt:∀b,j<b→b<K→l.getD j 0<l.getD b 0
theorem CT:∀(j K:Nat) (l:List Int),j<K→K≤l.length→Zr l j K→∀a b,a<b→b<K→(yW j l).getD a 0≤(yW j l).getD b 0
 |0,K,l,_,_,hi,a,b,yZ,hb=>by
  show l.getD a 0≤l.getD b 0
  by_cases h:a=0
  ·subst h;exact Int.le_of_lt (hi.lt b (by omega) hb)
  ·exact hi.rest a b yZ hb h (by omega)
 |j+1,K,l,hj,hK,hi,a,b,yZ,hb=>by
  unfold yW
  cases h:decide (l.getD (j+1) 0<l.getD j 0) with
  |true=>
   have h:=of_decide_eq_true h
   rw[cond_true]
   refine CT j K _ (by omega) (by rw[Bc];exact hK) ⟨fun a b yZ hb h1 h2=> ?_,fun b h1 hb=> ?_⟩ a b yZ hb
   ·rw[Am l j (by omega),Am l j (by omega),if_neg h1,if_neg h2]
    by_cases h3:a=j+1
    ·rw[if_pos h3,if_neg (by omega)]
     exact hi.rest j b (by omega) hb (by omega) (by omega)
    ·rw[if_neg h3]
     by_cases h4:b=j+1
     ·rw[if_pos h4]
      exact hi.rest a j (by omega) (by omega) h3 (by omega)
     ·rw[if_neg h4]
      exact hi.rest a b yZ hb h3 h4
   ·rw[Am l j (by omega),Am l j (by omega),if_pos rfl,if_neg (by omega)]
    by_cases h4:b=j+1
    ·rw[if_pos h4];exact h
    ·rw[if_neg h4]
     exact hi.lt b (by omega) hb
  |false=>
   have h:l.getD j 0≤l.getD (j+1) 0:=by have:=of_decide_eq_false h;omega
   rw[cond_false]
   by_cases h3:a=j+1
   ·subst h3;exact Int.le_of_lt (hi.lt b yZ hb)
   ·by_cases h4:b=j+1
    ·subst h4
     by_cases h5:a=j
     ·subst h5;exact h
     ·exact Int.le_trans (hi.rest a j (by omega) (by omega) h3 (by omega)) h
    ·exact hi.rest a b yZ hb h3 h4
theorem AJ (l:List Int):∀(k:Nat),k≤l.length→∀a b,a<b→b<k→(mJ l k).getD a 0≤(mJ l k).getD b 0
 |0,_,a,b,_,hb=>by omega
 |k+1,h,a,b,yZ,hb=>by
  show(yW k (mJ l k)).getD a 0≤_
  refine CT k (k+1) _ (by omega) (by rw[xd];exact h) ⟨fun a b yZ hb h1 h2=> ?_,fun b h1 h2=>by omega⟩ a b yZ hb
  exact AJ l k (by omega) a b yZ (by omega)
theorem HM (a b c:Int) (h1:Eh a b=true) (h2:Eh b c=true):Eh a c=true:=by
 unfold Eh at *
 have h1:=of_decide_eq_true h1
 have h2:=of_decide_eq_true h2
 exact decide_eq_true (by omega)
theorem HN (a b:Int):(Eh a b||Eh b a)=true:=by
 unfold Eh
 by_cases h:a≤b
 ·rw[decide_eq_true h];rfl
 ·rw[decide_eq_true (show b≤a by omega),Bool.or_true]
theorem Ki {l m:List Int} (hp:m.Perm l) (hs:m.Pairwise fun a b=>a≤b):m=l.mergeSort Eh:=by
 refine List.Perm.eq_of_pairwise (le:=fun a b:Int=>a≤b) (fun a b _ _ h1 h2=>by omega) hs ?_ (hp.trans (List.mergeSort_perm l Eh).symm)
 exact(List.pairwise_mergeSort HM HN l).imp fun h=>of_decide_eq_true h
theorem xc (l:List Int):mJ l l.length=l.mergeSort Eh:=by
 refine Ki (ve l _ (Nat.le_refl _)) ?_
 rw[List.pairwise_iff_getElem]
 intro a b ha hb yZ
 have:=AJ l l.length (Nat.le_refl _) a b yZ (by rw[xd] at hb;exact hb)
 rw[eA 0 ha,eA 0 hb] at this
 exact this
theorem OX {l m:List Int} (h:l.Perm m):l.mergeSort Eh=m.mergeSort Eh:=
 Ki ((List.mergeSort_perm l Eh).trans h) ((List.pairwise_mergeSort HM HN l).imp fun h=>of_decide_eq_true h)
theorem Og {l m:List Int} (h:l.Perm m):mJ l l.length=mJ m m.length:=by
 rw[xc,xc]
 exact OX h
end YtjnappfomhkeeaaGreat
end Go.Proofs
end

section
set_option maxRecDepth 100000
set_option linter.unusedVariables false
set_option linter.unusedSimpArgs false
set_option maxHeartbeats 2000000
namespace Go.Vc
open Go Go.Sort Go.RowKit
theorem UA {w:World} {b e n:Nat} {vs:Array Value} {fr:Nat×Nat} {os:Array Obj} {zs:List Int} (h:w.heap[b]? =some (.cells vs e fr)):
  (grow (putRow (Value.int .i64) (Sort.ahead w n) b 0 zs.toArray) os).heap[b]? =some (.cells (putCells (Value.int .i64) 0 zs.toArray vs) e fr):=by
 have dK:=dw h
 show((w.heap.modify b _)++os)[b]? =_
 rw[Array.getElem?_append_left (by simpa using dK),Array.getElem?_modify,if_pos rfl,h]
 rfl
theorem J7 {w:World} {b n:Nat} {os:Array Obj} {zs:List Int}:sD (fun k=>k=b) w (grow (putRow (Value.int .i64) (Sort.ahead w n) b 0 zs.toArray) os) where
 os:=rfl
 tape:=rfl
 output:=rfl
 size:=by
  show w.heap.size≤((w.heap.modify b _)++os).size
  simp
 block k hk jS:=by
  show((w.heap.modify b _)++os)[k]? =_
  rw[Array.getElem?_append_left (by simpa using hk),Array.getElem?_modify,if_neg (fun e=>jS e.symm)]
theorem Hf {E:Env} {w:World} {p:Place} {e:Nat} {xs:List Int} (h:nT E w p false e (.int .i64) xs):Holds (Value.int .i64) w p.bc 0 xs.toArray:=by
 obtain⟨h0,⟨h1,h2⟩,vs,h3,h4,_,h5⟩:=h
 intro j hj
 have hj:j<xs.length:=by simpa using hj
 obtain⟨us,k1,k2,k3⟩:=h5 j xs[j] (List.getElem?_eq_getElem hj)
 have k1:us=[.int .i64 xs[j]]:=k1.1
 subst k1
 have k3:=k3 0 _ rfl
 have k3:vs[j*1+0]? =some (.int .i64 xs[j]):=k3
 rw[Nat.mul_one,Nat.add_zero] at k3
 refine⟨?_,?_⟩
 ·unfold World.cell?
  rw[h3]
  simp only[Nat.zero_add,Option.isSome_none,Bool.false_eq_true,if_false]
  rw[k3]
  simp[hj]
 ·unfold World.frozen?
  rw[h3]
  simp
theorem Ow {F:Mem} {w:World} {p:Place} {e n:Nat} {xs zs ys:List Int} {os:Array Obj} (h:nT ⟨F,fun _=>none⟩ w p false e (.int .i64) xs) (hz:zs.length=xs.length) (hy:ys.length≤zs.length) (Gc:∀i,i<ys.length→ys[i]? =zs[i]?) (hr:∀y∈ys,bq .i64 y):
  nT ⟨F,fun _=>none⟩ (grow (putRow (Value.int .i64) (Sort.ahead w n) p.bc 0 zs.toArray) os) ⟨p.nil,p.bc,p.cap,ys.length⟩ false e (.int .i64) ys:=by
 obtain⟨h0,⟨h1,h2⟩,vs,h3,h4,_,h5⟩:=h
 have h4:vs.size=p.cap*1:=h4
 refine⟨h0,⟨rfl,by show ys.length≤p.cap;omega⟩,_,UA h3,?_,(fun h=>by cases h),fun i x hx=> ?_⟩
 ·show(putCells _ 0 zs.toArray vs).size=p.cap*1
  unfold putCells
  simpa using h4
 ·have hi:=(List.getElem?_eq_some_iff.1 hx).1
  rw[Gc i hi] at hx
  obtain⟨hi2,Ph⟩:=List.getElem?_eq_some_iff.1 hx
  have hm:x∈ys:=List.mem_of_getElem? (by rw[Gc i hi];exact hx)
  refine⟨[.int .i64 x],⟨rfl,hr x hm⟩,rfl,fun j u hu=> ?_⟩
  have hj:j=0:=by
   cases j with
   |zero=>rfl
   |succ j=>simp at hu
  subst hj
  have hu:Value.int .i64 x=u:=by simpa using hu
  show(putCells _ 0 zs.toArray vs)[i*1+0]? =some u
  rw[←hu,Nat.mul_one,Nat.add_zero]
  unfold putCells
  rw[Array.getElem?_mapIdx,Array.getElem?_eq_getElem (by omega)]
  simp[hi2,Ph]
theorem Oy {E:Env} {w:World} {p:Place} {e:Nat} {xs:List Int} (h:nT E w p false e (.int .i64) xs):∀x∈xs,bq .i64 x:=by
 obtain⟨_,_,vs,_,_,_,h5⟩:=h
 intro x hx
 obtain⟨i,hi,rfl⟩:=List.mem_iff_getElem.1 hx
 obtain⟨us,k1,_⟩:=h5 i _ (List.getElem?_eq_getElem hi)
 exact k1.2
theorem ew.Ws {P:Program} {f e:Nat} {fn:Func} {code:Code} {L:Nat} {g:List Int→List Int} (hf:P.funcs[f]? =some fn) (hn:(fn.name=="runtime.NumGoroutine")=false) (hb:fn.body=some code)
  (hg:∀l,(g l).Perm l) (hL:L<4611686018427387904) (h0:∀w,Calls P f #[.slice none 0 0] w fun e w'=>e= .returned (.tuple #[])∧w'=w)
  (h1:∀(bc cap:Nat) (zs:List Int) (w:World),Holds (Value.int .i64) w bc 0 zs.toArray→bc<w.heap.size→zs.length≤L→
   Calls P f #[.slice (some ⟨bc,0,none⟩) zs.length cap] w fun e w'=>e= .returned (.tuple #[])∧∃n os,w'=grow (putRow (Value.int .i64) (Sort.ahead w n) bc 0 (g zs).toArray) os)
  {pre:(cX [.row e (.int .i64)]).den→Prop} (od:∀x,pre x→(x.1:List Int).length≤L):
  ew P f {args:=[.row e (.int .i64)],outs:=[],pre:=pre,fn:=fun _=>(),fO:=fun x=>(g x.1,x.2)} where
 fn:=⟨fn,code,hf,hn,hb⟩
 WN o ho:=by rw[List.mem_singleton.1 ho];rfl
 UL:=rfl
 calls F w x vs pl hF hx hs Pq BF hp C2:=by
  obtain⟨v,us,rfl,⟨qt,_⟩,rfl⟩:=hs
  obtain⟨us,ws,p0,q0,h2,rfl,⟨p,v',rfl,rfl,hv,hB⟩,rfl,rfl⟩:=hx
  have XA:gb [v]=[v]:=by simp[gb,qt]
  rw[XA] at h2 ⊢
  have e2:v=v':=by simpa using h2
  subst e2
  have hlen:=od x hp
  show Calls P f #[v] w _
  rcases hv with ⟨xZ,rfl,CY⟩|⟨wG,rfl,Pr,AB⟩
  ·have Xy:(x.1:List Int)=[]:=by
    rcases hB with ⟨_,h,_⟩|⟨h,_⟩
    ·exact h
    ·rw[xZ] at h;cases h
   have hg0:g x.1=[]:=by rw[Xy];exact(hg []).eq_nil
   refine(h0 w).mono fun e' w' ⟨he,hw⟩=> ?_
   subst hw
   refine⟨_,F,[],_,.nil,he,.refl _,hF,fun b o h=> .inl h,.refl _ _,rfl,rfl,⟨rfl,rfl⟩,⟨.row p,.nil,.row p,.nil,rfl,rfl,rfl,⟨p,_,rfl,rfl,.inl ⟨xZ,rfl,CY⟩,.inl ⟨xZ,hg0,CY⟩⟩,fun _=>rfl⟩,?_,fun q hq By=> ?_⟩
   ·simp[PT.list,lv]
   ·simp[PT.list] at hq
    subst hq
    rw[xZ] at By;cases By
  ·have hB:nT ⟨F,fun _=>none⟩ w p false e (.int .i64) x.1:=by
    rcases hB with ⟨h,_⟩|⟨_,h⟩
    ·rw[wG] at h;cases h
    ·exact h
   have Pg:(x.1:List Int).length=p.len:=hB.2.1.1
   obtain⟨_,_,cs,hc,_⟩:=id hB
   have AE:=h1 p.bc p.cap x.1 w (Hf hB) (dw hc) hlen
   rw[Pg] at AE
   refine AE.mono fun e' w' ⟨he,n,os,hw⟩=> ?_
   subst hw
   have Pv:=(hg x.1).length_eq
   have BB:nJ (PT.pair (.row p) .nil).list p.bc:=⟨p,by simp[PT.list],wG,rfl⟩
   have hk:sD (nJ (PT.pair (.row p) .nil).list) w (grow (putRow (Value.int .i64) (Sort.ahead w n) p.bc 0 (g x.1).toArray) os):=by
    have:=J7 (w:=w) (b:=p.bc) (n:=n) (os:=os) (zs:=g x.1)
    exact⟨this.os,this.tape,this.output,this.size,fun k hk hf=>this.block k hk fun e=>hf (e▸BB)⟩
   refine⟨_,F,[],_,.nil,he,.refl _,fun b o hb=> ?_,fun b o h=> .inl h,hk,rfl,rfl,⟨rfl,rfl⟩,⟨.row p,.nil,.row p,.nil,rfl,rfl,rfl,⟨p,_,rfl,rfl,.inr ⟨wG,rfl,Pr,AB⟩,.inr ⟨wG,?_⟩⟩,fun _=>rfl⟩,?_,fun q hq By=> ?_⟩
   ·rw[hk.block b (dw (hF b o hb)) fun⟨q,hq,_,Jz⟩=> ?_]
    ·exact hF b o hb
    ·have:q=p:=by simpa [PT.list] using hq
     subst this
     rw[←Jz,BF q (by simp[PT.list]) wG] at hb
     cases hb
   ·have:=Ow (n:=n) (os:=os) (zs:=g x.1) (ys:=g x.1) hB Pv (Nat.le_refl _) (fun _ _=>rfl) (fun y hy=>Oy hB y ((hg x.1).mem_iff.1 hy))
    rw[show(⟨p.nil,p.bc,p.cap,(g x.1).length⟩:Place)=p by rw[Pv,Pg]] at this
    exact this
   ·simp[PT.list,lv]
   ·have:q=p:=by simpa [PT.list] using hq
    subst this
    exact⟨.inl BB,BF q (by simp[PT.list]) wG⟩
theorem ew.Si {P:Program} {f e:Nat} {fn:Func} {code:Code} (hf:P.funcs[f]? =some fn) (hn:(fn.name=="runtime.NumGoroutine")=false) (hb:fn.body=some code)
  (h1:∀(bc cap i j:Nat) (zs:List Int) (w:World),Holds (Value.int .i64) w bc 0 zs.toArray→zs.length≤cap→cap≤9223372036854775807→i≤j→j≤zs.length→
   Calls P f #[.slice (some ⟨bc,0,none⟩) zs.length cap,.int .i64 i,.int .i64 j] w fun e w'=>e= .returned (.slice (some ⟨bc,0,none⟩) (zs.length - (j - i)) cap)∧∃q,w'=putRow (Value.int .i64) (Sort.ahead w q) bc 0 (zs.take i++zs.drop j++List.replicate (j - i) 0).toArray):
  ew P f {args:=[.gone (.row e (.int .i64)),.aC (.int .i64),.aC (.int .i64)],outs:=[.row e (.int .i64)],pre:=fun(x:List Int×Int×Int×Unit)=>0≤x.2.1∧x.2.2.1=x.2.1+1∧x.2.2.1≤(x.1.length:Int),fn:=fun(x:List Int×Int×Int×Unit)=>(x.1.eraseIdx x.2.1.toNat,()),fO:=fun x=>x} where
 fn:=⟨fn,code,hf,hn,hb⟩
 WN o ho:=by
  simp only[List.mem_cons,List.not_mem_nil,or_false] at ho
  rcases ho with rfl|rfl|rfl<;>rfl
 UL:=rfl
 calls F w x vs pl hF hx hs Pq BF hp C2:=by
  obtain⟨(xs:List Int),(i0:Int),(j0:Int),u⟩:=x
  have hp:0≤i0∧j0=i0+1∧j0≤(xs.length:Int):=hp
  obtain⟨Va,RU,hjl⟩:=hp
  obtain⟨v,us,rfl,⟨qt,_⟩,v2,ZM,rfl,⟨M0,_⟩,v3,us3,rfl,⟨hv3,_⟩,rfl⟩:=hs
  have XA:gb [v,v2,v3]=[v,v2,v3]:=by simp[gb,qt,M0,hv3]
  rw[XA] at hx ⊢
  obtain⟨us,ws,p0,q0,h2,rfl,⟨p,v',rfl,rfl,hv,hB⟩,ZM,ws2,p2,q2,rfl,rfl,⟨rfl,hr2⟩,us3,Wh,p3,q3,rfl,rfl,⟨rfl,hr3⟩,rfl,rfl⟩:=hx
  have hr2:ZM=[.int .i64 i0]:=hr2.1
  have hr3:us3=[.int .i64 j0]:=hr3.1
  subst hr2 hr3
  simp only[List.singleton_append,List.append_nil,List.cons.injEq,and_true] at h2
  obtain⟨rfl,rfl,rfl⟩:=h2
  show Calls P f #[v,.int .i64 i0,.int .i64 j0] w _
  rcases hv with ⟨xZ,rfl,CY⟩|⟨wG,rfl,Pr,AB⟩
  ·have Xy:xs=[]:=by
    rcases hB with ⟨_,h,_⟩|⟨h,_⟩
    ·exact h
    ·rw[xZ] at h;cases h
   have:xs.length=0:=by rw[Xy];rfl
   omega
  ·have hB:nT ⟨F,fun _=>none⟩ w p false e (.int .i64) xs:=by
    rcases hB with ⟨h,_⟩|⟨_,h⟩
    ·rw[wG] at h;cases h
    ·exact h
   have Pg:xs.length=p.len:=hB.2.1.1
   have AE:=h1 p.bc p.cap i0.toNat j0.toNat xs w (Hf hB) (by rw[Pg];exact Pr) AB (by omega) (by omega)
   rw[Pg,show(i0.toNat:Int)=i0 by omega,show(j0.toNat:Int)=j0 by omega] at AE
   refine AE.mono fun e' w' ⟨he,n,hw⟩=> ?_
   have hw:w'=grow (putRow (Value.int .i64) (Sort.ahead w n) p.bc 0 (List.take i0.toNat xs++List.drop j0.toNat xs++List.replicate (j0.toNat - i0.toNat) (0:Int)).toArray) #[]:=by rw[hw,grow_empty]
   generalize hzs:(List.take i0.toNat xs++List.drop j0.toNat xs++List.replicate (j0.toNat - i0.toNat) (0:Int))=zs at *
   subst hw
   have her:xs.eraseIdx i0.toNat=List.take i0.toNat xs++List.drop j0.toNat xs:=by
    rw[List.eraseIdx_eq_take_drop_succ,show j0.toNat=i0.toNat+1 by omega]
   have HR:zs.length=xs.length:=by
    rw[←hzs]
    simp only[List.length_append,List.length_take,List.length_drop,List.length_replicate]
    omega
   have M9:(xs.eraseIdx i0.toNat).length=p.len - 1:=by rw[List.length_eraseIdx_of_lt (by omega),Pg]
   have BB:nJ (PT.pair (.row p) (.pair .nil (.pair .nil .nil))).list p.bc:=⟨p,by simp[PT.list],wG,rfl⟩
   have hk:sD (nJ (PT.pair (.row p) (.pair .nil (.pair .nil .nil))).list) w (grow (putRow (Value.int .i64) (Sort.ahead w n) p.bc 0 zs.toArray) #[]):=by
    have:=J7 (w:=w) (b:=p.bc) (n:=n) (os:= #[]) (zs:=zs)
    exact⟨this.os,this.tape,this.output,this.size,fun k hk hf=>this.block k hk fun e=>hf (e▸BB)⟩
   have CW:nT ⟨F,fun _=>none⟩ (grow (putRow (Value.int .i64) (Sort.ahead w n) p.bc 0 zs.toArray) #[]) ⟨p.nil,p.bc,p.cap,(xs.eraseIdx i0.toNat).length⟩ false e (.int .i64) (xs.eraseIdx i0.toNat):=
    Ow hB HR (by rw[HR];omega) (fun i hi=>by rw[←hzs,her];exact(List.getElem?_append_left (by rw[←her];exact hi)).symm) (fun y hy=>Oy hB y (List.mem_of_mem_eraseIdx hy))
   refine⟨_,F,[.slice (some ⟨p.bc,0,none⟩) (p.len - 1) p.cap],.pair .nil (.pair .nil (.pair .nil .nil)),.pair (.row ⟨p.nil,p.bc,p.cap,(xs.eraseIdx i0.toNat).length⟩) .nil,he,.refl _,fun b o hb=> ?_,fun b o h=> .inl h,hk,?_,⟨_,[],rfl,⟨rfl,rfl⟩,rfl⟩,
    ⟨[.slice (some ⟨p.bc,0,none⟩) (p.len - 1) p.cap],[],_,_,rfl,rfl,⟨_,_,rfl,rfl,.inr ⟨wG,by rw[M9],by show(xs.eraseIdx i0.toNat).length≤p.cap;rw[M9];omega,AB⟩,.inr ⟨wG,CW⟩⟩,rfl,rfl⟩,
    ⟨_,_,.nil,_,rfl,rfl,⟨_,_,.nil,_,rfl,rfl,⟨_,_,.nil,_,rfl,rfl,rfl,rfl⟩,rfl⟩,rfl⟩,?_,fun q hq By=> ?_⟩
   ·rw[hk.block b (dw (hF b o hb)) fun⟨q,hq,_,Jz⟩=> ?_]
    ·exact hF b o hb
    ·have:q=p:=by simpa [PT.list] using hq
     subst this
     rw[←Jz,BF q (by simp[PT.list]) wG] at hb
     cases hb
   ·show[_]=[_]
    rw[show j0.toNat - i0.toNat=1 by omega]
   ·simp[PT.list,lv]
   ·have:q=⟨p.nil,p.bc,p.cap,(xs.eraseIdx i0.toNat).length⟩:=by simpa [PT.list] using hq
    subst this
    exact⟨.inl BB,BF p (by simp[PT.list]) wG⟩
theorem ew.KH {P:Program} {f:Nat} {a b:Ty} {fn:Func} {code:Code} (hf:P.funcs[f]? =some fn) (hn:(fn.name=="runtime.NumGoroutine")=false) (hb:fn.body=some code)
  (h1:∀(n:Nat) (es:Array MapEntry) (clock:Nat) (w:World),w.heap[n]? =some (.map es clock)→Calls P f #[.map (some n)] w fun e w'=>e= .returned (.map (some w.heap.size))∧w'=w.alloc (.map es clock)):
  ew P f {args:=[.map a b],outs:=[.map a b],pre:=fun _=>True,fn:=fun x=>(x.1,()),fO:=fun x=>x} where
 fn:=⟨fn,code,hf,hn,hb⟩
 WN o ho:=by rw[List.mem_singleton.1 ho];rfl
 UL:=rfl
 calls F w x vs pl hF hx hs Pq BF hp C2:=by
  obtain⟨v,us,rfl,⟨qt,_⟩,rfl⟩:=hs
  obtain⟨us,ws,p0,q0,h2,rfl,⟨p,rfl,o3,rfl,hB⟩,rfl,rfl⟩:=hx
  have XA:gb [v]=[v]:=by simp[gb,qt]
  rw[XA] at h2 ⊢
  have e2:v= .map (some p.bc):=by simpa using h2
  subst e2
  obtain⟨_,es,cl,hh,_,hM⟩:=id hB
  refine(h1 p.bc es cl w hh).mono fun e' w' ⟨he,hw⟩=> ?_
  subst hw
  have dK:=dw hh
  have BB:nJ (PT.pair (.row p) .nil).list p.bc:=⟨p,by simp[PT.list],o3,rfl⟩
  have hold:∀k,k<w.heap.size→(w.alloc (.map es cl)).heap[k]? =w.heap[k]? :=fun k hk=>pd hk
  refine⟨_,F,[.map (some w.heap.size)],.pair (.row p) .nil,.pair (.row ⟨false,w.heap.size,0,0⟩) .nil,he,.refl _,fun b o hb=> ?_,fun b o h=> .inl h,⟨rfl,rfl,rfl,?_,fun k hk _=>hold k hk⟩,rfl,⟨_,[],rfl,⟨rfl,rfl⟩,rfl⟩,
   ⟨[.map (some w.heap.size)],[],_,_,rfl,rfl,⟨_,rfl,rfl,rfl,rfl,es,cl,oM,(fun h=>by cases h),hM⟩,rfl,rfl⟩,
   ⟨_,_,.row p,.nil,rfl,rfl,rfl,⟨p,rfl,o3,rfl,hB.world fun _=>hold _ dK⟩,fun _=>rfl⟩,?_,fun q hq By=> ?_⟩
  ·rw[hold b (dw (hF b o hb))];exact hF b o hb
  ·simp
  ·have jS:p.bc≠w.heap.size:=by omega
   simp[PT.list,lv,jS]
  ·simp only[PT.list,List.append_nil,List.mem_append,List.mem_singleton] at hq
   rcases hq with rfl|rfl
   ·exact⟨.inl BB,BF q (by simp[PT.list]) o3⟩
   ·refine⟨.inr (Nat.le_refl _),?_⟩
    cases hc:F w.heap.size with
    |none=>rfl
    |some o=>have:=dw (hF _ _ hc);omega
end Go.Vc
namespace Go.Proofs
open Go Go.Vc Go.Shelf
namespace YtjnappfomhkeeaaGreat
def MI:Go.Shelf.Ren:=⟨fun|189=>61|125=>113|257=>112|128=>193|129=>194|294=>184|295=>185|296=>186|297=>187|298=>188|299=>189|216=>190|300=>191|301=>192|328=>239|329=>240|330=>241|331=>242|332=>243|215=>244|343=>261|n=>n,fun|28=>42|3=>3|46=>184|0=>0|51=>264|53=>266|4=>4|183=>258|182=>257|131=>230|5=>5|9=>9|218=>304|222=>308|228=>322|229=>83|n=>n,fun|n=>n⟩
theorem O3:Go.Proofs.Lays.n189 Tryz.prog MI:={
 mixed:=by kernel_rfl,f125:=Tryz.func113.trans (congrArg some (by kernel_rfl)),f128:=Tryz.func193.trans (congrArg some (by kernel_rfl)),f129:=Tryz.func194.trans (congrArg some (by kernel_rfl)),
 f189:=Tryz.func61.trans (congrArg some (by kernel_rfl)),f215:=Tryz.func244.trans (congrArg some (by kernel_rfl)),f216:=Tryz.func190.trans (congrArg some (by kernel_rfl)),
 f257:=Tryz.func112.trans (congrArg some (by kernel_rfl)),f294:=Tryz.func184.trans (congrArg some (by kernel_rfl)),f295:=Tryz.func185.trans (congrArg some (by kernel_rfl)),
 f296:=Tryz.func186.trans (congrArg some (by kernel_rfl)),f297:=Tryz.func187.trans (congrArg some (by kernel_rfl)),f298:=Tryz.func188.trans (congrArg some (by kernel_rfl)),
 f299:=Tryz.func189.trans (congrArg some (by kernel_rfl)),f300:=Tryz.func191.trans (congrArg some (by kernel_rfl)),f301:=Tryz.func192.trans (congrArg some (by kernel_rfl)),
 f328:=Tryz.func239.trans (congrArg some (by kernel_rfl)),f329:=Tryz.func240.trans (congrArg some (by kernel_rfl)),f330:=Tryz.func241.trans (congrArg some (by kernel_rfl)),
 f331:=Tryz.func242.trans (congrArg some (by kernel_rfl)),f332:=Tryz.func243.trans (congrArg some (by kernel_rfl)),f343:=Tryz.func261.trans (congrArg some (by kernel_rfl)),t0:=Tryz.underlying0,a0:=Tryz.isAgg0,
 z0:=Tryz.sizeOf0,v0:=Tryz.zeroValue0,t3:=Tryz.underlying3,a3:=Tryz.isAgg3,z3:=Tryz.sizeOf3,v3:=Tryz.zeroValue3,t4:=Tryz.underlying4,a4:=Tryz.isAgg4,z4:=Tryz.sizeOf4,v4:=Tryz.zeroValue4,
 t5:=Tryz.underlying5,a5:=Tryz.isAgg5,z5:=Tryz.sizeOf5,v5:=Tryz.zeroValue5,t9:=Tryz.underlying9,a9:=Tryz.isAgg9,z9:=Tryz.sizeOf9,v9:=Tryz.zeroValue9,t28:=Tryz.underlying42,a28:=Tryz.isAgg42,
 z28:=Tryz.sizeOf42,v28:=Tryz.zeroValue42,t46:=Tryz.underlying184,a46:=Tryz.isAgg184,z46:=Tryz.sizeOf184,v46:=Tryz.zeroValue184,t51:=Tryz.underlying264,a51:=Tryz.isAgg264,z51:=Tryz.sizeOf264,
 v51:=Tryz.zeroValue264,t53:=Tryz.underlying266,a53:=Tryz.isAgg266,z53:=Tryz.sizeOf266,v53:=Tryz.zeroValue266,t131:=Tryz.underlying230,a131:=Tryz.isAgg230,z131:=Tryz.sizeOf230,v131:=Tryz.zeroValue230,
 t182:=Tryz.underlying257,a182:=Tryz.isAgg257,z182:=Tryz.sizeOf257,v182:=Tryz.zeroValue257,t183:=Tryz.underlying258,a183:=Tryz.isAgg258,z183:=Tryz.sizeOf258,v183:=Tryz.zeroValue258,t218:=Tryz.underlying304,
 a218:=Tryz.isAgg304,z218:=Tryz.sizeOf304,v218:=Tryz.zeroValue304,t222:=Tryz.underlying308,a222:=Tryz.isAgg308,z222:=Tryz.sizeOf308,v222:=Tryz.zeroValue308,t228:=Tryz.underlying322,a228:=Tryz.isAgg322,
 z228:=Tryz.sizeOf322,v228:=Tryz.zeroValue322,t229:=Tryz.underlying83,a229:=Tryz.isAgg83,z229:=Tryz.sizeOf83,v229:=Tryz.zeroValue83}
def O2:Go.Shelf.Ren:=⟨fun|23=>118|n=>n,fun|22=>42|3=>3|4=>4|0=>0|n=>n,fun|n=>n⟩
theorem Z7:Go.Proofs.Lays2.n23 Tryz.prog O2:={
 mixed:=by kernel_rfl,f23:=Tryz.func118.trans (congrArg some (by kernel_rfl)),t0:=Tryz.underlying0,a0:=Tryz.isAgg0,z0:=Tryz.sizeOf0,v0:=Tryz.zeroValue0,t3:=Tryz.underlying3,a3:=Tryz.isAgg3,z3:=Tryz.sizeOf3,
 v3:=Tryz.zeroValue3,t4:=Tryz.underlying4,a4:=Tryz.isAgg4,z4:=Tryz.sizeOf4,v4:=Tryz.zeroValue4,t22:=Tryz.underlying42,a22:=Tryz.isAgg42,z22:=Tryz.sizeOf42,v22:=Tryz.zeroValue42,i3:=by kernel_rfl}
def MK:Go.Shelf.Ren:=⟨fun|5=>110|7=>183|n=>n,fun|23=>116|25=>3|3=>42|4=>4|20=>20|n=>n,fun|n=>n⟩
theorem Xk:Go.Proofs.SlLaysW.n5 Tryz.prog MK:={
 mixed:=by kernel_rfl,f5:=⟨Tryz.f110.name,by decide,Tryz.func110.trans (congrArg some (by kernel_rfl))⟩,f7:=Tryz.func183.trans (congrArg some (by kernel_rfl)),t4:=Tryz.underlying4,a4:=Tryz.isAgg4,
 z4:=Tryz.sizeOf4,v4:=Tryz.zeroValue4,t20:=Tryz.underlying20,a20:=Tryz.isAgg20,z20:=Tryz.sizeOf20,v20:=Tryz.zeroValue20,t23:=Tryz.underlying116,a23:=Tryz.isAgg116,z23:=Tryz.sizeOf116,
 v23:=Tryz.zeroValue116}
def MJ:Go.Shelf.Ren:=⟨fun|5=>111|7=>183|n=>n,fun|23=>117|25=>3|3=>47|4=>4|20=>20|n=>n,fun|n=>n⟩
theorem Xj:Go.Proofs.SlLaysW.n5 Tryz.prog MJ:={
 mixed:=by kernel_rfl,f5:=⟨Tryz.f111.name,by decide,Tryz.func111.trans (congrArg some (by kernel_rfl))⟩,f7:=Tryz.func183.trans (congrArg some (by kernel_rfl)),t4:=Tryz.underlying4,a4:=Tryz.isAgg4,
 z4:=Tryz.sizeOf4,v4:=Tryz.zeroValue4,t20:=Tryz.underlying20,a20:=Tryz.isAgg20,z20:=Tryz.sizeOf20,v20:=Tryz.zeroValue20,t23:=Tryz.underlying117,a23:=Tryz.isAgg117,z23:=Tryz.sizeOf117,
 v23:=Tryz.zeroValue117}
theorem ahg:ew Tryz.prog 61 Yt:=
 ew.Ws (g:=fun l=>mJ l l.length) Tryz.func61 (by kernel_rfl) (Option.some_get (by kernel_rfl:Tryz.f61.body.isSome=true)).symm (fun l=>ve l _ (Nat.le_refl _)) (by decide:1000000<4611686018427387904)
  (fun w=>Any.slices_Sort_int_none O3 none 0 w)
  (fun bc cap zs w h1 h2 h3=>by
   have:=Any.slices_Sort_int O3 bc 0 cap zs w h1 h2 (by omega)
   rw[xc]
   exact this) fun x h=>h
def TO:fq where
 args:=[.gone (.row 3 I),.aC I,.aC I]
 outs:=[.row 3 I]
 pre:=fun(x:List Int×Int×Int×Unit)=>0≤x.2.1∧x.2.2.1=x.2.1+1∧x.2.2.1≤(x.1.length:Int)
 fn:=fun(x:List Int×Int×Int×Unit)=>(x.1.eraseIdx x.2.1.toNat,())
theorem ado:ew Tryz.prog 118 TO:=
 ew.Si Tryz.func118 (by kernel_rfl) (Option.some_get (by kernel_rfl:Tryz.f118.body.isSome=true)).symm fun bc cap i j zs w h1 h2 h3 h4 h5=>Any.slices_Delete_int Z7 bc 0 cap i j zs w h1 h2 h3 h4 h5
def YE:fq where
 args:=[.map I (.list I)]
 outs:=[.map I (.list I)]
 pre:=fun _=>True
 fn:=fun x=>(x.1,())
def YD:fq where
 args:=[.map I (.list ek)]
 outs:=[.map I (.list ek)]
 pre:=fun _=>True
 fn:=fun x=>(x.1,())
theorem adu:ew Tryz.prog 110 YE:=
 ew.KH Tryz.func110 (by kernel_rfl) (Option.some_get (by kernel_rfl:Tryz.f110.body.isSome=true)).symm fun n es cl w h=>AnyW.maps_Clone Xk n es cl w h
theorem adt:ew Tryz.prog 111 YD:=
 ew.KH Tryz.func111 (by kernel_rfl) (Option.some_get (by kernel_rfl:Tryz.f111.body.isSome=true)).symm fun n es cl w h=>AnyW.maps_Clone Xj n es cl w h
end YtjnappfomhkeeaaGreat
end Go.Proofs
end

section
set_option maxRecDepth 100000
set_option linter.unusedVariables false
set_option linter.unusedSimpArgs false
set_option maxHeartbeats 4000000
namespace Go.Proofs
open Go Go.Vc
namespace YtjnappfomhkeeaaGreat
theorem v76 (l:List (Int×Int)):ai (ah ay []) Tryz.f76 BR aq (l,())=(
∀(b1:Bool),
(b1=true→l=[])→
(b1=true→[]=l∧True)∧
(b1=false→roomFor ((List.replicate (0:Nat) ((0:Int),(0:Int))).length+l.length) (16:Nat)∧List.replicate (0:Nat) ((0:Int),(0:Int))++l=l∧True)):=by kernel_rfl
theorem OM:aM Tryz.prog 76 BR:=
 aM.bZ (l:=[]) (A:=fun _=>aq) aH trivial Tryz.func76 (by kernel_rfl) (by kernel_rfl) fun x _ hp=>by
  obtain⟨l,u⟩:=x
  show ai (ah ay []) Tryz.f76 BR aq (l,())
  rw[v76]
  exact fun b hb=>⟨fun h=>⟨(hb h).symm,trivial⟩,fun h=>⟨rP hp rfl (by decide),by first|exact⟨rfl,trivial⟩|trivial⟩⟩
theorem ab3:aM Tryz.prog 76 TA:=OM.asData
theorem ab5:aM Tryz.prog 59 TB:=S4.asData
theorem afU (b:av) (e:Int):ai (ah ay []) Tryz.f246 KS aq (b,e,())=(
(bif decide (e≥(0:Int)) then decide (e<b.1) else false)=EC b e∧True):=by kernel_rfl
theorem acg:aM Tryz.prog 246 KS:=
 aM.bZ (l:=[]) (A:=fun _=>aq) aH trivial Tryz.func246 (by kernel_rfl) (by kernel_rfl) fun x _ hp=>by
  obtain⟨b,e,u⟩:=x
  show ai (ah ay []) Tryz.f246 KS aq (b,e,())
  rw[afU]
  refine⟨?_,trivial⟩
  unfold EC
  show(bif decide (0≤e) then _ else false)=_
  cases decide (0≤e)<;>rfl
theorem qP {α:Type} {m:List (Int×List α)} (h:∀x∈m,x.2.length≤1000) (o:Int):(j9 m o).length≤1000:=by
 unfold j9
 cases hm:aT I m o with
 |none=>exact Nat.zero_le _
 |some l=>exact h _ (fI td hm)
theorem v28 (b:av) (o:Int):ai (ah ay []) Tryz.f28 BT aq (b,o,())=(
U ((↑((aT I b.2.1 o).getD []).length:Int)+(↑((aT I b.2.2.1 o).getD []).length:Int)) fun(y2:Int)=>
U (y2+(↑((aT I b.2.2.2.2 o).getD []).length:Int)) fun(y3:Int)=>bq IntKind.i64 y2∧bq IntKind.i64 y3∧decide (y3>(0:Int))=gE b o∧True):=by kernel_rfl
theorem b28 (b:av) (o:Int) (h:ga b):ai (ah ay []) Tryz.f28 BT aq (b,o,()):=by
 rw[v28]
 refine U.mk fun y2 e2=>U.mk fun y3 e3=> ?_
 have h1:=qP h.steps o
 have h2:=qP h.nk o
 have h3:=qP h.guards o
 have e2:y2=((j9 b.2.1 o).length:Int)+((j9 b.2.2.1 o).length:Int):=e2
 have e3:y3=y2+((j9 b.2.2.2.2 o).length:Int):=e3
 refine⟨bg (by omega) (by omega),bg (by omega) (by omega),?_,trivial⟩
 unfold gE
 rw[e3,e2]
theorem S5:aM Tryz.prog 28 BT:=
 aM.bZ (l:=[]) (A:=fun _=>aq) aH trivial Tryz.func28 (by kernel_rfl) (by kernel_rfl) fun x _ hp=>b28 x.1 x.2.1 hp
theorem Ux (b:av) (r:af):oh b r=(!decide (r.2.2.2.1.length=0)&&(db (qx b r) r.2.2.2.1.length&&(r.2.2.2.2.2.2.1.all (r8 b r)&&db (lQ b r) (r.2.2.2.2.1.length+r.2.2.2.2.2.1.length)))):=by unfold oh;rfl
theorem EU (r:af) {s:Nat} (hs:s≤r.2.2.2.1.length) (e:Int):(aT I (fY r s) e).isSome=cd (fun j=>(fP r.2.2.2.1 j).1==e) s:=by
 rw[gU]
 unfold fY
 rw[List.any_map]
 have:cd (fun j=>(fP r.2.2.2.1 j).1==e) s=(r.2.2.2.1.take s).any (fun x=>x.1==e):=qq iq (fun x:cv=>x.1==e) r.2.2.2.1 s hs
 rw[this]
 congr 1
 funext x
 show(e==x.1)=(x.1==e)
 exact fF e x.1
theorem EV (r:af) {s:Nat} (hs:s≤r.2.2.2.1.length) (e:Int):(aT I (fY r s) e).getD false=cd (fun j=>(fP r.2.2.2.1 j).1==e) s:=by
 have h1:=EU r hs e
 cases hm:aT I (fY r s) e with
 |none=>rw[hm] at h1;exact h1
 |some v=>
  rw[hm] at h1
  have hv:=fI td hm
  unfold fY at hv
  obtain⟨x,_,hx⟩:=List.mem_map.1 hv
  have:v=true:=(congrArg Prod.snd hx).symm
  rw[this]
  exact h1
theorem QJ (r:af) {s:Nat} (hs:s<r.2.2.2.1.length) (h:cd (fun j=>(fP r.2.2.2.1 j).1==(fP r.2.2.2.1 s).1) s=false):fY r (s+1)=dc I (fY r s) (fP r.2.2.2.1 s).1 true:=by
 rw[nV td (by rw[EU r (by omega)];exact h)]
 unfold fY
 rw[nW _ iq hs]
 rfl
theorem Sd (r:af) (e:Int):bG (cm r) e=cd (fun j=>(fP r.2.2.2.1 j).1==e) r.2.2.2.1.length:=by
 have:cd (fun j=>(fP r.2.2.2.1 j).1==e) r.2.2.2.1.length=(r.2.2.2.1.take r.2.2.2.1.length).any (fun x=>x.1==e):=qq iq (fun x:cv=>x.1==e) r.2.2.2.1 _ (Nat.le_refl _)
 rw[this,List.take_length]
 unfold bG cm
 rw[List.any_map]
 rfl
theorem Ke (r:af) {j:Nat} (hj:j<2):j8 r (j+1)=j8 r j+(uD r j).length:=by
 rcases(by omega:j=0∨j=1) with rfl|rfl
 ·show r.2.2.2.2.1.length=0+r.2.2.2.2.1.length
  omega
 ·rfl
theorem ON (r:af):j8 r 2=r.2.2.2.2.1.length+r.2.2.2.2.2.1.length:=rfl
theorem An (r:af):(bC r).length=r.2.2.2.2.1.length+r.2.2.2.2.2.1.length:=by unfold bC;rw[List.length_append]
theorem S7 (r:af) {j i:Nat} (hj:j<2) (hi:i<(uD r j).length):j8 r j+i<(bC r).length:=by
 rw[An]
 rcases(by omega:j=0∨j=1) with rfl|rfl
 ·have hi:i<r.2.2.2.2.1.length:=hi
  show 0+i<_
  omega
 ·have hi:i<r.2.2.2.2.2.1.length:=hi
  show r.2.2.2.2.1.length+i<_
  omega
theorem OT (r:af) {j i:Nat} (hj:j<2) (hi:i<(uD r j).length):eS r (j8 r j+i)=(uD r j).getD i (0,0):=by
 unfold eS bC
 rcases(by omega:j=0∨j=1) with rfl|rfl
 ·have hi:i<r.2.2.2.2.1.length:=hi
  show(r.2.2.2.2.1++r.2.2.2.2.2.1).getD (0+i) (0,0)=r.2.2.2.2.1.getD i (0,0)
  rw[Nat.zero_add,List.getD_eq_getElem?_getD,List.getElem?_append_left hi,←List.getD_eq_getElem?_getD]
 ·show(r.2.2.2.2.1++r.2.2.2.2.2.1).getD (r.2.2.2.2.1.length+i) (0,0)=r.2.2.2.2.2.1.getD i (0,0)
  rw[List.getD_eq_getElem?_getD,List.getElem?_append_right (by omega),Nat.add_sub_cancel_left,←List.getD_eq_getElem?_getD]
theorem OH (r:af) {j:Nat} (hj:j<2):([r.2.2.2.2.1,r.2.2.2.2.2.1]:List (List aY)).getD j []=uD r j:=by
 rcases(by omega:j=0∨j=1) with rfl|rfl
 ·rfl
 ·rfl
theorem PY (x y:aY):sO x y=sO y x:=by
 unfold sO
 rw[fF x.1 y.1,fF x.2 y.2]
theorem J8 (r:af):∀(K:Nat) (e:Int),(∀q,aT I (ji r K) e=some q→∃j,j<K∧eS r j=(e,q))∧(aT I (ji r K) e=none→∀j,j<K→(eS r j).1≠e)
 |0,e=>⟨fun q h=>(by cases h),fun _ j hj=>(by omega)⟩
 |K+1,e=>by
  obtain⟨i1,i2⟩:=J8 r K e
  have hp:aT I (ji r (K+1)) e=bif Ty.iW I e (eS r K).1 then some (eS r K).2 else aT I (ji r K) e:=wz td _ _ _ _
  rw[hp,O6]
  cases hk:(e==(eS r K).1) with
  |true=>
   refine⟨fun q hq=>⟨K,by omega,?_⟩,fun h=>(by cases h)⟩
   have hq:(eS r K).2=q:=by simpa using hq
   rw[←hq,eq_of_beq hk]
  |false=>
   refine⟨fun q hq=> ?_,fun h j hj=> ?_⟩
   ·obtain⟨j,hj,e'⟩:=i1 q hq
    exact⟨j,by omega,e'⟩
   ·by_cases JB:j=K
    ·subst JB
     intro e'
     rw[e'] at hk
     simp at hk
    ·exact i2 h j (by omega)
theorem OS {b:av} {r:af} {K:Nat} (h:db (lQ b r) K=true):
  (bif(aT I (ji r K) (eS r K).1).isSome then(aT I (ji r K) (eS r K).1).getD 0 !=(eS r K).2 else false)=cd (fun j=>sO (eS r j) (eS r K)) K:=by
 obtain⟨i1,i2⟩:=J8 r K (eS r K).1
 cases hm:aT I (ji r K) (eS r K).1 with
 |none=>
  symm
  refine iS.2 fun j hj=> ?_
  unfold sO
  rw[beq_false_of_ne (i2 hm j hj)]
  rfl
 |some q=>
  obtain⟨j0,RU,e0⟩:=i1 q hm
  show(q !=(eS r K).2)=_
  cases hq:(q==(eS r K).2) with
  |false=>
   rw[iH,hq]
   symm
   refine nL RU ?_
   unfold sO
   rw[e0]
   show((eS r K).1==(eS r K).1&& !(q==(eS r K).2))=true
   rw[hq]
   simp
  |true=>
   rw[iH,hq]
   symm
   have hq:=eq_of_beq hq
   refine iS.2 fun j hj=> ?_
   cases hc:sO (eS r j) (eS r K) with
   |false=>rfl
   |true=>
    exfalso
    have Pu:sO (eS r j) (eS r j0)=true:=by
     rw[e0,hq]
     exact hc
    have no:∀a c,a<c→c<K→sO (eS r a) (eS r c)=true→False:=fun a c hac Nc mf=>by
     have:=gv.1 h c Nc
     unfold lQ at this
     rw[Bool.and_eq_true,Bool.and_eq_true] at this
     have h3:cd (fun j=>sO (eS r j) (eS r c)) c=false:=by simpa using this.2.2
     have:=iS.1 h3 a hac
     rw[mf] at this
     cases this
    rcases Nat.lt_trichotomy j j0 with dK|heq|dK
    ·exact no j j0 dK RU Pu
    ·subst heq
     unfold sO at Pu
     simp at Pu
    ·exact no j0 j dK hj (by rw[PY];exact Pu)
theorem v196 (b:av) (r:af):ai (ah ay [(246,KS)]) Tryz.f196 Lc (a196 (b,r,())) (b,r,())=(
U ((↑r.2.2.2.1.length:Int)==(0:Int)) fun(y2:Bool)=>
U (((List.replicate (2:Nat) ([]:List (Int×Int))).set (0:Nat) r.2.2.2.2.1).set (1:Nat) r.2.2.2.2.2.1) fun(y3:List (List (Int×Int)))=>
(y2=true→false=oh b r∧True)∧
(y2=false→
(∃(wg:Nat),
(wg≤r.2.2.2.1.length∧db (qx b r) wg=true)∧
(↑wg:Int)=(0:Int)∧
[b]=[b]∧
(0:Nat)=(0:Nat)∧
r.2.2.2.1=r.2.2.2.1∧
(↑r.2.2.2.1.length:Int)=(↑r.2.2.2.1.length:Int)∧
fY r wg=[]∧
aE r (True))∧
∀(s4:Nat),
U (decide ((↑s4:Int)<(↑r.2.2.2.1.length:Int))) fun(y5:Bool)=>
U (r.2.2.2.1.getD (↑s4:Int).toNat ((0:Int),(0:Int),(0:Int))).1 fun(y6:Int)=>
U (bif !EC b y6 then true else(aT I (fY r s4) y6).getD false) fun(y7:Bool)=>
s4≤r.2.2.2.1.length∧db (qx b r) s4=true→
(y5=true→
aQ (↑s4:Int) r.2.2.2.1.length∧
True∧
(y7=true→false=oh b r∧True)∧
(y7=false→
bq IntKind.i64 ((↑s4:Int)+(1:Int))∧
∃(kf:Nat),
(kf≤r.2.2.2.1.length∧db (qx b r) kf=true)∧
r.2.2.2.1.length - kf<r.2.2.2.1.length - s4∧
(↑kf:Int)=(↑s4:Int)+(1:Int)∧
[b]=[b]∧
(0:Nat)=(0:Nat)∧
r.2.2.2.1=r.2.2.2.1∧
(↑r.2.2.2.1.length:Int)=(↑r.2.2.2.1.length:Int)∧
fY r kf=dc I (fY r s4) y6 true∧
aE r (True)))∧
(y5=false→
(∃(mL:Nat),
(mL≤r.2.2.2.2.2.2.1.length∧(List.take mL r.2.2.2.2.2.2.1).all (r8 b r)=true)∧
(↑mL:Int)=(0:Int)∧
[b]=[b]∧
(0:Nat)=(0:Nat)∧
r.2.2.2.2.2.2.1=r.2.2.2.2.2.2.1∧
(↑r.2.2.2.2.2.2.1.length:Int)=(↑r.2.2.2.2.2.2.1.length:Int)∧
aE r (fY r s4=fY r s4∧True))∧
∀(s8:Nat),
U (decide ((↑s8:Int)<(↑r.2.2.2.2.2.2.1.length:Int))) fun(y9:Bool)=>
U (r.2.2.2.2.2.2.1.getD (↑s8:Int).toNat (0:Int)) fun(bp:Int)=>
U (bif !EC b bp then true else(aT I (fY r s4) bp).getD false) fun(bI:Bool)=>
s8≤r.2.2.2.2.2.2.1.length∧(List.take s8 r.2.2.2.2.2.2.1).all (r8 b r)=true→
(y9=true→
aQ (↑s8:Int) r.2.2.2.2.2.2.1.length∧
True∧
(bI=true→false=oh b r∧True)∧
(bI=false→
bq IntKind.i64 ((↑s8:Int)+(1:Int))∧
∃(nn:Nat),
(nn≤r.2.2.2.2.2.2.1.length∧(List.take nn r.2.2.2.2.2.2.1).all (r8 b r)=true)∧
r.2.2.2.2.2.2.1.length - nn<r.2.2.2.2.2.2.1.length - s8∧
(↑nn:Int)=(↑s8:Int)+(1:Int)∧
[b]=[b]∧
(0:Nat)=(0:Nat)∧
r.2.2.2.2.2.2.1=r.2.2.2.2.2.2.1∧
(↑r.2.2.2.2.2.2.1.length:Int)=(↑r.2.2.2.2.2.2.1.length:Int)∧
aE r (fY r s4=fY r s4∧True)))∧
(y9=false→
(∃(vg:Nat),
(vg≤(2:Nat)∧db (lQ b r) (j8 r vg)=true)∧
(↑vg:Int)=(0:Int)∧[b]=[b]∧(0:Nat)=(0:Nat)∧(↑y3.length:Int)=(↑y3.length:Int)∧ji r (j8 r vg)=[]∧y3=y3∧True)∧
∀(mK:Nat),
U (decide ((↑mK:Int)<(↑y3.length:Int))) fun(cb:Bool)=>
U (uD r (↑mK:Int).toNat).length fun(cW:Nat)=>
U (y3.getD (↑mK:Int).toNat []) fun(bz:List (Int×Int))=>
mK≤(2:Nat)∧db (lQ b r) (j8 r mK)=true→
(cb=true→
aQ (↑mK:Int) y3.length∧
(∃(Fa:Nat),
(Fa≤cW∧db (lQ b r) (j8 r (↑mK:Int).toNat+Fa)=true)∧
(↑Fa:Int)=(0:Int)∧
[b]=[b]∧
(0:Nat)=(0:Nat)∧
(↑y3.length:Int)=(↑y3.length:Int)∧
(↑mK:Int)=(↑mK:Int)∧
bz=bz∧
(↑bz.length:Int)=(↑bz.length:Int)∧
ji r (j8 r (↑mK:Int).toNat+Fa)=ji r (j8 r mK)∧y3=y3∧True)∧
∀(yc:Nat),
U (j8 r (↑mK:Int).toNat+yc) fun(cF:Nat)=>
U (decide ((↑yc:Int)<(↑bz.length:Int))) fun(dI:Bool)=>
U (bz.getD (↑yc:Int).toNat ((0:Int),(0:Int))) fun(fC:Int×Int)=>
U (aT I (ji r cF) fC.1) fun(dJ:Option Int)=>
U
(bif bif !EC b fC.1 then true else bif fC.2 !=(1:Int) then fC.2 !=(2:Int) else false then true
else bif dJ.isSome then dJ.getD (0:Int) !=fC.2 else false)
fun(fo:Bool)=>
yc≤cW∧db (lQ b r) cF=true→
(dI=true→
aQ (↑yc:Int) bz.length∧
True∧
(fo=true→false=oh b r∧True)∧
(fo=false→
bq IntKind.i64 ((↑yc:Int)+(1:Int))∧
∃(nm:Nat),
(nm≤cW∧db (lQ b r) (j8 r (↑mK:Int).toNat+nm)=true)∧
cW - nm<cW - yc∧
(↑nm:Int)=(↑yc:Int)+(1:Int)∧
[b]=[b]∧
(0:Nat)=(0:Nat)∧
(↑y3.length:Int)=(↑y3.length:Int)∧
(↑mK:Int)=(↑mK:Int)∧
bz=bz∧
(↑bz.length:Int)=(↑bz.length:Int)∧
ji r (j8 r (↑mK:Int).toNat+nm)=
dc I (ji r cF) fC.1 fC.2∧
y3=y3∧True))∧
(dI=false→
bq IntKind.i64 ((↑mK:Int)+(1:Int))∧
∃(nm:Nat),
(nm≤(2:Nat)∧db (lQ b r) (j8 r nm)=true)∧
(2:Nat) - nm<(2:Nat) - mK∧
(↑nm:Int)=(↑mK:Int)+(1:Int)∧
[b]=[b]∧
(0:Nat)=(0:Nat)∧
(↑y3.length:Int)=(↑y3.length:Int)∧ji r (j8 r nm)=ji r cF∧y3=y3∧True))∧
(cb=false→true=oh b r∧True))))):=by kernel_rfl
theorem ajI (b:av) (r:af) (h:ki r) (hz:r.2.2.2.2.2.2.1.length≤aK):ai (ah ay [(246,KS)]) Tryz.f196 Lc (a196 (b,r,())) (b,r,()):=by
 rw[v196,Ux]
 obtain⟨l1,l2,l3⟩:=h
 refine U.mk fun y2 e2=>U.mk fun y3 e3=> ?_
 have e3:y3=[r.2.2.2.2.1,r.2.2.2.2.2.1]:=e3
 subst e3
 rw[FM _ 0 0 rfl] at e2
 rw[←e2]
 simp only[dz,true_and,and_true,eq_self]
 refine⟨fun h=>by rw[h];rfl,fun h=>⟨⟨0,⟨by omega,rfl⟩,by omega,rfl⟩,fun s=>U.mk fun y5 e5=>U.mk fun y6 e6=>U.mk fun y7 e7=> ?_⟩⟩
 rw[h]
 rintro⟨h1,h2⟩
 rw[Int.toNat_natCast] at e6
 have e6:y6=(fP r.2.2.2.1 s).1:=e6
 refine⟨fun h5=> ?_,fun h5=> ?_⟩
 ·have hs:=ba e5 h5
  have h7:qx b r s= !y7:=by
   rw[e7,EV r (by omega),e6]
   unfold qx
   cases EC b (fP r.2.2.2.1 s).1<;>rfl
  refine⟨⟨by omega,by omega⟩,fun hy=> ?_,fun hy=>⟨bg (by omega) (by omega),s+1,⟨by omega,fc h2 (by rw[h7,hy];rfl)⟩,by omega,by omega,?_⟩⟩
  ·rw[fT hs (by rw[h7,hy];rfl)]
   rfl
  ·rw[e6]
   refine QJ r hs ?_
   rw[hy] at h7
   unfold qx at h7
   have h7:(EC b (fP r.2.2.2.1 s).1&& !cd (fun j=>(fP r.2.2.2.1 j).1==(fP r.2.2.2.1 s).1) s)=true:=h7
   rw[Bool.and_eq_true] at h7
   simpa using h7.2
 ·have hs:=br e5 h5
  have:s=r.2.2.2.1.length:=by omega
  subst this
  rw[h2]
  refine⟨⟨0,⟨by omega,by simp⟩,by omega⟩,fun t=>U.mk fun y9 e9=>U.mk fun bp du=>U.mk fun bI eH=> ?_⟩
  rintro⟨h3,h4⟩
  rw[Int.toNat_natCast] at du
  refine⟨fun h9=> ?_,fun h9=> ?_⟩
  ·have ht:=ba e9 h9
   have mC:r8 b r (r.2.2.2.2.2.2.1.getD t 0)= !bI:=by
    rw[←du,eH,EV r (Nat.le_refl _)]
    unfold r8
    rw[Sd]
    cases EC b bp<;>rfl
   refine⟨⟨by omega,by omega⟩,fun hy=> ?_,fun hy=>⟨dr ht hz,t+1,⟨by omega,all_succ 0 ht h4 (by rw[mC,hy];rfl)⟩,by omega,by omega⟩⟩
   ·rw[mG (s:=t) 0 ht (by rw[mC,hy];rfl)]
    rfl
  ·have ht:=br e9 h9
   rw[jx ht h4]
   refine⟨⟨0,⟨by omega,rfl⟩,by omega,rfl⟩,fun j=>U.mk fun cb hX=>U.mk fun cW jG=>U.mk fun bz gJ=> ?_⟩
   rintro⟨h5,h6⟩
   rw[Int.toNat_natCast] at jG gJ
   rw[Int.toNat_natCast]
   refine⟨fun mg=> ?_,fun mg=> ?_⟩
   ·have hj:j<2:=ba (b:=2) hX mg
    rw[OH r hj] at gJ
    have anO:cW=bz.length:=by rw[jG,gJ]
    have hlen:bz.length≤1000:=by
     rw[gJ]
     rcases(by omega:j=0∨j=1) with rfl|rfl
     ·exact l2
     ·exact l3
    refine⟨⟨by omega,by show(j:Int)<2;omega⟩,⟨0,⟨by omega,h6⟩,by omega,rfl⟩,fun i=>U.mk fun cF iN=>U.mk fun dI m8=>U.mk fun fC nH=>U.mk fun dJ pb=>U.mk fun fo qZ=> ?_⟩
    rintro⟨h7,h8⟩
    rw[Int.toNat_natCast] at nH
    refine⟨fun zf=> ?_,fun zf=> ?_⟩
    ·have hi:=ba m8 zf
     have hn:eS r cF=fC:=by rw[iN,nH,gJ];exact OT r hj (by rw[←gJ];exact hi)
     have dK:cF<r.2.2.2.2.1.length+r.2.2.2.2.2.1.length:=by
      have:=S7 r hj (i:=i) (by rw[←gJ];exact hi)
      rw[An] at this
      omega
     have R4:lQ b r cF= !fo:=by
      have hc:=OS h8
      rw[hn] at hc
      rw[qZ,pb,hc]
      unfold lQ
      rw[hn]
      cases EC b fC.1<;>cases hx:(fC.2==1)<;>cases hz:(fC.2==2)<;>simp[hx,hz,bne]
     refine⟨⟨by omega,by omega⟩,fun hy=> ?_,fun hy=>⟨bg (by omega) (by omega),i+1,⟨by omega,?_⟩,by omega,by omega,?_⟩⟩
     ·rw[fT dK (by rw[R4,hy];rfl)]
      rfl
     ·rw[←Nat.add_assoc,←iN]
      exact fc h8 (by rw[R4,hy];rfl)
     ·rw[←Nat.add_assoc,←iN,←hn]
      rfl
    ·have hi:=br m8 zf
     have ho:j8 r (j+1)=cF:=by rw[Ke r hj,iN,←gJ];omega
     exact⟨bg (by omega) (by omega),j+1,⟨by omega,by rw[ho];exact h8⟩,by omega,by omega,by rw[ho]⟩
   ·have hj:2≤j:=br (b:=2) hX mg
    have:j=2:=by omega
    subst this
    rw[ON] at h6
    rw[h6]
    rfl
theorem acF:aM Tryz.prog 196 Lc:=
 aM.bZ (l:=[(246,KS)]) (A:=a196) aH ⟨acg,trivial⟩ Tryz.func196 (by kernel_rfl) (by kernel_rfl) fun x hw hp=>ajI x.1 x.2.1 hp hw.2.1.2.2.2.2.2.2.1.1
theorem Kl (e:Int) (l:List (Int×List Int)) (x:Int×List Int):eD e (l++[x])=eD e l++(bif bG x.2 e then[x.1] else[]):=by
 unfold eD
 rw[List.filter_append,List.map_append]
 congr 1
 cases h:bG x.2 e<;>simp[h]
theorem keys_perm (e:Int) {l m:List (Int×List Int)} (h:l.Perm m):(eD e l).Perm (eD e m):=(h.filter _).map _
theorem Kk {b:av} {e:Int} (h:o7 b e) {todo done:List (Int×List Int)} (hp:jD b.2.2.1 (todo,done)):(eD e done).length≤1000:=by
 have h1:b.2.2.1.Perm (done++todo):=hp
 have h1:=h1.length_eq
 have h:b.2.2.1.length≤1000:=h
 rw[List.length_append] at h1
 have:(eD e done).length≤done.length:=by unfold eD;rw[List.length_map];exact List.length_filter_le _ _
 omega
theorem afH (b:av) (e:Int):ai (ah ay [(74,BS),(61,Yt)]) Tryz.f30 Yz (a30 (b,e,())) (b,e,())=(
(∃(dp:List (Int×List Int)×List (Int×List Int)),jD b.2.2.1 dp∧[b]=[b]∧(0:Nat)=(0:Nat)∧e=e∧dp.1=b.2.2.1∧eD e dp.2=[]∧True)∧
∀(s2:List (Int×List Int)×List (Int×List Int)),
jD b.2.2.1 s2→
(s2.1=[]→(false=true→False)∧(false=false→(eD e s2.2).length≤(1000000:Nat)∧mJ (eD e s2.2) (eD e s2.2).length=kb b e∧True))∧
∀(x3:Int×List Int),
U ((List.replicate (1:Nat) (0:Int)).set (0:Nat) x3.1) fun(y4:List Int)=>
∀(QO:List (Int×List Int)),
s2.1.Perm (x3::QO)→
(true=true→
True∧
(bG x3.2 e=true→
roomFor ((eD e s2.2).length+y4.length) (8:Nat)∧
∃(eR:List (Int×List Int)×List (Int×List Int)),
jD b.2.2.1 eR∧
eR.1.length<s2.1.length∧[b]=[b]∧(0:Nat)=(0:Nat)∧e=e∧eR.1=QO∧eD e eR.2=eD e s2.2++y4∧True)∧
(bG x3.2 e=false→
∃(eR:List (Int×List Int)×List (Int×List Int)),
jD b.2.2.1 eR∧eR.1.length<s2.1.length∧[b]=[b]∧(0:Nat)=(0:Nat)∧e=e∧eR.1=QO∧eD e eR.2=eD e s2.2∧True))∧
(true=false→(eD e s2.2).length≤(1000000:Nat)∧mJ (eD e s2.2) (eD e s2.2).length=kb b e∧True)):=by kernel_rfl
theorem ajf (b:av) (e:Int) (h:o7 b e):ai (ah ay [(74,BS),(61,Yt)]) Tryz.f30 Yz (a30 (b,e,())) (b,e,()):=by
 rw[afH]
 simp only[true_and,and_true,eq_self]
 have stop:∀s:List (Int×List Int)×List (Int×List Int),jD b.2.2.1 s→s.1=[]→(eD e s.2).length≤1000000∧mJ (eD e s.2) (eD e s.2).length=kb b e:=fun s hs h0=>by
  refine⟨by have:=Kk h (todo:=s.1) (done:=s.2) hs;omega,?_⟩
  unfold kb
  have hs:b.2.2.1.Perm (s.2++s.1):=hs
  rw[h0,List.append_nil] at hs
  exact(Og (keys_perm e hs)).symm
 refine⟨⟨(b.2.2.1,[]),.refl _,rfl,rfl⟩,fun s hs=>⟨fun h0=>⟨fun h=>Bool.noConfusion h,fun _=>stop s hs h0⟩,fun x=>U.mk fun y4 e4=>fun rest hp=>⟨fun _=>⟨fun hm=> ?_,fun hm=> ?_⟩,fun h=>Bool.noConfusion h⟩⟩⟩
 all_goals
  have nC:jD b.2.2.1 (rest,s.2++[x]):=by
   have hs:b.2.2.1.Perm (s.2++s.1):=hs
   show b.2.2.1.Perm (s.2++[x]++rest)
   rw[List.append_assoc]
   exact hs.trans (hp.append_left s.2)
 ·refine⟨c6 ?_ (by omega),(rest,s.2++[x]),nC,?_,rfl,?_⟩
  ·have:=Kk h (todo:=s.1) (done:=s.2) hs
   rw[e4]
   show _+1≤_
   omega
  ·rw[hp.length_eq]
   exact Nat.lt_succ_self _
  ·rw[Kl,hm,e4]
   rfl
 ·refine⟨(rest,s.2++[x]),nC,?_,rfl,?_⟩
  ·rw[hp.length_eq]
   exact Nat.lt_succ_self _
  ·rw[Kl,hm]
   exact List.append_nil _
theorem WS:aM Tryz.prog 30 Yz:=
 aM.bZ (l:=[(74,BS),(61,Yt)]) (A:=a30) aH ⟨S3,ahg,trivial⟩ Tryz.func30 (by kernel_rfl) (by kernel_rfl) fun x hw hp=>ajf x.1 x.2.1 hp
theorem ahu:aM Tryz.prog 30 c30:=WS.asData
theorem xA {b:av} {e:Int} (h:pG b e) {l:List (Int×List aY)} (hl:∀x∈l,x∈b.2.2.2.1) {x:Int×List aY} (hx:x∈l) {u:aY} (hu:lS b x.1 e=some u):gd b e l=u.2:=by
 unfold gd
 cases hf:l.find? (holds b e) with
 |none=>
  have:=List.find?_eq_none.1 hf x hx
  unfold holds at this
  rw[hu] at this
  simp at this
 |some y=>
  have hy:=List.find?_some hf
  unfold holds at hy
  cases hv:lS b y.1 e with
  |none=>rw[hv] at hy;cases hy
  |some v=>
   show((lS b y.1 e).getD (0,0)).2=_
   rw[hv]
   exact h y (hl y (List.mem_of_find?_eq_some hf)) x (hl x hx) v u hv hu
theorem H5 {b:av} {e:Int} {l:List (Int×List aY)} (h:∀x∈l,holds b e x=false):gd b e l=0:=by
 unfold gd
 rw[List.find?_eq_none.2 fun x hx=>by rw[h x hx];simp]
theorem R0 {b:av} {e:Int} (h:pG b e) {l m:List (Int×List aY)} (hp:l.Perm m) (hm:∀x∈m,x∈b.2.2.2.1):gd b e l=gd b e m:=by
 cases hf:m.find? (holds b e) with
 |none=>
  have h0:∀x∈m,holds b e x=false:=fun x hx=>by simpa using List.find?_eq_none.1 hf x hx
  rw[H5 h0,H5 fun x hx=>h0 x (hp.mem_iff.1 hx)]
 |some y=>
  have hy:=List.find?_some hf
  have my:=List.mem_of_find?_eq_some hf
  unfold holds at hy
  cases hv:lS b y.1 e with
  |none=>rw[hv] at hy;cases hy
  |some v=>rw[xA h hm my hv,xA h (fun x hx=>hm x (hp.mem_iff.1 hx)) (hp.mem_iff.2 my) hv]
theorem Vb {b:av} {e:Int} {l:List (Int×List aY)} {x:Int×List aY} (hx:holds b e x=false):gd b e (l++[x])=gd b e l:=by
 unfold gd
 rw[List.find?_append]
 cases l.find? (holds b e) with
 |some y=>rfl
 |none=>simp[hx]
theorem v33 (b:av) (e:Int):ai (ah ay [(76,BR)]) Tryz.f33 ND (a33 (b,e,())) (b,e,())=(
(∃(dp:List (Int×List aY)×List (Int×List aY)),
jD b.2.2.2.1 dp∧
gd b e dp.2=(0:Int)∧(↑(List.filter (holds b e) dp.2).length:Int)=(0:Int)∧[b]=[b]∧(0:Nat)=(0:Nat)∧e=e∧dp.1=b.2.2.2.1∧True)∧
∀(s2:List (Int×List aY)×List (Int×List aY)),
U ((↑(List.filter (holds b e) s2.2).length:Int)+(1:Int)) fun(y3:Int)=>
jD b.2.2.2.1 s2→
(s2.1=[]→(false=true→False)∧(false=false→gd b e s2.2=(lA b e).1∧(↑(List.filter (holds b e) s2.2).length:Int)=(lA b e).2∧True))∧
∀(x4:Int×List (Int×Int)),
U ((aT I b.2.2.2.1 x4.1).getD []) fun(y5:List (Int×Int))=>
U ((aT I b.2.2.2.2 x4.1).getD []) fun(y6:List (Int×Int))=>
∀(Bi:List (Int×List (Int×Int))),
s2.1.Perm (x4::Bi)→
(true=true→
cQ y5∧
roomFor (y5.length+y6.length) (16:Nat)∧
(∃(mL:Nat),
(mL≤(lP b x4.1).length∧((List.take mL (lP b x4.1)).any fun(n:aY)=>n.1==e)=false)∧
(↑mL:Int)=(0:Int)∧
[b]=[b]∧
(0:Nat)=(0:Nat)∧
e=e∧
gd b e s2.2=gd b e s2.2∧
(↑(List.filter (holds b e) s2.2).length:Int)=(↑(List.filter (holds b e) s2.2).length:Int)∧
x4.1=x4.1∧(↑(y5++y6).length:Int)=(↑(y5++y6).length:Int)∧Bi=Bi∧y5++y6=y5++y6∧True)∧
∀(s8:Nat),
U (decide ((↑s8:Int)<(↑(y5++y6).length:Int))) fun(y9:Bool)=>
U ((y5++y6).getD (↑s8:Int).toNat ((0:Int),(0:Int))) fun(bp:Int×Int)=>
s8≤(lP b x4.1).length∧((List.take s8 (lP b x4.1)).any fun(n:aY)=>n.1==e)=false→
(y9=true→
aQ (↑s8:Int) (y5++y6).length∧
((bp.1==e)=true→
bq IntKind.i64 y3∧
∃(jy:List (Int×List aY)×List (Int×List aY)),
jD b.2.2.2.1 jy∧
jy.1.length<s2.1.length∧
gd b e jy.2=bp.2∧
(↑(List.filter (holds b e) jy.2).length:Int)=y3∧[b]=[b]∧(0:Nat)=(0:Nat)∧e=e∧jy.1=Bi∧True)∧
((bp.1==e)=false→
bq IntKind.i64 ((↑s8:Int)+(1:Int))∧
∃(jy:Nat),
(jy≤(lP b x4.1).length∧((List.take jy (lP b x4.1)).any fun(n:aY)=>n.1==e)=false)∧
(lP b x4.1).length - jy<(lP b x4.1).length - s8∧
(↑jy:Int)=(↑s8:Int)+(1:Int)∧
[b]=[b]∧
(0:Nat)=(0:Nat)∧
e=e∧
gd b e s2.2=gd b e s2.2∧
(↑(List.filter (holds b e) s2.2).length:Int)=(↑(List.filter (holds b e) s2.2).length:Int)∧
x4.1=x4.1∧(↑(y5++y6).length:Int)=(↑(y5++y6).length:Int)∧Bi=Bi∧y5++y6=y5++y6∧True))∧
(y9=false→
∃(jy:List (Int×List aY)×List (Int×List aY)),
jD b.2.2.2.1 jy∧
jy.1.length<s2.1.length∧
gd b e jy.2=gd b e s2.2∧
(↑(List.filter (holds b e) jy.2).length:Int)=(↑(List.filter (holds b e) s2.2).length:Int)∧
[b]=[b]∧(0:Nat)=(0:Nat)∧e=e∧jy.1=Bi∧True))∧
(true=false→gd b e s2.2=(lA b e).1∧(↑(List.filter (holds b e) s2.2).length:Int)=(lA b e).2∧True)):=by kernel_rfl
theorem b33 (b:av) (e:Int) (hsm:ga b) (h:pG b e):ai (ah ay [(76,BR)]) Tryz.f33 ND (a33 (b,e,())) (b,e,()):=by
 rw[v33]
 simp only[true_and,and_true,eq_self]
 have hF1:(lA b e).1=gd b e b.2.2.2.1:=by unfold lA;rfl
 have hF2:(lA b e).2=((b.2.2.2.1.filter (holds b e)).length:Int):=by unfold lA;rfl
 have sub:∀s:List (Int×List aY)×List (Int×List aY),jD b.2.2.2.1 s→∀x∈s.2++s.1,x∈b.2.2.2.1:=fun s hs x hx=>(show b.2.2.2.1.Perm (s.2++s.1) from hs).mem_iff.2 hx
 have stop:∀s:List (Int×List aY)×List (Int×List aY),jD b.2.2.2.1 s→s.1=[]→gd b e s.2=(lA b e).1∧((s.2.filter (holds b e)).length:Int)=(lA b e).2:=fun s hs h0=>by
  have hp:b.2.2.2.1.Perm (s.2++s.1):=hs
  rw[h0,List.append_nil] at hp
  rw[hF1,hF2]
  refine⟨R0 h hp.symm fun x hx=>hx,?_⟩
  rw[(hp.filter (holds b e)).length_eq]
 refine⟨⟨(b.2.2.2.1,[]),.refl _,rfl,rfl,rfl⟩,fun s=>U.mk fun y3 e3=>fun hs=>⟨fun h0=>⟨fun h=>Bool.noConfusion h,fun _=>stop s hs h0⟩,fun x=>U.mk fun y5 e5=>U.mk fun y6 e6=>fun rest hp=>⟨fun _=> ?_,fun h=>Bool.noConfusion h⟩⟩⟩
 have l5:y5.length≤1000:=by rw[e5];exact qP hsm.uv x.1
 have l6:y6.length≤1000:=by rw[e6];exact qP hsm.guards x.1
 have hN:lP b x.1=y5++y6:=by rw[e5,e6];rfl
 have hlen:(y5++y6).length=y5.length+y6.length:=List.length_append
 have Po:b.2.2.2.1.Perm (s.2++s.1):=hs
 have nC:jD b.2.2.2.1 (rest,s.2++[x]):=by
  show b.2.2.2.1.Perm (s.2++[x]++rest)
  rw[List.append_assoc]
  exact Po.trans (hp.append_left s.2)
 have dK:rest.length<s.1.length:=by rw[hp.length_eq];exact Nat.lt_succ_self _
 have hfl:(s.2.filter (holds b e)).length≤1000:=by
  have h1:=List.length_filter_le (holds b e) s.2
  have h2:=Po.length_eq
  rw[List.length_append] at h2
  have:=hsm.rU.2.2
  omega
 rw[hN]
 refine⟨l5,c6 (by omega) (by omega),⟨0,⟨by omega,by simp⟩,by omega⟩,fun k=>U.mk fun y9 e9=>U.mk fun bp du=> ?_⟩
 rintro⟨h1,h2⟩
 rw[Int.toNat_natCast] at du
 refine⟨fun hk=> ?_,fun hk=> ?_⟩
 ·have hk:=ba e9 hk
  refine⟨⟨by omega,by omega⟩,fun hy=>⟨by rw[e3];exact bg (by omega) (by omega),(rest,s.2++[x]),nC,dK,?_,?_,rfl⟩,fun hy=>⟨bg (by omega) (by omega),k+1,⟨by omega,any_succ (0,0) hk h2 (by rw[←du];exact hy)⟩,by omega,by omega⟩⟩
  all_goals
   have hh:lS b x.1 e=some bp:=by
    unfold lS
    rw[hN,du]
    exact C6 (0,0) hk h2 (by rw[←du];exact hy)
  ·exact xA h (fun z hz=>sub _ nC z (List.mem_append_left _ hz)) (List.mem_append_right _ (List.mem_singleton.2 rfl)) hh
  ·have:holds b e x=true:=by unfold holds;rw[hh];rfl
   rw[e3,List.filter_append,List.length_append]
   simp[this]
 ·have hk:=br e9 hk
  have hh:lS b x.1 e=none:=by
   unfold lS
   rw[hN]
   exact xE hk h2
  have hx:holds b e x=false:=by unfold holds;rw[hh];rfl
  refine⟨(rest,s.2++[x]),nC,dK,Vb hx,?_,rfl⟩
  rw[List.filter_append,List.length_append]
  simp[hx]
theorem abe:aM Tryz.prog 33 ND:=
 aM.bZ (l:=[(76,BR)]) (A:=a33) aH ⟨OM,trivial⟩ Tryz.func33 (by kernel_rfl) (by kernel_rfl) fun x hw hp=>b33 x.1 x.2.1 hp.1 hp.2
theorem Xf (b:av) (o:Int) (r:af):jv b o r=bif decide (o<0)||(gE b o|| !oh b r) then 1 else bif r.2.2.2.1.any (kV b) then 14 else bif r.2.2.2.2.2.2.1.any (fun e=>decide (0≤eT b e)) then 14 else
  bif(bC r).any (ld b) then 15 else 0:=by unfold jv;rfl
theorem agI (b:av) (o:Int) (r:af):ai (ah ay [(28,BT),(196,Lc),(29,Gh),(30,c30),(33,ND)]) Tryz.f121 Dv (Y8 (b,o,r,())) (b,o,r,())=(
U (bif decide (o<(0:Int)) then true else gE b o) fun(y3:Bool)=>
U (bif y3 then true else !oh b r) fun(y4:Bool)=>
U (((List.replicate (2:Nat) ([]:List (Int×Int))).set (0:Nat) r.2.2.2.2.1).set (1:Nat) r.2.2.2.2.2.1) fun(y5:List (List (Int×Int)))=>
(decide (o<(0:Int))=false→ga b)∧
(y3=false→ki r)∧
(y4=true→(1:Int)=jv b o r∧True)∧
(y4=false→
(∃(lx:Nat),
(lx≤r.2.2.2.1.length∧(List.take lx r.2.2.2.1).any (kV b)=false)∧
(↑lx:Int)=(0:Int)∧
[b]=[b]∧
(0:Nat)=(0:Nat)∧
r.2.2.2.1=r.2.2.2.1∧
(↑r.2.2.2.1.length:Int)=(↑r.2.2.2.1.length:Int)∧
aE r (True))∧
∀(s6:Nat),
U (decide ((↑s6:Int)<(↑r.2.2.2.1.length:Int))) fun(y7:Bool)=>
U (r.2.2.2.1.getD (↑s6:Int).toNat ((0:Int),(0:Int),(0:Int))).1 fun(y8:Int)=>
U (decide (eT b y8≥(0:Int))) fun(y9:Bool)=>
U (bif y9 then true else decide ((↑(kb b y8).length:Int)>(0:Int))) fun(bp:Bool)=>
s6≤r.2.2.2.1.length∧(List.take s6 r.2.2.2.1).any (kV b)=false→
(y7=true→
aQ (↑s6:Int) r.2.2.2.1.length∧
oX b y8∧
(y9=false→o7 b y8)∧
(bp=true→(14:Int)=jv b o r∧True)∧
(bp=false→
bq IntKind.i64 ((↑s6:Int)+(1:Int))∧
∃(jy:Nat),
(jy≤r.2.2.2.1.length∧(List.take jy r.2.2.2.1).any (kV b)=false)∧
r.2.2.2.1.length - jy<r.2.2.2.1.length - s6∧
(↑jy:Int)=(↑s6:Int)+(1:Int)∧
[b]=[b]∧
(0:Nat)=(0:Nat)∧
r.2.2.2.1=r.2.2.2.1∧
(↑r.2.2.2.1.length:Int)=(↑r.2.2.2.1.length:Int)∧
aE r (True)))∧
(y7=false→
(∃(sf:Nat),
(sf≤r.2.2.2.2.2.2.1.length∧((List.take sf r.2.2.2.2.2.2.1).any fun(e:Int)=>decide ((0:Int)≤eT b e))=false)∧
(↑sf:Int)=(0:Int)∧
[b]=[b]∧
(0:Nat)=(0:Nat)∧
r.2.2.2.2.2.2.1=r.2.2.2.2.2.2.1∧
(↑r.2.2.2.2.2.2.1.length:Int)=(↑r.2.2.2.2.2.2.1.length:Int)∧
aE r (True))∧
∀(kd:Nat),
U (decide ((↑kd:Int)<(↑r.2.2.2.2.2.2.1.length:Int))) fun(aw:Bool)=>
U (r.2.2.2.2.2.2.1.getD (↑kd:Int).toNat (0:Int)) fun(cb:Int)=>
U (decide (eT b cb≥(0:Int))) fun(cW:Bool)=>
kd≤r.2.2.2.2.2.2.1.length∧((List.take kd r.2.2.2.2.2.2.1).any fun(e:Int)=>decide ((0:Int)≤eT b e))=false→
(aw=true→
aQ (↑kd:Int) r.2.2.2.2.2.2.1.length∧
oX b cb∧
(cW=true→(14:Int)=jv b o r∧True)∧
(cW=false→
bq IntKind.i64 ((↑kd:Int)+(1:Int))∧
∃(k6:Nat),
(k6≤r.2.2.2.2.2.2.1.length∧
((List.take k6 r.2.2.2.2.2.2.1).any fun(e:Int)=>decide ((0:Int)≤eT b e))=false)∧
r.2.2.2.2.2.2.1.length - k6<r.2.2.2.2.2.2.1.length - kd∧
(↑k6:Int)=(↑kd:Int)+(1:Int)∧
[b]=[b]∧
(0:Nat)=(0:Nat)∧
r.2.2.2.2.2.2.1=r.2.2.2.2.2.2.1∧
(↑r.2.2.2.2.2.2.1.length:Int)=(↑r.2.2.2.2.2.2.1.length:Int)∧
aE r (True)))∧
(aw=false→
(∃(mM:Nat),
(mM≤(2:Nat)∧(List.take (j8 r mM) (bC r)).any (ld b)=false)∧
(↑mM:Int)=(0:Int)∧[b]=[b]∧(0:Nat)=(0:Nat)∧(↑y5.length:Int)=(↑y5.length:Int)∧y5=y5∧True)∧
∀(eI:Nat),
U (decide ((↑eI:Int)<(↑y5.length:Int))) fun(cT:Bool)=>
U (uD r (↑eI:Int).toNat).length fun(cF:Nat)=>
U (y5.getD (↑eI:Int).toNat []) fun(dI:List (Int×Int))=>
eI≤(2:Nat)∧(List.take (j8 r eI) (bC r)).any (ld b)=false→
(cT=true→
aQ (↑eI:Int) y5.length∧
(∃(xT:Nat),
(xT≤cF∧(List.take (j8 r (↑eI:Int).toNat+xT) (bC r)).any (ld b)=false)∧
(↑xT:Int)=(0:Int)∧
[b]=[b]∧
(0:Nat)=(0:Nat)∧
(↑y5.length:Int)=(↑y5.length:Int)∧
(↑eI:Int)=(↑eI:Int)∧dI=dI∧(↑dI.length:Int)=(↑dI.length:Int)∧y5=y5∧True)∧
∀(jh:Nat),
U (decide ((↑jh:Int)<(↑dI.length:Int))) fun(dJ:Bool)=>
U (dI.getD (↑jh:Int).toNat ((0:Int),(0:Int))) fun(fo:Int×Int)=>
U (bif(lA b fo.1).1 !=(0:Int) then(lA b fo.1).1 !=fo.2 else false) fun(dG:Bool)=>
jh≤cF∧(List.take (j8 r (↑eI:Int).toNat+jh) (bC r)).any (ld b)=false→
(dJ=true→
aQ (↑jh:Int) dI.length∧
(ga b∧pG b fo.1)∧
(dG=true→(15:Int)=jv b o r∧True)∧
(dG=false→
bq IntKind.i64 ((↑jh:Int)+(1:Int))∧
∃(vh:Nat),
(vh≤cF∧(List.take (j8 r (↑eI:Int).toNat+vh) (bC r)).any (ld b)=false)∧
cF - vh<cF - jh∧
(↑vh:Int)=(↑jh:Int)+(1:Int)∧
[b]=[b]∧
(0:Nat)=(0:Nat)∧
(↑y5.length:Int)=(↑y5.length:Int)∧
(↑eI:Int)=(↑eI:Int)∧
dI=dI∧(↑dI.length:Int)=(↑dI.length:Int)∧y5=y5∧True))∧
(dJ=false→
bq IntKind.i64 ((↑eI:Int)+(1:Int))∧
∃(vh:Nat),
(vh≤(2:Nat)∧(List.take (j8 r vh) (bC r)).any (ld b)=false)∧
(2:Nat) - vh<(2:Nat) - eI∧
(↑vh:Int)=(↑eI:Int)+(1:Int)∧
[b]=[b]∧(0:Nat)=(0:Nat)∧(↑y5.length:Int)=(↑y5.length:Int)∧y5=y5∧True))∧
(cT=false→(0:Int)=jv b o r∧True))))):=by kernel_rfl
theorem aj6 (b:av) (o:Int) (r:af) (hb:pT b) (h:ki r) (hz:r.2.2.2.2.2.2.1.length≤aK):ai (ah ay [(28,BT),(196,Lc),(29,Gh),(30,c30),(33,ND)]) Tryz.f121 Dv (Y8 (b,o,r,())) (b,o,r,()):=by
 rw[agI,Xf]
 have hr:=h
 obtain⟨l1,l2,l3⟩:=h
 refine U.mk fun y3 e3=>U.mk fun y4 e4=>U.mk fun y5 e5=> ?_
 have e5:y5=[r.2.2.2.2.1,r.2.2.2.2.2.1]:=e5
 subst e5
 have e4:(decide (o<0)||(gE b o|| !oh b r))=y4:=by
  rw[e4,e3]
  cases decide (o<0)<;>cases gE b o<;>rfl
 rw[e4]
 simp only[dz,true_and,and_true,eq_self]
 refine⟨fun _=>hb.small,fun _=>hr,fun h4=>by rw[h4];rfl,fun h4=>⟨⟨0,⟨by omega,by simp⟩,by omega⟩,fun s=>U.mk fun y7 e7=>U.mk fun y8 e8=>U.mk fun y9 e9=>U.mk fun bp du=> ?_⟩⟩
 rw[h4]
 rintro⟨h1,h2⟩
 rw[Int.toNat_natCast] at e8
 have e8:y8=(r.2.2.2.1.getD s iq).1:=e8
 refine⟨fun hs=> ?_,fun hs=> ?_⟩
 ·have hs:=ba e7 hs
  have jF:kV b (r.2.2.2.1.getD s iq)=bp:=by
   rw[du,e9,e8]
   unfold kV
   show(decide (0≤eT b (r.2.2.2.1.getD s iq).1)||decide (0<(kb b (r.2.2.2.1.getD s iq).1).length))=(bif decide (0≤eT b (r.2.2.2.1.getD s iq).1) then true else decide ((0:Int)<((kb b (r.2.2.2.1.getD s iq).1).length:Int)))
   rw[show decide ((0:Int)<((kb b (r.2.2.2.1.getD s iq).1).length:Int))=decide (0<(kb b (r.2.2.2.1.getD s iq).1).length) from decide_eq_decide.2 (by omega)]
   cases decide (0≤eT b (r.2.2.2.1.getD s iq).1)<;>rfl
  refine⟨⟨by omega,by omega⟩,hb.rU _,fun _=>hb.Nr _,fun hy=> ?_,fun hy=>⟨bg (by omega) (by omega),s+1,⟨by omega,any_succ iq hs h2 (by rw[jF];exact hy)⟩,by omega,by omega⟩⟩
  rw[pK (s:=s) iq hs (by rw[jF];exact hy)]
  rfl
 ·have hs:=br e7 hs
  rw[n4 hs h2]
  refine⟨⟨0,⟨by omega,by simp⟩,by omega⟩,fun t=>U.mk fun aw dM=>U.mk fun cb hX=>U.mk fun cW jG=> ?_⟩
  rintro⟨h3,h5⟩
  rw[Int.toNat_natCast] at hX
  refine⟨fun ht=> ?_,fun ht=> ?_⟩
  ·have ht:=ba dM ht
   have qU:decide (0≤eT b (r.2.2.2.2.2.2.1.getD t 0))=cW:=by rw[jG,hX]
   refine⟨⟨by omega,by omega⟩,hb.rU _,fun hy=> ?_,fun hy=>⟨dr ht hz,t+1,⟨by omega,any_succ 0 ht h5 (by rw[qU];exact hy)⟩,by omega,by omega⟩⟩
   rw[pK (s:=t) 0 ht (by rw[qU];exact hy)]
   rfl
  ·have ht:=br dM ht
   rw[n4 ht h5]
   refine⟨⟨0,⟨by omega,by rfl⟩,by omega⟩,fun j=>U.mk fun cT kT=>U.mk fun cF iN=>U.mk fun dI m8=> ?_⟩
   rintro⟨h6,h7⟩
   rw[Int.toNat_natCast] at iN m8
   rw[Int.toNat_natCast]
   refine⟨fun sK=> ?_,fun sK=> ?_⟩
   ·have hj:j<2:=ba (b:=2) kT sK
    rw[OH r hj] at m8
    have anN:cF=dI.length:=by rw[iN,m8]
    have hlen:dI.length≤1000:=by
     rw[m8]
     rcases(by omega:j=0∨j=1) with rfl|rfl
     ·exact l2
     ·exact l3
    refine⟨⟨by omega,by show(j:Int)<2;omega⟩,⟨0,⟨by omega,h7⟩,by omega⟩,fun i=>U.mk fun dJ pb=>U.mk fun fo qZ=>U.mk fun dG sB=> ?_⟩
    rintro⟨h8,h9⟩
    rw[Int.toNat_natCast] at qZ
    refine⟨fun C3=> ?_,fun C3=> ?_⟩
    ·have hi:=ba pb C3
     have dK:=S7 r hj (i:=i) (by rw[←m8];exact hi)
     have hn:(bC r).getD (j8 r j+i) (0,0)=fo:=by rw[qZ,m8];exact OT r hj (by rw[←m8];exact hi)
     have zd:ld b ((bC r).getD (j8 r j+i) (0,0))=dG:=by
      rw[hn,sB]
      unfold ld
      cases hx:((lA b fo.1).1==0)<;>cases hz:((lA b fo.1).1==fo.2)<;>simp[hx,hz,bne]
     refine⟨⟨by omega,by omega⟩,⟨hb.small,hb.held _⟩,fun hy=> ?_,fun hy=>⟨bg (by omega) (by omega),i+1,⟨by omega,?_⟩,by omega,by omega⟩⟩
     ·rw[pK (s:=j8 r j+i) (0,0) dK (by rw[zd];exact hy)]
      rfl
     ·rw[←Nat.add_assoc]
      exact any_succ (0,0) dK h9 (by rw[zd];exact hy)
    ·have hi:=br pb C3
     have ho:j8 r (j+1)=j8 r j+i:=by rw[Ke r hj,←m8];omega
     exact⟨bg (by omega) (by omega),j+1,⟨by omega,by rw[ho];exact h9⟩,by omega,by omega⟩
   ·have hj:2≤j:=br (b:=2) kT sK
    have:j=2:=by omega
    subst this
    rw[ON] at h7
    rw[n4 (by rw[An];omega) h7]
    rfl
theorem W6:aM Tryz.prog 121 Dv:=
 aM.bZ (l:=[(28,BT),(196,Lc),(29,Gh),(30,c30),(33,ND)]) (A:=Y8) aH ⟨S5,acF,WT,ahu,abe,trivial⟩ Tryz.func121 (by kernel_rfl) (by kernel_rfl) fun x hw hp=>aj6 x.1 x.2.1 x.2.2.1 hp.1 hp.2 hw.2.2.1.2.2.2.2.2.2.1.1
theorem VG (r:af):oJ r r.2.2.2.1.length=cm r:=by
 unfold oJ cm
 rw[List.take_length]
theorem v71 (b:av) (o:Int) (r:af):bN (ah ay [(121,Dv),(59,TB),(76,TA)]) Tryz.f71 VO (a71 (b,o,r,())) (b,o,r,())=(
U (jv b o r !=(0:Int)) fun(y3:Bool)=>
U (og b o r).2.1 fun(y4:List (Int×List Int))=>
U (og b o r).2.2 fun(y5:List (Int×List Int)×List (Int×List (Int×Int))×List (Int×List (Int×Int)))=>
(pT b∧ki r)∧
(y3=true→
jv b o r=jv b o r∧b.1=(og b o r).1∧b.2.1.Perm y4∧b.2.2.1.Perm y5.1∧b.2.2.2.1.Perm y5.2.1∧b.2.2.2.2.Perm y5.2.2∧True)∧
(y3=false→
(∃(lx:Nat),
lx≤r.2.2.2.1.length∧
(↑lx:Int)=(0:Int)∧
o=o∧
r.2.2.2.1=r.2.2.2.1∧
(↑r.2.2.2.1.length:Int)=(↑r.2.2.2.1.length:Int)∧
oJ r lx=[]∧
aE r (b.1=b.1∧
b.2.1=b.2.1∧b.2.2.1=b.2.2.1∧b.2.2.2.1=b.2.2.2.1∧b.2.2.2.2=b.2.2.2.2∧True))∧
∀(s6:Nat),
U (decide ((↑s6:Int)<(↑r.2.2.2.1.length:Int))) fun(y7:Bool)=>
U ((List.replicate (1:Nat) (0:Int)).set (0:Nat) (r.2.2.2.1.getD (↑s6:Int).toNat ((0:Int),(0:Int),(0:Int))).1) fun(y8:List Int)=>
s6≤r.2.2.2.1.length→
(y7=true→
aQ (↑s6:Int) r.2.2.2.1.length∧
roomFor ((oJ r s6).length+y8.length) (8:Nat)∧
bq IntKind.i64 ((↑s6:Int)+(1:Int))∧
∃(Cm:Nat),
Cm≤r.2.2.2.1.length∧
r.2.2.2.1.length - Cm<r.2.2.2.1.length - s6∧
(↑Cm:Int)=(↑s6:Int)+(1:Int)∧
o=o∧
r.2.2.2.1=r.2.2.2.1∧
(↑r.2.2.2.1.length:Int)=(↑r.2.2.2.1.length:Int)∧
oJ r Cm=oJ r s6++y8∧
aE r (b.1=b.1∧
b.2.1=b.2.1∧
b.2.2.1=b.2.2.1∧b.2.2.2.1=b.2.2.2.1∧b.2.2.2.2=b.2.2.2.2∧True))∧
(y7=false→
cQ r.2.2.2.2.2.2.1∧
cQ r.2.2.2.2.1∧
cQ r.2.2.2.2.2.1∧
(0:Int)=jv b o r∧
b.1=(og b o r).1∧
(dc I b.2.1 o (oJ r s6)).Perm y4∧
(dc I b.2.2.1 o r.2.2.2.2.2.2.1).Perm y5.1∧
(dc I b.2.2.2.1 o r.2.2.2.2.1).Perm y5.2.1∧
(dc I b.2.2.2.2 o r.2.2.2.2.2.1).Perm y5.2.2∧True))):=by kernel_rfl
theorem b71 (b:av) (o:Int) (r:af) (hb:pT b) (h:ki r) (hz:cQ r.2.2.2.2.2.2.1):bN (ah ay [(121,Dv),(59,TB),(76,TA)]) Tryz.f71 VO (a71 (b,o,r,())) (b,o,r,()):=by
 rw[v71]
 obtain⟨l1,l2,l3⟩:=h
 simp only[dz,true_and,and_true,eq_self]
 refine U.mk fun y3 e3=>U.mk fun y4 e4=>U.mk fun y5 e5=>⟨⟨hb,l1,l2,l3⟩,fun h3=> ?_,fun h3=>⟨⟨0,by omega,by omega,rfl⟩,fun s=>U.mk fun y7 e7=>U.mk fun y8 e8=>fun hs=>⟨fun h7=> ?_,fun h7=> ?_⟩⟩⟩
 ·have hT:og b o r=b:=by
   unfold og
   rw[h3,iH] at e3
   cases hx:(jv b o r==0) with
   |false=>rfl
   |true=>rw[hx] at e3;cases e3
  rw[e4,e5,hT]
  exact⟨rfl,.refl _,.refl _,.refl _,.refl _⟩
 ·have nC:=ba e7 h7
  rw[Int.toNat_natCast] at e8
  refine⟨⟨by omega,by omega⟩,c6 ?_ (by omega),bg (by omega) (by omega),s+1,by omega,by omega,by omega,?_⟩
  ·have:(oJ r s).length≤s:=by unfold oJ;rw[List.length_map,List.length_take];omega
   rw[e8]
   show _+1≤_
   omega
  ·unfold oJ
   rw[nW _ iq nC,e8]
   rfl
 ·have nC:=br e7 h7
  have:s=r.2.2.2.1.length:=by omega
  subst this
  have hm:jv b o r=0:=by
   rw[h3,iH] at e3
   cases hx:(jv b o r==0) with
   |false=>rw[hx] at e3;cases e3
   |true=>exact eq_of_beq hx
  have hT:og b o r=taken b o r:=by unfold og;rw[hm];rfl
  rw[e4,e5,hT,VG]
  exact⟨hz,l2,l3,hm.symm,rfl,.refl _,.refl _,.refl _,.refl _⟩
theorem ag8:ew Tryz.prog 71 VO:=
 ew.bZ (l:=[(121,Dv),(59,TB),(76,TA)]) (A:=a71) aH ⟨W6,ab5,ab3,trivial⟩ Tryz.func71 (by kernel_rfl) (by kernel_rfl) fun x hw hp=>b71 x.1 x.2.1 x.2.2.1 hp.1.1 hp.1.2 hp.2
abbrev ako:Ty:= .pair I (.pair (.list I) (.pair (.list I) (.pair (.list ek) (.list ek))))
abbrev T1:=Int×List Int×List Int×List aY×List aY
abbrev TW:=Int×List T1
abbrev TV:eQ:= .cells true (.pair (.aC I) (.row 209 ako))
def LL:fq where
 args:=[.aC I]
 outs:=[TV]
 pre:=fun(x:Int×Unit)=>True
 fn:=fun(x:Int×Unit)=>((min (max x.1 0) 40,[]),())
structure akx (b:TW):Prop where
 len:b.2.length≤1000
 uv:∀h∈b.2,h.2.2.2.1.length≤1000∧h.2.2.2.2.length≤1000
def UC (p:ab):Prop:=bV p=0∧cS p
def o8 (n:Int):cM:=bif decide (n<1)||decide (n>12) then(0,0,false,[]) else(1,0,false,List.replicate n.toNat false)
def c88:bh where
 args:=[I]
 out:= .data [ml]
 pre:=fun(x:Int×Unit)=>True
 fn:=fun(x:Int×Unit)=>(o8 x.1,())
theorem agN (n:Int):bN (ah ay []) Tryz.f114 LL aq (n,())=(
min (max n (0:Int)) (40:Int)=min (max n (0:Int)) (40:Int)∧([]:List T1)=[]∧True):=by kernel_rfl
theorem adr:ew Tryz.prog 114 LL:=
 ew.bZ (l:=[]) (A:=fun _=>aq) aH trivial Tryz.func114 (by kernel_rfl) (by kernel_rfl) fun x hw hp=>by
  obtain⟨n,⟨⟩⟩:=x
  show bN (ah ay []) Tryz.f114 LL aq (n,())
  rw[agN]
  exact⟨rfl,rfl,trivial⟩
theorem rO (r:af):(cm r).length=r.2.2.2.1.length:=by unfold cm;rw[List.length_map]

abbrev Ql:Ty:= .pair (.list .bool) (.pair (.list I) (.pair (.list .bool) (.list .bool)))
abbrev iO:=List Bool×List Int×List Bool×List Bool
def ajd:bh where
 args:=[.list .bool,I]
 out:= .data [.bool]
 pre:=fun(x:List Bool×Int×Unit)=>True
 fn:=fun(x:List Bool×Int×Unit)=>(vO x.1 x.2.1,())
def gR:cM:=(0,0,false,[])
def Yg (p:ab) (iC:List Bool) (e:Int):Bool:= !(aI p e==4)&&vO iC e
def ajc:bh where
 args:=[PlanT,.list .bool,I]
 out:= .data [.bool]
 pre:=fun(x:ab×List Bool×Int×Unit)=>True
 fn:=fun(x:ab×List Bool×Int×Unit)=>(Yg x.1 x.2.1 x.2.2.1,())
def Uw (r:af):Prop:=ki r∧cQ r.2.2.2.2.2.2.1
def aF (c:bP) (i:Int):af:=c.2.getD i.toNat zR
def rR (c:bP) (i:Int):Bool:=decide (0≤i)&&decide (i<(c.2.length:Int))
def Dk (c:bP):Prop:=UC c.1∧∀r∈c.2,Uw r
def zn (l:List cM) (i:Int):Bool:=decide ((l.length:Int)≤i)||(l.getD i.toNat gR).1==0
def LJ:bh where
 args:=[.list ml,I]
 out:= .data [.bool]
 pre:=fun(x:List cM×Int×Unit)=>0≤x.2.1
 fn:=fun(x:List cM×Int×Unit)=>(zn x.1 x.2.1,())
def lf (p:ab) (iC:List Bool) (e:Int):Bool:=vO iC e&&(decide ((p.1.length:Int)≤e)|| !((p.1.getD e.toNat zE).2.1==4))
def LI:bh where
 args:=[mH,Ql,I]
 out:= .data [.bool]
 pre:=fun(x:bP×iO×Int×Unit)=>True
 fn:=fun(x:bP×iO×Int×Unit)=>(lf x.1.1 x.2.1.1 x.2.2.1,())
def xF (pos:List Int) (n:aY):Bool:=decide (0≤n.1)&&(decide (n.1<(pos.length:Int))&&(pos.getD n.1.toNat 0==n.2&& !(n.2==0)))
def LH:bh where
 args:=[Ql,ek]
 out:= .data [.bool]
 pre:=fun(x:iO×aY×Unit)=>True
 fn:=fun(x:iO×aY×Unit)=>(xF x.1.2.1 x.2.1,())
def uh (c:bP) (HH:List cM) (k:Int) (r:af) (i:Nat):Bool:=((i:Int)==k||(c.2.getD i zR).1==r.1)&& !zn HH (i:Int)
def sc (p:ab) (iC:List Bool) (s:cv):Bool:=lf p iC s.1
def nz (p:ab) (inn:iO) (x:aY):Bool:= !xF inn.2.1 x&&lf p inn.1 x.1
def zF (c:bP) (HH:List cM) (b:av) (t:eG) (inn:iO) (k:Int) (r:af):Int:=
 bif r.2.2.2.2.2.2.2.2 then 11 else bif cd (uh c HH k r) c.2.length then 12 else bif r.2.2.2.1.any (sc c.1 inn.1) then 13 else bif r.2.2.2.2.2.2.1.any (lf c.1 inn.1) then 13 else
  bif !(jv b k r==0) then jv b k r else bif(bC r).any (nz c.1 inn) then 15 else mh t r inn.1 b
@[irreducible] def zj (c:bP) (HH:List cM) (b:av) (t:eG) (inn:iO) (k:Int):Int:=
 bif rR c k then zF c HH b t inn k (aF c k) else 10
def VQ:bh where
 args:=[mH,.list ml,.ref rb,.ref DH,Ql,I]
 out:= .data [I]
 pre:=fun(x:bP×List cM×av×eG×iO×Int×Unit)=>Dk x.1∧pT x.2.2.1∧gL x.2.2.2.1.1
 fn:=fun(x:bP×List cM×av×eG×iO×Int×Unit)=>(zj x.1 x.2.1 x.2.2.1 x.2.2.2.1 x.2.2.2.2.1 x.2.2.2.2.2.1,())
def a69 (x:bP×List cM×av×eG×iO×Int×Unit):eC:=bj [
 (7,fun _=>dE x.1.2.length (dZ (uh x.1 x.2.1 x.2.2.2.2.2.1 (aF x.1 x.2.2.2.2.2.1))) 42 [1,2,3,5,6,10,13,40,41] [6,10,13]),
 (13,fun _=>zy (sc x.1.1 x.2.2.2.2.1.1) (aF x.1 x.2.2.2.2.2.1).2.2.2.1 67 [2,3,5,6,10,13,65,66] [6,10,13]),
 (19,fun _=>zy (lf x.1.1 x.2.2.2.2.1.1) (aF x.1 x.2.2.2.2.2.1).2.2.2.2.2.2.1 80 [2,3,5,6,10,13,78,79] [6,10,13]),
 (28,fun _=>zy (nz x.1.1 x.2.2.2.2.1) (bC (aF x.1 x.2.2.2.2.2.1)) 103 [2,3,6,10,13,101,102] [6,10,13,101])]
end YtjnappfomhkeeaaGreat
end Go.Proofs
end
