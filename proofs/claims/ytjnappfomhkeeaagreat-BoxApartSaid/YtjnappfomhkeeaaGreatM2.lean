/-
  A range over a map is sound: its beginning, its steps (whichever entry comes next), and what has come last; Literal slices, calls by contract, and all single operations together; Regions: the operations of a statement one behind the other, with their guards; and in whatever order the machine draws; Regions, second part: the order of the text, and any order that the machine may draw; Regions, third part: whatever order the machine draws, the region comes to the state that the order of the text comes to; Code: regions, tests, blocks, loops by invariants: the verification condition, and that it is sound; Regions by ways: one operation behind the other, each guard parted into its two ways; a slice compared with nil; The verification condition of code with loops and leaps, and that it is sound. A loop bears an invariant: a state with data of its own, to which the state at the loop's head is matched (blocks under other numbers); Contracts of functions: what is asked of the arguments, and what comes out; how one is proved from the function's text, and how it is used at a call; A function's own verification condition, and that it gives the contract; Owned data: variables and slices of the caller's own that a function is handed and may change; how they lie in memory, and how they are opened into blocks and read back; A call that is handed variables and slices of the caller's own: what the caller's state is behind it; Contracts over owned data, and how one is used at a call; Contracts over owned data, second part: what is promised, and what a caller gets.
-/
import Derived.Test.YtjnappfomhkeeaaGreatM1
import Derived.Laws.BytesArg
import Derived.Deep.LoopGhost
import Derived.Scope

section
set_option linter.unusedVariables false
set_option linter.unusedSimpArgs false
namespace Go.Vc
open Go
variable {P:Program} {X:Ctx} {w0:World} {foot:gF} {base:Mem} {S:St} {E:Env} {a:Act} {w:World} {ctx:c8}
theorem gX.ai5 {F:Mem} {b c:Ty} {m:List (b.den×c.den)} {es:Array MapEntry} {cl:Nat} (h:gX F b c m es cl):je F b c m es.toList:=by
 have key:∀(m:List (b.den×c.den)) (l:List MapEntry),l.length=m.length→(∀(i:Nat) x,m[i]? =some x→∃e,l[i]? =some e∧xQ F b c x e)→je F b c m l:=by
  intro m
  induction m with
  |nil=>intro l hl _;rw[List.eq_nil_of_length_eq_zero hl];exact .nil
  |cons x m ih=>
   intro l hl mU
   cases l with
   |nil=>cases hl
   |cons e l=>
    obtain⟨e',he,hk⟩:=mU 0 x rfl
    cases he
    exact .cons hk (ih l (by simpa using hl) fun i y hy=>mU (i+1) y (by simpa using hy))
 refine key m es.toList (by simpa using h.size) fun i x hx=> ?_
 obtain⟨e,us,ws,q1,q2,q3,q4,q5⟩:=h.at_ i x hx
 exact⟨e,by simpa using q1,⟨us,q2,q3⟩,ws,q4,q5⟩
theorem je.perm {F:Mem} {b c:Ty} {m0 m:List (b.den×c.den)} (hp:m0.Perm m):∀{l:List MapEntry},je F b c m0 l→∃l',l'.Perm l∧je F b c m l':=by
 induction hp with
 |nil=>intro l h;exact⟨l,.refl _,h⟩
 |cons x _ ih=>
  intro l h
  cases h with
  |cons hh ht=>
   obtain⟨l',h1,h2⟩:=ih ht
   exact⟨_::l',h1.cons _,.cons hh h2⟩
 |swap x y _=>
  intro l h
  cases h with
  |cons h1 ht=>
   cases ht with
   |cons h2 ht=>exact⟨_::_::_,.swap _ _ _,.cons h2 (.cons h1 ht)⟩
 |trans _ _ ih1 ih2=>
  intro l h
  obtain⟨l1,h1,h2⟩:=ih1 h
  obtain⟨l2,h3,h4⟩:=ih2 h2
  exact⟨l2,h3.trans h1,h4⟩
theorem MH (es:Array MapEntry):leftOf es #[]=es:=by
 unfold leftOf
 exact Array.filter_eq_self.2 (fun x _=>by simp)
theorem FX {bl:List (Nat×c5)} {used:List Nat} (h:HRel w0 foot base bl used E w) {t k e d:Nat} {b c:Ty} {m:List (b.den×c.den)} {v:Value} (hu:P.underlying t=some (.map k e)) (hd:d∉used)
  (hv:(v= .map none∧m=[])∨∃n es cl m0,v= .map (some n)∧E.F n=some (.map es cl)∧m0.Perm m∧gX E.F b c m0 es cl):
  ∃E' w',(Instr.range t v).run P w= .ok (.pointer (some ⟨w.heap.size,0,none⟩)) w'∧E.le E'∧HRel w0 foot base (put bl d (.iter b c m none)) (d::used) E' w'∧gO E' (.ptr d 0) (.pointer (some ⟨w.heap.size,0,none⟩)):=by
 have jR:E.place d=none:=by
  cases he:E.place d with
  |none=>rfl
  |some q=>exact absurd (h.used d q he) hd
 have hle:=Env.nB (p:=⟨false,w.heap.size,0,0⟩) jR
 rcases hv with ⟨rfl,rfl⟩|⟨n,es,cl,m0,rfl,hF,Gd,hM⟩
 ·exact⟨_,_,run_range_nilMap w t k e hu,hle,h.alloc hd (fun _=>rfl) ⟨rfl,_,_,_,_,oM,.inl ⟨rfl,rfl,rfl⟩⟩,⟨_,Env.fa,rfl,rfl⟩⟩
 ·obtain⟨Gb,g1,g2⟩:=je.perm Gd hM.ai5
  refine⟨_,_,run_range_map w t k e n es cl hu (h.mW _ _ hF),hle,h.alloc hd (fun _=>rfl) ⟨rfl,_,_,_,_,oM,.inr ⟨n,es,cl,Gb,rfl,hle.F _ _ hF,hM.stamps,rfl,rfl,?_,g2.mono hle.F,fun x hx=>by cases hx⟩⟩,⟨_,Env.fa,rfl,rfl⟩⟩
  rw[MH]
  exact g1
theorem Uz (hT:dt P X.ay) (h:SRel w0 foot base S E a w) (hc:bo a ctx) {o:Oper} {t d:Nat} {x:Operand} (ho:o.op= .range t x) {r:b7}
  (hr:(do
   let _ ←qO X t
   Mi d (←lC x):RM b7).run S ctx=some r) (hn:∀i∈r.new,i∉S.used):bX P w0 foot base S E a w o r:=by
 obtain⟨ke,h1,hr⟩:=RM.run_bind' hr
 obtain⟨c,h2,hr⟩:=RM.run_bind' hr
 have hu:=qN hT h1
 have hv:=gq h hc h2
 have fin:∀{v w'},(Instr.range t (a.eval x)).run P w= .ok v w'→(execOp a.eval o).run P w= .ok (.value v) w':=fun {v w'} dA=>by
  simp only[execOp,ho]
  rw[Sem.run_bind,dA]
  rfl
 unfold Mi at hr
 split at hr
 ·rename_i b c m
  cases hr
  obtain⟨_,oo,h3,h4,h5⟩:=hv
  simp only[List.cons.injEq,and_true] at h3
  obtain⟨E',w',k1,k2,k3,k4⟩:=FX (b:=b) (c:=c) (m:=m) (v:=a.eval x) h.toHRel hu (hn d (by simp)) (by
   cases oo with
   |none=>exact .inl ⟨h3,h4 rfl⟩
   |some n=>
    obtain⟨m0,es,cl,q0,q1,q2,q3,q4,q5⟩:=h5 n rfl
    exact .inr ⟨n,es,cl,m0,h3,q1,q0,q2,q3,q4,q5⟩)
  exact bX.value (fin k1) ⟨k2,k3,k4⟩
 ·simp only[RM.run] at hr
  split at hr
  ·rename_i B hf
   split at hr
   ·rename_i n' eh iZ b c m cur
    cases hr
    obtain⟨E1,l1,q1,f1,hH⟩:=h.toHRel.Ij hf
    obtain⟨p,hp,o3,hv⟩:=hv
    obtain⟨p',dj,hB⟩:=hH.ck _ _ (bO _ _ _)
    rw[q1,hp] at dj
    cases dj
    obtain⟨_,es,cl,k1,k2,m0,k0,k3,_⟩:=hB
    obtain⟨E',w',k1,k2,k3,k4⟩:=FX (b:=b) (c:=c) (m:=m) (v:=a.eval x) hH hu (hn d (by simp)) (.inr ⟨_,es,cl,m0,hv,k2 rfl,k0,k3⟩)
    exact bX.value (fin k1) ⟨l1.trans k2,k3,k4⟩
   ·cases hr
  ·cases hr
 ·cases hr
theorem AI {es:Array MapEntry} {cl:Nat} (h:Ao es cl):(es.toList.map (·.born)).Nodup:=by
 unfold List.Nodup
 rw[List.pairwise_map]
 exact h.1.imp fun dK=>Nat.ne_of_lt dK
theorem VA (h:SRel w0 foot base S E a w) (hc:bo a ctx) {o:Oper} {it:Operand} (ho:o.op= .entry it) {r:b7} (hr:(do Nv (←lC it):RM b7).run S ctx=some r):bX P w0 foot base S E a w o r:=by
 obtain⟨c,h2,hr⟩:=RM.run_bind' hr
 have hv:=gq h hc h2
 unfold Nv at hr
 split at hr
 ·rename_i d off
  simp only[RM.run] at hr
  split at hr
  ·rename_i B hf
   split at hr
   ·rename_i b c todo cur
    split at hr
    ·rename_i x XN
     have XN:=Nat.eq_of_beq_eq_true XN
     subst XN
     rw[lM hr]
     obtain⟨p,hp,hn,hv⟩:=hv
     obtain⟨p',dj,_,mo,si,se,la,k1,k2⟩:=h.ck _ _ hf
     rw[hp] at dj;cases dj
     rcases k2 with ⟨_,_,X1⟩|⟨mb,es,cl,Gb,e1,e2,e3,e4,e5,e6,e7,e8⟩
     ·cases X1
     ·obtain⟨e,g1,g2,g3⟩:=e8 x rfl
      subst e1 e4 e5
      have hb:=h.mW _ _ e2
      have hf:es.find? (·.born==e.born)=some e:=by rw[←Array.find?_toList];exact find_born e es.toList (AI e3) g1
      refine bX.value (v:= .tuple #[e.key,e.val]) (w':=w) ?_ (iw.pure h.toHRel ⟨_,rfl,e.key,[e.val],rfl,jA.part g3.1,e.val,[],rfl,jA.part g3.2,rfl⟩)
      simp only[execOp,ho,hv]
      rw[Sem.run_bind]
      have:(Instr.entry (.pointer (some ⟨p.bc,0,none⟩))).run P w= .ok (.tuple #[e.key,e.val]) w:=by
       simp only[Instr.entry,getObj,Sem.run_bind,Sem.run,k1,hb,Result.andThen,g2,bne_self_eq_false,Bool.false_eq_true,if_false,hf]
       rfl
      rw[this]
      rfl
    ·cases hr
   ·cases hr
  ·cases hr
 ·cases hr
structure T0 where
 d:Nat
 a:Ty
 b:Ty
 todo:List (a.den×b.den)
def MO (S:St) (o:Oper):Option T0:=
 match o.op with
 | .next it false=>(match(lC it).run S [] with
  |some (.ptr d 0)=>(match find S.bl d with
   |some (.iter a b todo _)=>some ⟨d,a,b,todo⟩
   |_=>none)
  |_=>none)
 |_=>none
def DV:b7:={val:=some (.yb [(false,[.aC .bool false])])}
def SQ (d:Nat) (a b:Ty) (x:a.den×b.den) (rest:List (a.den×b.den)):b7:=
 {val:=some (.yb [(false,[.aC .bool true]),(a.isAgg,flat a x.1),(b.isAgg,flat b x.2)]),ck:=[(d,.iter a b rest (some x))]}
theorem je.split {F:Mem} {b c:Ty}:∀{pre post:List MapEntry} {e:MapEntry} {m:List (b.den×c.den)},je F b c m (pre++e::post)→
  ∃m1 x m2,m=m1++x::m2∧je F b c m1 pre∧xQ F b c x e∧je F b c m2 post
 |[],post,e,m,h=>by
  cases h with
  |cons hh ht=>exact⟨[],_,_,rfl,.nil,hh,ht⟩
 |y::pre,post,e,m,h=>by
  cases h with
  |cons hh ht=>
   obtain⟨m1,x,m2,rfl,k1,k2,k3⟩:=je.split ht
   exact⟨_::m1,x,m2,rfl,.cons hh k1,k2,k3⟩
theorem je.append {F:Mem} {b c:Ty} {m1 m2:List (b.den×c.den)} {l1 l2:List MapEntry} (h:je F b c m1 l1) (k:je F b c m2 l2):je F b c (m1++m2) (l1++l2):=by
 induction h with
 |nil=>exact k
 |cons h _ ih=>exact .cons h ih
theorem Rz {es:Array MapEntry} {seen:Array Nat} {cl:Nat} (hs:Ao es cl) {pre post:List MapEntry} {e:MapEntry} (h:(pre++e::post).Perm (leftOf es seen).toList):(pre++post).Perm (leftOf es (seen.push e.born)).toList:=by
 have e1:(leftOf es (seen.push e.born)).toList=(leftOf es seen).toList.filter fun y=>y.born !=e.born:=by
  unfold leftOf
  rw[Array.toList_filter,Array.toList_filter,List.filter_filter]
  refine List.filter_congr fun y _=> ?_
  simp only[Array.contains_push]
  cases seen.contains y.born<;>simp[bne,Bool.beq_comm]
  try (cases hq:(y.born==e.born)<;>cases ni:(e.born==y.born)<;>simp_all)
 have hnd:((leftOf es seen).toList.map (·.born)).Nodup:=by
  unfold leftOf
  rw[Array.toList_filter]
  exact((List.filter_sublist).map _).nodup (AI hs)
 have XO:((pre++e::post).map (·.born)).Nodup:=(h.map _).nodup_iff.2 hnd
 have jS:∀y,y∈pre∨y∈post→(y.born !=e.born)=true:=fun y hy=>by
  simp only[List.map_append,List.map_cons,List.nodup_append,List.nodup_cons] at XO
  simp only[bne_iff_ne]
  intro heq
  rcases hy with hy|hy
  ·exact XO.2.2 y.born (List.mem_map_of_mem hy) e.born (by simp) heq
  ·exact XO.2.1.1 (heq▸List.mem_map_of_mem hy)
 have e2:(pre++e::post).filter (fun y=>y.born !=e.born)=pre++post:=by
  rw[List.filter_append,List.filter_cons]
  simp only[bne_self_eq_false,Bool.false_eq_true,if_false]
  rw[List.filter_eq_self.2 fun y hy=>jS y (.inl hy),List.filter_eq_self.2 fun y hy=>jS y (.inr hy)]
 rw[e1,←e2]
 exact h.filter _
theorem Jx (h:SRel w0 foot base S E a w) {o:Oper} {i:T0} (hi:MO S o=some i):
  (i.todo=[]∧bX P w0 foot base S E a w o DV)∨∃x rest,i.todo.Perm (x::rest)∧bX P w0 foot base S E a w o (SQ i.d i.a i.b x rest):=by
 unfold MO at hi
 split at hi
 ·rename_i it ho
  split at hi
  ·rename_i d hd
   split at hi
   ·rename_i b c todo cur hf
    cases hi
    simp only
    have hv:=gq h (fun t ht=>by cases ht) hd
    obtain⟨p,hp,hn,hv⟩:=hv
    obtain⟨p',dj,_,mo,si,se,la,k1,k2⟩:=h.ck _ _ hf
    rw[hp] at dj;cases dj
    have aa8:(Instr.next (.pointer (some ⟨p.bc,0,none⟩)) false o.type).run P w= .ok (.tuple #[.bool false]) w→bX P w0 foot base S E a w o DV:=fun dA=>by
     refine bX.value (v:= .tuple #[.bool false]) (w':=w) ?_ ⟨.refl _,h.toHRel,_,rfl,.bool false,[],rfl,⟨_,rfl,rfl,rfl⟩,rfl⟩
     simp only[execOp,ho,hv]
     rw[Sem.run_bind,dA]
     rfl
    rcases k2 with ⟨rfl,rfl,_⟩|⟨mb,es,cl,Gb,rfl,e2,e3,e4,e5,e6,e7,e8⟩
    ·refine .inl ⟨rfl,aa8 ?_⟩
     simp only[Instr.next,getObj,Sem.run_bind,Sem.run,k1,Result.andThen]
     rfl
    ·rw[e4,e5] at k1
     have hb:=h.mW _ _ e2
     have hold:∀x∈es.toList,x.born<cl:=e3.2
     have XC:=next_test_false se es cl cl hold (Nat.le_refl _)
     have FF:∀x∈(leftOf es se).toList,x.born<cl:=fun x hx=>hold x (by unfold leftOf at hx;simp at hx ⊢;exact hx.1)
     have hL:es.filter (fun e=> !se.contains e.born)=leftOf es se:=rfl
     have f1:(leftOf es se).filter (fun x=>decide (x.born<cl))=leftOf es se:=Array.filter_eq_self.2 (fun x hx=>by simpa using FF x (by simpa using hx))
     have f2:(leftOf es se).filter (fun x=>decide (x.born≥cl))= #[]:=by
      rw[Array.filter_eq_empty_iff]
      intro x hx
      have:=FF x (by simpa using hx)
      simp
      omega
     by_cases h0:(leftOf es se).size=0
     ·have xZ:leftOf es se= #[]:=Array.eq_empty_of_size_eq_zero h0
      rw[xZ] at e6
      have:Gb=[]:=e6.eq_nil
      subst this
      cases e7
      refine .inl ⟨rfl,aa8 ?_⟩
      simp only[Instr.next,getObj,Sem.run_bind,Sem.run,k1,hb,Result.andThen,XC,Bool.false_eq_true,if_false,hL,f1,f2,xZ]
      simp[choose,Sem.run,Question.forced]
     ·have jS:(leftOf es se).isEmpty=false:=by simp[Array.isEmpty,h0]
      have Vf:∃(j n:Nat),j<(leftOf es se).size∧(choose (Question.mapNext (leftOf es se).size)).run P w= .ok j {w with drawn:=n}:=by
       by_cases hf:(leftOf es se).size≤1
       ·exact⟨0,w.drawn,by omega,by simp[choose,Sem.run,Question.forced,hf]⟩
       ·exact⟨_,w.drawn+1,Nat.mod_lt _ (by omega),by
         simp only[choose,Sem.run,Question.forced,decide_eq_true_eq,hf,if_false,Question.cut]
         rfl⟩
      obtain⟨j,n,hj,dA⟩:=Vf
      have XQ:(leftOf es se)[j]∈Gb:=e6.mem_iff.2 (by simp)
      obtain⟨pre,post,abw⟩:=List.append_of_mem XQ
      generalize hej:(leftOf es se)[j]=e at XQ abw
      subst abw
      obtain⟨m1,x,m2,rfl,g1,g2,g3⟩:=e7.split
      have aiz:e∈es.toList:=by
       have:e∈(leftOf es se).toList:=by rw[←hej];simp
       unfold leftOf at this
       simp at this ⊢
       exact this.1
      refine .inr ⟨x,m1++m2,List.perm_middle,?_⟩
      have hw:=(h.toHRel.drew n).write (B':= .iter b c (m1++m2) (some x)) (o:= .mapIter (some mb) cl (se.push e.born) cl) hf hp hn rfl
       ⟨hn,_,_,_,_,iB (dw k1),.inr ⟨mb,es,cl,pre++post,rfl,e2,e3,rfl,rfl,Rz e3 e6,g1.append g3,fun y hy=>by cases hy;exact⟨e,aiz,by simp,g2⟩⟩⟩
      refine bX.value (v:= .tuple #[.bool true,e.key,e.val]) (w':=eu {w with drawn:=n} p.bc (.mapIter (some mb) cl (se.push e.born) cl)) ?_ ⟨.refl _,hw,_,rfl,?_⟩
      ·have wH:(((leftOf es se).map some)[j]? :Option (Option MapEntry))=some (some e):=by
        rw[Array.getElem?_map,Array.getElem?_eq_getElem hj,hej];rfl
       have CV:(setObj p.bc (.mapIter (some mb) cl (se.push e.born) cl)).run P {w with drawn:=n}= .ok () (eu {w with drawn:=n} p.bc (.mapIter (some mb) cl (se.push e.born) cl)):=by
        have:({w with drawn:=n}:World).heap[p.bc]? =some (.mapIter (some mb) cl se cl):=k1
        simp[setObj,Sem.run,this,eu]
       have Bz:(Instr.next (.pointer (some ⟨p.bc,0,none⟩)) false o.type).run P w= .ok (.tuple #[.bool true,e.key,e.val]) (eu {w with drawn:=n} p.bc (.mapIter (some mb) cl (se.push e.born) cl)):=by
        simp only[Instr.next,getObj,Sem.run_bind,Sem.run,k1,hb,Result.andThen,XC,Bool.false_eq_true,if_false,hL,f1,f2,Array.append_empty,jS,Array.empty_append,Array.size_map,dA,wH,CV]
        rfl
       simp only[execOp,ho,hv]
       rw[Sem.run_bind,Bz]
       rfl
      ·exact⟨.bool true,[e.key,e.val],rfl,⟨_,rfl,rfl,rfl⟩,e.key,[e.val],rfl,jA.part g2.1,e.val,[],rfl,jA.part g2.2,rfl⟩
   ·cases hi
  ·cases hi
 ·cases hi
end Go.Vc
end

section
set_option linter.unusedVariables false
set_option linter.unusedSimpArgs false
namespace Go.Vc
open Go
variable {P:Program} {X:Ctx} {w0:World} {foot:gF} {base:Mem} {S:St} {E:Env} {a:Act} {w:World} {ctx:c8}
theorem ef.set {F:Mem} {t:Ty} {xs:List t.den} {us:List Value} (h:ef F t xs us) {i:Nat} (hi:i<xs.length) {y:t.den} {ws:List Value} (hy:dh F t y ws):
  ef F t (xs.set i y) (us.take (i*t.size)++ws++us.drop (i*t.size+t.size)):=by
 have hw:=hy.length
 have hm:(i+1)*t.size≤xs.length*t.size:=Nat.mul_le_mul_right _ (by omega)
 rw[Nat.succ_mul] at hm
 have hl:=h.1
 refine⟨by simp only[List.length_append,List.length_take,List.length_drop,List.length_set];omega,fun k x hx=> ?_⟩
 by_cases hk:i=k
 ·subst hk
  rw[List.getElem?_set_self hi] at hx
  cases hx
  refine⟨ws,hy,hw,fun j u hu=> ?_⟩
  have hj:=(List.getElem?_eq_some_iff.1 hu).1
  rw[List.getElem?_append_left (by simp;omega),List.getElem?_append_right (by simp;omega),←hu]
  congr 1
  simp only[List.length_take]
  omega
 ·rw[List.getElem?_set_ne hk] at hx
  obtain⟨vs,k1,k2,k3⟩:=h.2 k x hx
  refine⟨vs,k1,k2,fun j u hu=> ?_⟩
  have hj:=(List.getElem?_eq_some_iff.1 hu).1
  have:=k3 j u hu
  rcases Nat.lt_or_gt_of_ne hk with dK|dK
  ·have U8:(i+1)*t.size≤k*t.size:=Nat.mul_le_mul_right _ (by omega)
   rw[Nat.succ_mul] at U8
   rw[List.getElem?_append_right (by simp;omega),List.getElem?_drop,←this]
   congr 1
   simp only[List.length_append,List.length_take]
   omega
  ·have U8:(k+1)*t.size≤i*t.size:=Nat.mul_le_mul_right _ (by omega)
   rw[Nat.succ_mul] at U8
   rw[List.append_assoc,List.getElem?_append_left (by simp;omega),List.getElem?_take_of_lt (by omega)]
   exact this
theorem zu {t:Ty}:∀{ps:List (Nat×Operand)} {xs:List t.den} {r:List t.den×hY},(q7 t ps xs).run S ctx=some r→kP S.bl r.2
 |[],xs,r,hr=>by cases hr;exact .nil
 |(i,x)::ps,xs,r,hr=>by
  unfold q7 at hr
  have bt:=RM.run_bind' hr
  clear hr
  obtain⟨s,h1,hr⟩:=bt
  have bt:=RM.run_bind' hr
  clear hr
  obtain⟨v,h2,hr⟩:=bt
  have bt:=RM.run_bind' hr
  clear hr
  obtain⟨y,h3,hr⟩:=bt
  have bt:=RM.run_bind' hr
  clear hr
  obtain⟨u,h4,hr⟩:=bt
  have bt:=RM.run_bind' hr
  clear hr
  obtain⟨q,h5,hr⟩:=bt
  have bt:=RM.run_bind' hr
  clear hr
  obtain⟨_,h6,hr⟩:=bt
  cases RM.run_pure' hr
  exact(gx (x:=y.1) (fr:=y.2) h3).append (zu h5) (bQ h6)
theorem uZ {t:Ty} (h:SRel w0 foot base S E a w) (hc:bo a ctx) {E':Env} (hle:E.le E'):∀{ps:List (Nat×Operand)} {xs:List t.den} {r:List t.den×hY} {cells:Array Value},
  (q7 t ps xs).run S ctx=some r→fm S.bl E' w r.2→ef E'.F t xs cells.toList→
  ∃fu,Instr.fill (fun i=>some (i*t.size,t.size)) cells (ps.map fun(i,x)=>(i,a.eval x))=some fu∧ef E'.F t r.1 fu.toList∧r.1.length=xs.length
 |[],xs,r,cells,hr,_,hv=>by cases hr;exact⟨cells,rfl,hv,rfl⟩
 |(i,x)::ps,xs,r,cells,hr,hf,hv=>by
  unfold q7 at hr
  have bt:=RM.run_bind' hr
  clear hr
  obtain⟨s,h1,hr⟩:=bt
  have bt:=RM.run_bind' hr
  clear hr
  obtain⟨cs,h2,hr⟩:=bt
  have bt:=RM.run_bind' hr
  clear hr
  obtain⟨y,h3,hr⟩:=bt
  have bt:=RM.run_bind' hr
  clear hr
  obtain⟨u,h4,hr⟩:=bt
  have bt:=RM.run_bind' hr
  clear hr
  obtain⟨q,h5,hr⟩:=bt
  have bt:=RM.run_bind' hr
  clear hr
  obtain⟨_,_,hr⟩:=bt
  cases RM.run_pure' hr
  have hi:i<xs.length:=Nat.le_of_ble_eq_true (bQ h4)
  have mA:=(o9 h hc h1 h2).mono hle
  have hy:=jr (x:=y.1) (fr:=y.2) h3 mA hf.left
  have U3:=hy.length
  have hm:(i+1)*t.size≤xs.length*t.size:=Nat.mul_le_mul_right _ (by omega)
  rw[Nat.succ_mul] at hm
  have mf:=hv.1
  simp only[Array.length_toList] at mf U3
  have H3:=zi cells (i*t.size) (a.eval x).cells.toList 0 cells (by simp only[Array.length_toList];omega)
  simp only[Nat.add_zero] at H3
  have e:((a.eval x).cells.zipIdx.foldl (fun cs (c,j)=>cs.setIfInBounds (i*t.size+j) c) cells).toList=cells.toList.take (i*t.size)++(a.eval x).cells.toList++cells.toList.drop (i*t.size+t.size):=by
   rw[←Array.foldl_toList,Array.toList_zipIdx]
   rw[show t.size=(a.eval x).cells.toList.length by simp[U3]] at *
   exact H3
  obtain⟨fu,k1,k2,k3⟩:=uZ h hc hle (cells:=(a.eval x).cells.zipIdx.foldl (fun cs (c,j)=>cs.setIfInBounds (i*t.size+j) c) cells) h5 hf.right (by rw[e];exact hv.set hi hy)
  refine⟨fu,?_,k2,by rw[k3];simp⟩
  simp only[List.map_cons,Instr.fill]
  rw[if_neg (by simp;omega)]
  exact k1
theorem IV (hT:dt P X.ay) (h:SRel w0 foot base S E a w) (hc:bo a ctx) {o:Oper} {t n d:Nat} {ps:Array (Nat×Operand)} (ho:o.op= .buildSlice t n ps) {r:b7}
  (hr:(do
   let i ←ti X t
   match i.d with
   | .slice e=>(do
    let j ←ti X e
    let ty ←RM.ofOption j.ty
    cR (Nat.ble (n*j.size) 16777216)
    let z ←tX j ty
    let r ←q7 ty ps.toList (List.replicate n z)
    .ret {val:=some (.one (.row ty d)),ck:=r.2++[(d,.row false e ty r.1)],new:=[d]})
   |_=> .fail:RM b7).run S ctx=some r) (hn:∀i∈r.new,i∉S.used):bX P w0 foot base S E a w o r:=by
 have bt:=RM.run_bind' hr
 clear hr
 obtain⟨i,h1,hr⟩:=bt
 obtain⟨hs,_⟩:=df hT h1
 split at hr
 ·rename_i e hd
  rw[hd] at hs
  have bt:=RM.run_bind' hr
  clear hr
  obtain⟨j,h2,hr⟩:=bt
  have bt:=RM.run_bind' hr
  clear hr
  obtain⟨ty,h3,hr⟩:=bt
  have bt:=RM.run_bind' hr
  clear hr
  obtain⟨u,h4,hr⟩:=bt
  have bt:=RM.run_bind' hr
  clear hr
  obtain⟨z,h5,hr⟩:=bt
  have bt:=RM.run_bind' hr
  clear hr
  obtain⟨q,h6,hr⟩:=bt
  cases hr
  obtain⟨j',g1,g2,g3,g4,g5,g6,g7,g8⟩:=qu hT h2 h5
  have aam:=Nat.le_of_ble_eq_true (bQ h4)
  have H4:=zu h6
  obtain⟨E1,l1,q1,f1,hh⟩:=h.toHRel.cA H4
  have hfz:=fm.qg H4 hh
  have H2:=ef.made (n:=n) (m:=n) (g8 E1.F) (by omega) (Nat.le_refl _)
  rw[List.take_of_length_le (by simp[size_madeCells])] at H2
  obtain⟨fu,k1,k2,k3⟩:=uZ h hc l1 h6 hfz H2
  have hlen:q.1.length=n:=by rw[k3];simp
  have iX:fu.size=n*ty.size:=by rw[←Array.length_toList,k2.1,hlen]
  have XP:n≤aK:=by
   have:n*1≤n*j.size:=Nat.mul_le_mul_left _ (by omega)
   unfold aK
   omega
  obtain⟨m1,m2,m3⟩:=CA (S:={S with bl:=cA q.2 S.bl}) (e:=e) (cap:=n) (rest:=[]) hh (hn d (by simp)) k2 XP (by omega) (by simp) iX
  rw[hlen] at m1 m2 m3
  refine bX.value (v:=_) (w':=_) ?_ ⟨l1.trans m2,by rw[tl];exact m1,m3⟩
  have Bw:Instr.fill (fun i=>some (i*j'.size,j'.size)) (madeCells j.zero.cells (n*j'.size)) (ps.map fun x=>(x.1,a.eval x.2)).toList=some fu:=by
   rw[Array.toList_map,g2,←g5]
   exact k1
  have XX:¬n*j'.size>2 ^ 24:=by rw[g2];omega
  by_cases hz:n*j'.size=0
  ·rw[hz] at Bw
   have hm0:madeCells j.zero.cells 0= #[]:=by simp[madeCells]
   rw[hm0] at Bw
   simp only[execOp,ho,Instr.buildSlice,Sem.run_bind,run_underlying (dP hs),Result.andThen_ok,dY g1]
   rw[if_neg XX,if_pos hz,hz]
   simp only[Sem.run_bind,Sem.run_pure,Result.andThen_ok]
   have bt:Array.map (fun x=>(#[]:Array Value)[x % (#[]:Array Value).size]!) (Array.range 0)= #[]:=by simp
   rw[bt,Bw]
   rfl
  ·simp only[execOp,ho,Instr.buildSlice,Sem.run_bind,run_underlying (dP hs),Result.andThen_ok,dY g1]
   rw[if_neg XX,if_neg hz]
   simp only[Sem.run_bind,Sem.run_pure,Result.andThen_ok,kg g1 g4]
   unfold madeCells at Bw
   rw[Bw]
   rfl
 ·cases hr
theorem HRel.ML {bl:List (Nat×c5)} {used:List Nat} (h:HRel w0 foot base bl used E w) {w':World} (hk:sD (fun _=>False) w w') {F:Mem} (hF:E.F.le F) (FH:∀b o,F b=some o→w'.heap[b]? =some o)
  (wD:∀b o,F b=some o→E.F b=some o∨w.heap.size≤b):HRel w0 foot base bl used {E with F:=F} w':=by
 have hle:E.le {E with F:=F}:=⟨hF,fun _ _ h=>h⟩
 have aeu:∀id B p,find bl id=some B→E.place id=some p→fX E w p B:=fun id B p hf hp=>by
  obtain⟨q,hq,k⟩:=h.ck id B hf
  rw[hp] at hq
  cases hq
  exact k
 refine⟨h.keep.trans ⟨hk.os,hk.tape,hk.output,hk.size,fun k u9 _=>hk.block k u9 (fun h=>h)⟩,FH,fun b o hb=> ?_,fun id B hf=> ?_,fun id B p hf hp hn=> ?_,h.inj,h.used⟩
 ·rcases wD b o hb with h1|h1
  ·exact h.src b o h1
  ·exact .inr (.inl (Nat.le_trans h.keep.size h1))
 ·obtain⟨p,hp,k⟩:=h.ck id B hf
  exact⟨p,hp,(k.mono hle).world fun hn=>hk.block _ (k.lt hn) (fun h=>h)⟩
 ·refine⟨(h.own id B p hf hp hn).1,fun hm=> ?_⟩
  show F p.bc=none
  cases eh:F p.bc with
  |none=>rfl
  |some o=>
   rcases wD _ _ eh with h1|h1
   ·rw[(h.own id B p hf hp hn).2 hm] at h1;cases h1
   ·have:=(aeu id B p hf hp).lt hn;omega
theorem Gi (hT:dt P X.ay) (h:SRel w0 foot base S E a w) (hc:bo a ctx) {o:Oper} {t n:Nat} {ps:Array (Nat×Operand)} (ho:o.op= .buildSlice t n ps) {r:b7}
  (hr:(do
   let i ←ti X t
   match i.d with
   | .slice e=>(do
    let j ←ti X e
    let ty ←RM.ofOption j.ty
    cR (Nat.ble (n*j.size) 16777216)
    let z ←tX j ty
    let r ←q7 ty ps.toList (List.replicate n z)
    cR r.2.isEmpty
    kH (.one (.aC (.list ty) r.1)))
   |_=> .fail:RM b7).run S ctx=some r):bX P w0 foot base S E a w o r:=by
 have bt:=RM.run_bind' hr
 clear hr
 obtain⟨i,h1,hr⟩:=bt
 obtain⟨hs,_⟩:=df hT h1
 split at hr
 ·rename_i e hd
  rw[hd] at hs
  have bt:=RM.run_bind' hr
  clear hr
  obtain⟨j,h2,hr⟩:=bt
  have bt:=RM.run_bind' hr
  clear hr
  obtain⟨ty,h3,hr⟩:=bt
  have bt:=RM.run_bind' hr
  clear hr
  obtain⟨u,h4,hr⟩:=bt
  have bt:=RM.run_bind' hr
  clear hr
  obtain⟨z,h5,hr⟩:=bt
  have bt:=RM.run_bind' hr
  clear hr
  obtain⟨q,h6,hr⟩:=bt
  have bt:=RM.run_bind' hr
  clear hr
  obtain⟨_,h7,hr⟩:=bt
  rw[lM hr]
  obtain⟨j',g1,g2,g3,g4,g5,g6,g7,g8⟩:=qu hT h2 h5
  have aam:=Nat.le_of_ble_eq_true (bQ h4)
  have hq:q.2=[]:=List.isEmpty_iff.1 (bQ h7)
  have hfz:fm S.bl E w q.2:=by rw[hq];exact fun _ hq=>by cases hq
  have H2:=ef.made (n:=n) (m:=n) (g8 E.F) (by omega) (Nat.le_refl _)
  rw[List.take_of_length_le (by simp[size_madeCells])] at H2
  obtain⟨fu,k1,k2,k3⟩:=uZ h hc (.refl E) h6 hfz H2
  have hlen:q.1.length=n:=by rw[k3];simp
  have iX:fu.size=n*ty.size:=by rw[←Array.length_toList,k2.1,hlen]
  have XP:n≤aK:=by
   have:n*1≤n*j.size:=Nat.mul_le_mul_left _ (by omega)
   unfold aK
   omega
  have ql:E.F w.heap.size=none:=by
   cases he:E.F w.heap.size with
   |none=>rfl
   |some o'=>have:=dw (h.mW _ _ he);omega
  have hle:E.F.le (fun b=>if b=w.heap.size then some (.cells fu e (0,0)) else E.F b):=fun b o' hb=>by
   show(if b=w.heap.size then _ else E.F b)=_
   rw[if_neg (fun e=>by rw[e,ql] at hb;cases hb)]
   exact hb
  have mU:(fun b=>if b=w.heap.size then some (Obj.cells fu e (0,0)) else E.F b) w.heap.size=some (Obj.cells fu e (0,0)):=by simp
  have hR:=h.toHRel.ML (w':=w.alloc (.cells fu e)) (F:=fun b=>if b=w.heap.size then some (.cells fu e (0,0)) else E.F b)
   ⟨rfl,rfl,rfl,by simp,fun k hk _=>pd hk⟩ hle (fun b o' hb=>by
    by_cases gI:b=w.heap.size
    ·have e1:some (Obj.cells fu e (0,0))=some o':=by
      have hb:(if b=w.heap.size then some (Obj.cells fu e (0,0)) else E.F b)=some o':=hb
      rw[if_pos gI] at hb
      exact hb
     cases e1
     rw[gI]
     exact oM
    ·have hb:(if b=w.heap.size then some (Obj.cells fu e (0,0)) else E.F b)=some o':=hb
     rw[if_neg gI] at hb
     have:=h.mW _ _ hb
     rw[pd (dw this)]
     exact this) (fun b o' hb=>by
    by_cases gI:b=w.heap.size
    ·exact .inr (by omega)
    ·have hb:(if b=w.heap.size then some (Obj.cells fu e (0,0)) else E.F b)=some o':=hb
     rw[if_neg gI] at hb
     exact .inl hb)
  have k2':=k2.mono hle
  refine bX.value (v:= .slice (some ⟨w.heap.size,0,none⟩) n n) (w':=w.alloc (.cells fu e)) (E':={E with F:=fun b=>if b=w.heap.size then some (.cells fu e (0,0)) else E.F b}) ?_ ⟨⟨hle,fun _ _ h=>h⟩,hR,?_⟩
  ·have Bw:Instr.fill (fun i=>some (i*j'.size,j'.size)) (madeCells j.zero.cells (n*j'.size)) (ps.map fun x=>(x.1,a.eval x.2)).toList=some fu:=by
    rw[Array.toList_map,g2,←g5]
    exact k1
   have XX:¬n*j'.size>2 ^ 24:=by rw[g2];omega
   by_cases hz:n*j'.size=0
   ·rw[hz] at Bw
    have hm0:madeCells j.zero.cells 0= #[]:=by simp[madeCells]
    rw[hm0] at Bw
    simp only[execOp,ho,Instr.buildSlice,Sem.run_bind,run_underlying (dP hs),Result.andThen_ok,dY g1]
    rw[if_neg XX,if_pos hz,hz]
    simp only[Sem.run_bind,Sem.run_pure,Result.andThen_ok]
    have bt:Array.map (fun x=>(#[]:Array Value)[x % (#[]:Array Value).size]!) (Array.range 0)= #[]:=by simp
    rw[bt,Bw]
    rfl
   ·simp only[execOp,ho,Instr.buildSlice,Sem.run_bind,run_underlying (dP hs),Result.andThen_ok,dY g1]
    rw[if_neg XX,if_neg hz]
    simp only[Sem.run_bind,Sem.run_pure,Result.andThen_ok,kg g1 g4]
    unfold madeCells at Bw
    rw[Bw]
    rfl
  ·refine⟨rfl,some ⟨w.heap.size,0,none⟩,n,?_,?_,XP,fun h=>(by cases h),fun p hp i x hx=> ?_⟩
   ·show _=[Value.slice _ (q.1.length) n]
    rw[hlen]
   ·show q.1.length≤n
    omega
   ·cases hp
    obtain⟨ws,q1,q2,q3⟩:=k2'.2 i x hx
    refine⟨rfl,ws,q1,q2,fun j u hu=>⟨fu,e,(0,0),mU,?_⟩⟩
    have:=q3 j u hu
    rw[Array.getElem?_toList] at this
    rw[Nat.zero_add]
    exact this
 ·cases hr
theorem RM.EB {α β:Type} {S:St} {ctx:c8}:∀{m:RM α} {f:α→RM β} {a:α} {b:β},m.run S ctx=some a→(f a).run S ctx=some b→(m.bind f).run S ctx=some b
 | .ret _,f,a,b,h,k=>by cases h;exact k
 | .fail,f,a,b,h,k=>by cases h
 | .slot ex n m,f,a,b,h,k=>by
  simp only[RM.bind,RM.run] at h ⊢
  split at h
  ·split at h
   ·exact RM.EB h k
   ·cases h
  ·cases h
 | .bc n m,f,a,b,h,k=>by
  simp only[RM.bind,RM.run] at h ⊢
  split at h
  ·exact RM.EB h k
  ·cases h
theorem ef.take {F:Mem} {t:Ty} {xs:List t.den} {us:List Value} (h:ef F t xs us) {n:Nat} (hn:n≤xs.length):ef F t (xs.take n) (us.take (n*t.size)):=by
 have hm:n*t.size≤xs.length*t.size:=Nat.mul_le_mul_right _ hn
 have hl:=h.1
 refine⟨by rw[List.length_take,List.length_take,hl,Nat.min_eq_left hm,Nat.min_eq_left hn],fun i x hx=> ?_⟩
 have hi:i<n:=by
  have:=(List.getElem?_eq_some_iff.1 hx).1
  rw[List.length_take] at this
  omega
 rw[List.getElem?_take_of_lt hi] at hx
 obtain⟨ws,h1,h2,h3⟩:=h.2 i x hx
 refine⟨ws,h1,h2,fun j u hu=> ?_⟩
 have hj:=(List.getElem?_eq_some_iff.1 hu).1
 have U8:(i+1)*t.size≤n*t.size:=Nat.mul_le_mul_right _ hi
 rw[Nat.succ_mul] at U8
 rw[List.getElem?_take_of_lt (by omega)]
 exact h3 j u hu
theorem HRel.abV {bl:List (Nat×c5)} {used:List Nat} (h:HRel w0 foot base bl used E w) {sb nb e len:Nat} {t:Ty} {xs:List t.den} {v:Value} (hf:find bl sb=some (.row false e t xs)) (hv:gO E (.sub t sb 0 len) v) (h0:0<xs.length) (hn:nb∉used):
  ∃p,HRel w0 foot base (put (rem bl sb) nb (.row false e t (xs.take len))) (nb::used) (E.new nb p) w∧E.le (E.new nb p)∧gO (E.new nb p) (.row t nb) v:=by
 have jR:E.place nb=none:=by
  cases he:E.place nb with
  |none=>rfl
  |some q=>exact absurd (h.used nb q he) hn
 obtain⟨p,hp,hlen,hk⟩:=hv
 obtain⟨p',dj,hB⟩:=h.ck _ _ hf
 rw[hp] at dj;cases dj
 have Pg:=hB.sj
 rcases hk with ⟨dk,hv,hz⟩|⟨dk,ad,hv,q1,q2,q3⟩
 ·omega
 ·rcases hB with ⟨yX,_⟩|⟨_,hB⟩
  ·rw[dk] at yX;cases yX
  ·obtain⟨_,_,cur,hw,_⟩:=id hB
   obtain⟨k1,k2,k3,k4,k5⟩:=hB.SN hw
   have had:ad=⟨p.bc,0,none⟩:=by
    rcases q3 with q3|q3
    ·omega
    ·rw[q3,Nat.zero_mul]
   have own:=h.own sb _ p hf hp dk
   have jS:∀i B' q,find (rem bl sb) i=some B'→E.place i=some q→q.nil=false→q.bc≠p.bc:=fun i B' q eh hq By=>by
    obtain⟨wI,BC⟩:=Es eh
    exact h.inj i sb B' _ q p wI hf hq hp By dk (Ne.symm BC)
   have CV:eu w p.bc (.cells cur e (0,0))=w:=by rw[←xh hw,setRow_self w p.bc cur e (0,0) hw]
   have hm:len*t.size≤p.len*t.size:=Nat.mul_le_mul_right _ (by omega)
   have MZ:=k1.take (show len≤xs.length by omega)
   rw[List.take_take,Nat.min_eq_left hm] at MZ
   have Tp:=(h.drop sb).attach (p:=⟨false,p.bc,p.cap,len⟩) (B:= .row false e t (xs.take len)) (o:= .cells cur e (0,0)) hn rfl rfl (dw hw) own.1 (own.2 rfl) jS
    (Or.inr ⟨rfl,nT.mk' (p:=⟨false,p.bc,p.cap,len⟩) (MZ.mono (Env.nB jR).F) k5 (by rw[List.length_take];show min len xs.length=len;omega) (show len≤p.cap by omega) (iB (dw hw)) (List.take_append_drop _ _).symm k2⟩)
   rw[CV] at Tp
   exact⟨_,Tp,Env.nB jR,⟨_,Env.fa,.inr ⟨rfl,by rw[hv,had,Nat.sub_zero],show len≤p.cap by omega,k5⟩⟩⟩
theorem JC {cs:List C} {tt:Ty} {sb len:Nat} (h:C0 cs=some (tt,sb,len)):cs=[.sub tt sb 0 len]:=by
 unfold C0 at h
 split at h
 ·split at h
  ·cases h;rfl
  ·cases h
 ·cases h
theorem QH (hT:dt P X.ay) (h:SRel w0 foot base S E a w) (hc:bo a ctx) {o:Oper} {t:Nat} {x v:Operand} (ho:o.op= .store t x v) {r:b7}
  {i:TI} (h1:(ti X t).run S ctx=some i) {s:SV} (h2:(ev v).run S ctx=some s) {cs:List C} (h3:(oK s).run S ctx=some cs) {tt:Ty} {sb len:Nat} (mA:C0 cs=some (tt,sb,len))
  (hr:(do storeT i.size cs tt sb len (←lC x):RM b7).run S ctx=some r) (hn:∀i∈r.new,i∉S.used) (cq:∀c∈r.conds,c):bX P w0 foot base S E a w o r:=by
 obtain⟨c,h4,hr⟩:=RM.run_bind' hr
 have k9:(zM i.size cs c).run S ctx=some r→bX P w0 foot base S E a w o r:=fun hr=>by
  refine JU hT h hc ho h1 h2 h3 (r:=r) ?_
  exact RM.EB h4 hr
 unfold storeT at hr
 split at hr
 ·rename_i bb off
  simp only[RM.run] at hr
  split at hr
  ·rename_i B hf
   split at hr
   ·rename_i e t' xs
    simp only[RM.run] at hr
    split at hr
    ·rename_i B2 BC
     split at hr
     ·rename_i ag2
      split at hr
      ·rename_i hb
       cases hr
       simp only[Bool.and_eq_true,Bool.not_eq_true'] at hb
       obtain⟨yf,C1,hb3,hb4⟩:=hb
       have ht:=Ty.beq_eq yf
       subst ht
       have C1:=Nat.eq_of_beq_eq_true C1
       have hb3:=Nat.le_of_ble_eq_true hb3
       have hb4:bb≠sb:=fun e=>by rw[e] at hb4;simp at hb4
       obtain⟨hs,j,hj,e1,e2,e3⟩:=df hT h1
       have Ve:=o9 h hc h2 h3
       have FE:=Ve.oB
       have hlen:=Ve.length
       have hx:=gq h hc h4
       rw[JC mA] at Ve hlen
       obtain⟨u,us,hu,AE,Vg⟩:=Ve
       have Vg:us=[]:=Vg
       subst Vg
       obtain⟨p1,hR,hle,jz⟩:=h.toHRel.abV (nb:=sb+7000000) hf AE (cq _ (List.mem_singleton.2 rfl)) (hn _ (List.mem_singleton.2 rfl))
       obtain⟨p,hp,o3,CZ⟩:=hx
       have hbn:bb≠sb+7000000:=fun e=>hn (sb+7000000) (List.mem_singleton.2 rfl) (by rw[←e];exact h.used _ _ hp)
       have X0:find (put (rem S.bl sb) (sb+7000000) (.row false e tt (xs.take len))) bb=some (.cells ag2):=by
        rw[bk _ _ _ _ (Ne.symm hbn),gV _ _ _ (Ne.symm hb4)]
        exact BC
       obtain⟨p',dj,_,vs,e',k1,k2⟩:=h.ck _ _ BC
       rw[hp] at dj;cases dj
       have MY:=k2.length
       simp only[Array.length_toList] at MY
       have dA:=qD (P:=P) (o:=off) hj (by rw[hu];show 1=j.size;omega) k1 (by rw[hu];show off+1≤_;omega) FE
       refine bX.skip (w':=eu w p.bc (.cells _ e' (0,0))) (E':=E.new (sb+7000000) p1) ?_ ⟨hle,hR.write X0 (hle.place _ _ hp) o3 rfl ⟨o3,_,e',iB (dw k1),b5.qy (cs:=[.row tt (sb+7000000)]) ⟨u,[],rfl,jz,rfl⟩ (k2.mono hle) off⟩,trivial⟩
       rw[hu] at dA
       simp[execOp,ho,Instr.storeAt,Instr.sureAddr,CZ,dA]
      ·cases hr
     ·cases hr
    ·cases hr
   ·rename_i nD
    exact k9 hr
  ·cases hr
 ·exact k9 hr
def gy (E:Env):List SV→List Value→Prop
 |[],vs=>vs=[]
 |s::ss,vs=>∃v us,vs=v::us∧ft E s v∧gy E ss us
theorem p7 (h:SRel w0 foot base S E a w) (hc:bo a ctx):∀{xs:List Operand} {ss:List SV},(sM xs).run S ctx=some ss→gy E ss (xs.map a.eval)
 |[],ss,hr=>by cases hr;rfl
 |x::xs,ss,hr=>by
  unfold sM at hr
  have bt:=RM.run_bind' hr
  clear hr
  obtain⟨s,h1,hr⟩:=bt
  have bt:=RM.run_bind' hr
  clear hr
  obtain⟨ZQ,h2,hr⟩:=bt
  cases RM.run_pure' hr
  exact⟨_,_,rfl,gj h hc h1,p7 h hc h2⟩
structure mr (P:Program) (f:Nat) (dy:SK):Prop where
 fn:∃fn c,P.funcs[f]? =some fn∧(fn.name=="runtime.NumGoroutine")=false∧fn.body=some c
 calls:∀(w0:World) (foot:gF) (base:Mem) (S:St) (ctx:c8) (E:Env) (w:World) (args:List SV) (vs:List Value) (d:Nat) (r:b7),HRel w0 foot base S.bl S.used E w→gy E args vs→
  (dy.run args d).run S ctx=some r→(∀c∈r.conds,c)→(∀i∈r.new,i∉S.used)→
  Calls P f vs.toArray w fun e w'=>∃v E',e= .returned v∧iw w0 foot base S.bl S.used E r E' w' v
theorem Yp (hK:∀f dy,X.dy f=some dy→mr P f dy) (h:SRel w0 foot base S E a w) (hc:bo a ctx) {o:Oper} {f d:Nat} {args:Array Operand} {yj:Array Nat} (ho:o.op= .call {callee:= .value (.func f),args:=args,argTypes:=yj}) {r:b7}
  (hr:(do
   let dy ←RM.ofOption (X.dy f)
   let vs ←sM args.toList
   dy.run vs d:RM b7).run S ctx=some r) (hn:∀i∈r.new,i∉S.used) (cq:∀c∈r.conds,c):bX P w0 foot base S E a w o r:=by
 have bt:=RM.run_bind' hr
 clear hr
 obtain⟨dy,h1,hr⟩:=bt
 have bt:=RM.run_bind' hr
 clear hr
 obtain⟨ss,h2,hr⟩:=bt
 have FI:=hK f dy (bY h1)
 obtain⟨fn,c,hf,HX,BD⟩:=FI.fn
 intro next Q Bz
 unfold Oper.wp
 have dA:(execOp a.eval o).run P w= .ok (.enter f (args.map a.eval)) w:=by
  simp only[execOp,ho,resolve,Act.eval,Deferred.ofValue,Sem.run_bind,Sem.run_pure,Result.andThen_ok,invoke,callFunc,run_program,hf,HX,BD]
  simp
 rw[dA,Oper.upon_enter]
 have vx:=FI.calls w0 foot base S ctx E w ss (args.toList.map a.eval) d r h.toHRel (p7 h hc h2) hr cq hn
 have ea:(args.toList.map a.eval).toArray=args.map a.eval:=by apply Array.ext';simp
 rw[ea] at vx
 refine vx.mono fun e w'=> ?_
 rintro⟨v,E',rfl,hA⟩
 exact Bz _ _ _ hA
theorem gy.append {E:Env}:∀{ss ts:List SV} {vs us:List Value},gy E ss vs→gy E ts us→gy E (ss++ts) (vs++us)
 |[],_,_,_,h,k=>by have h:_=_:=h;subst h;exact k
 |_::_,_,_,_,⟨v,ws,hv,k1,k2⟩,k=>⟨v,ws++_,by rw[hv];rfl,k1,gy.append k2 k⟩
theorem Dl:∀{t:Ty} {x:t.den} {ss:List SV} {vs:List Value},Dm t x=some ss→dh E.F t x vs→gy E ss vs
 | .unit,x,ss,vs,h,hv=>by
  cases h
  have hv:vs=[]:=hv
  exact hv
 | .pair a b,x,ss,vs,h,hv=>by
  unfold Dm at h
  split at h
  ·rename_i c us hc hu
   cases h
   obtain⟨vs1,vs2,rfl,h1,h2⟩:=hv
   have h3:=gG (E:=E) h1
   rw[hc] at h3
   obtain⟨v,rfl,h4⟩:=js h3
   exact⟨v,vs2,rfl,h4,Dl hu h2⟩
  ·cases h
 | .int _,_,_,_,h,_=>by cases h
 | .bool,_,_,_,h,_=>by cases h
 | .str,_,_,_,h,_=>by cases h
 | .list _,_,_,_,h,_=>by cases h
 | .ref _,_,_,_,h,_=>by cases h
 | .ptr _,_,_,_,h,_=>by cases h
 | .lD _ _,_,_,_,h,_=>by cases h
theorem qI {E:Env}:∀{ss:List SV} {cs:List C} {vs:List Value},(tB ss).run S ctx=some cs→gy E ss vs→b5 E cs vs
 |[],cs,vs,hr,h=>by cases hr;exact h
 |s::ss,cs,vs,hr,h=>by
  obtain⟨v,us,rfl,k1,k2⟩:=h
  unfold tB at hr
  obtain⟨c,h1,hr⟩:=RM.run_bind' hr
  obtain⟨ds,h2,hr⟩:=RM.run_bind' hr
  cases RM.run_pure' hr
  exact⟨v,us,rfl,Qe k1 h1,qI h2 k2⟩
theorem Ff {E:Env}:∀{cs:List C} {bs:List Nat} {vs:List Value},(Cs cs).run S ctx=some bs→b5 E cs vs→
  ∃ps:List Place,ps.length=bs.length∧(∀(i:Nat) b,bs[i]? =some b→∃p,ps[i]? =some p∧E.place b=some p∧p.nil=false)∧vs=ps.map fun p=>Value.pointer (some ⟨p.bc,0,none⟩)
 |[],bs,vs,hr,h=>by
  cases hr
  have h:_=_:=h
  exact⟨[],rfl,fun i b hb=>by simp at hb,h⟩
 |c::cs,bs,vs,hr,h=>by
  unfold Cs at hr
  split at hr
  ·rename_i heq
   cases heq
  ·rename_i b o Yo heq
   cases heq
   split at hr
   ·rename_i ho
    have ho:=Nat.eq_of_beq_eq_true ho
    subst ho
    obtain⟨ds,h1,hr⟩:=RM.run_bind' hr
    cases RM.run_pure' hr
    obtain⟨v,us,rfl,⟨p,hp,hn,rfl⟩,k2⟩:=h
    obtain⟨ps,g1,g2,rfl⟩:=Ff h1 k2
    refine⟨p::ps,by simp[g1],fun i b' hb=> ?_,rfl⟩
    cases i with
    |zero=>simp at hb;subst hb;exact⟨p,rfl,hp,hn⟩
    |succ i=>simpa using g2 i b' (by simpa using hb)
   ·cases hr
  ·cases hr
theorem Hm {E:Env}:∀{bs:List Nat} {ps:List Place},ps.length=bs.length→(∀(i:Nat) b,bs[i]? =some b→∃p,ps[i]? =some p∧E.place b=some p∧p.nil=false)→
  gy E (bs.map fun b=> .one (.ptr b 0)) (ps.map fun p=>Value.pointer (some ⟨p.bc,0,none⟩))
 |[],[],_,_=>rfl
 |b::bs,p::ps,hl,h=>by
  obtain⟨q,h1,h2,h3⟩:=h 0 b rfl
  simp at h1
  subst h1
  exact⟨_,_,rfl,⟨p,h2,h3,rfl⟩,Hm (by simpa using hl) fun i b' hb=>h (i+1) b' (by simpa using hb)⟩
 |[],_::_,h,_=>by simp at h
 |_::_,[],h,_=>by simp at h
theorem A0:∀{fr:hY},(Ac fr).run S ctx=some true→∀q∈fr,∃t x,find S.bl q.1=some (.im t x)
 |[],_,q,hq=>by cases hq
 |(b,D)::fr,h,q,hq=>by
  unfold Ac at h
  simp only[RM.run] at h
  split at h
  ·rename_i B hB
   split at h
   ·rename_i t x
    rcases List.mem_cons.1 hq with rfl|hq
    ·exact⟨t,x,hB⟩
    ·exact A0 h q hq
   ·cases h
  ·cases h
theorem Ih {used:List Nat} {fr:hY} (h:(Ac fr).run S ctx=some true) (ho:kP S.bl fr) (hR:HRel w0 foot base S.bl used E w):fm S.bl E w fr:=fun q hq=>by
 obtain⟨t,x,hB⟩:=A0 h q hq
 obtain⟨l1,l2,e⟩:=List.append_of_mem hq
 obtain⟨B,h1,h2⟩:=ho.at_ l1 q l2 e
 rw[hB] at h1
 cases h1
 rcases h2 with ⟨_,_,_,_,_,h2⟩|⟨_,_,h2,h3|⟨_,_,h3,_⟩⟩|⟨_,_,_,_,_,_,h2⟩
 ·cases h2
 ·cases h3
  rw[h2]
  exact hR.ck q.1 _ hB
 ·cases h3
 ·cases h2
theorem MC (h:SRel w0 foot base S E a w) (hc:bo a ctx) {o:Oper} {k:Nat} {first pR:Array Operand} (ho:o.op= .makeFunc (.func k) first pR) {r:b7}
  (hr:(match first.toList with
  |[]=>do
   let vs ←sM pR.toList
   let cs ←tB vs
   match has X.mclos k with
   |true=>do
    let bs ←Cs cs
    cH (.iz k bs)
   |false=>do
    let ty ←RM.ofOption (find X.clos k)
    let y ←reify ty cs
    match ←Ac y.2 with
    |true=>cH (.aC (.lD k ty) y.1)
    |false=> .ret {val:=some (.one (.aC (.lD k ty) y.1)),ck:=y.2}
  |_=> .fail:RM b7).run S ctx=some r):bX P w0 foot base S E a w o r:=by
 split at hr
 ·rename_i M8
  obtain⟨vs,h2,hr⟩:=RM.run_bind' hr
  obtain⟨cs,h3,hr⟩:=RM.run_bind' hr
  split at hr
  ·obtain⟨bs,h4,hr⟩:=RM.run_bind' hr
   have hf:first.map a.eval= #[]:=by
    apply Array.ext'
    simp[M8]
   have mA:=qI h3 (p7 h hc h2)
   obtain⟨ps,k1,k2,k3⟩:=Ff h4 mA
   refine bX.value (v:= .func (.func k) #[] (pR.map a.eval)) (w':=w) ?_ ((fp.cH hr ⟨ps,k1,k2,?_⟩).after h.toHRel)
   ·simp only[execOp,ho,Instr.makeFunc,hf]
    rfl
   ·congr 1
    apply Array.ext'
    rw[Array.toList_map,k3]
  obtain⟨ty,h1,hr⟩:=RM.run_bind' hr
  obtain⟨⟨y,fr⟩,h4,hr⟩:=RM.run_bind' hr
  obtain⟨g,h5,hr⟩:=RM.run_bind' hr
  have hf:first.map a.eval= #[]:=by
   apply Array.ext'
   simp[M8]
  split at hr
  ·have hfz:=Ih h5 (gx h4) h.toHRel
   have jz:=jr h4 (qI h3 (p7 h hc h2)) hfz
   refine bX.value (v:= .func (.func k) #[] (pR.map a.eval)) (w':=w) ?_ ((fp.cH hr ⟨rfl,_,rfl,?_⟩).after h.toHRel)
   ·simp only[execOp,ho,Instr.makeFunc,hf]
    rfl
   ·rw[Array.toList_map]
    exact jz
  cases hr
  have H4:=gx h4
  obtain⟨E1,l1,q1,f1,nR⟩:=h.toHRel.cA H4
  have jz:=jr h4 ((qI h3 (p7 h hc h2)).mono l1) (fm.qg H4 nR)
  have hf:first.map a.eval= #[]:=by
   apply Array.ext'
   simp[M8]
  refine bX.value (v:= .func (.func k) #[] (pR.map a.eval)) (w':=w) (E':=E1) ?_ ⟨l1,?_,rfl,_,rfl,?_⟩
  ·simp only[execOp,ho,Instr.makeFunc,hf]
   rfl
  ·exact nR
  ·rw[Array.toList_map]
   exact jz
 ·cases hr
theorem P1 (hK:∀f dy,X.dy f=some dy→mr P f dy) (h:SRel w0 foot base S E a w) (hc:bo a ctx) {o:Oper} {f d:Nat} {args:Array Operand} {yj:Array Nat} (ho:o.op= .call {callee:= .value (.tmp f),args:=args,argTypes:=yj}) {r:b7}
  (hr:(do
   match ←lC (.tmp f) with
   | .aC (.lD k ty) y=>(do
    let dy ←RM.ofOption (X.dy k)
    let vs ←sM args.toList
    let us ←RM.ofOption (Dm ty y)
    dy.run (vs++us) d)
   | .iz k bs=>(do
    let dy ←RM.ofOption (X.dy k)
    let vs ←sM args.toList
    dy.run (vs++bs.map fun b=> .one (.ptr b 0)) d)
   |_=> .fail:RM b7).run S ctx=some r) (hn:∀i∈r.new,i∉S.used) (cq:∀c∈r.conds,c):bX P w0 foot base S E a w o r:=by
 have bt:=RM.run_bind' hr
 clear hr
 obtain⟨cf,h0,hr⟩:=bt
 have hcf:=gq h hc h0
 split at hr
 ·rename_i k ty y
  have bt:=RM.run_bind' hr
  clear hr
  obtain⟨dy,h1,hr⟩:=bt
  have bt:=RM.run_bind' hr
  clear hr
  obtain⟨ss,h2,hr⟩:=bt
  have bt:=RM.run_bind' hr
  clear hr
  obtain⟨us,h3,hr⟩:=bt
  obtain⟨_,ws,hv,jz⟩:=hcf
  simp only[List.cons.injEq,and_true] at hv
  have FI:=hK k dy (bY h1)
  obtain⟨fn,c,hf,HX,BD⟩:=FI.fn
  intro next Q Bz
  unfold Oper.wp
  have dA:(execOp a.eval o).run P w= .ok (.enter k (args.map a.eval++ws)) w:=by
   simp only[execOp,ho,resolve,hv,Deferred.ofValue,Sem.run_bind,Sem.run_pure,Result.andThen_ok,invoke,callFunc,run_program,hf,HX,BD]
   simp
  rw[dA,Oper.upon_enter]
  have vx:=FI.calls w0 foot base S ctx E w (ss++us) (args.toList.map a.eval++ws.toList) d r h.toHRel ((p7 h hc h2).append (Dl (bY h3) jz)) hr cq hn
  have ea:(args.toList.map a.eval++ws.toList).toArray=args.map a.eval++ws:=by apply Array.ext';simp
  rw[ea] at vx
  refine vx.mono fun e w'=> ?_
  rintro⟨v,E',rfl,hA⟩
  exact Bz _ _ _ hA
 ·rename_i k bs
  have bt:=RM.run_bind' hr
  clear hr
  obtain⟨dy,h1,hr⟩:=bt
  have bt:=RM.run_bind' hr
  clear hr
  obtain⟨ss,h2,hr⟩:=bt
  obtain⟨ps,g1,g2,hv⟩:=hcf
  have FI:=hK k dy (bY h1)
  obtain⟨fn,c,hf,HX,BD⟩:=FI.fn
  intro next Q Bz
  unfold Oper.wp
  have dA:(execOp a.eval o).run P w= .ok (.enter k (args.map a.eval++(ps.map fun p=>Value.pointer (some ⟨p.bc,0,none⟩)).toArray)) w:=by
   simp only[execOp,ho,resolve,hv,Deferred.ofValue,Sem.run_bind,Sem.run_pure,Result.andThen_ok,invoke,callFunc,run_program,hf,HX,BD]
   simp
  rw[dA,Oper.upon_enter]
  have vx:=FI.calls w0 foot base S ctx E w (ss++bs.map fun b=> .one (.ptr b 0)) (args.toList.map a.eval++ps.map fun p=>Value.pointer (some ⟨p.bc,0,none⟩)) d r h.toHRel ((p7 h hc h2).append (Hm g1 g2)) hr cq hn
  have ea:(args.toList.map a.eval++ps.map fun p=>Value.pointer (some ⟨p.bc,0,none⟩)).toArray=args.map a.eval++(ps.map fun p=>Value.pointer (some ⟨p.bc,0,none⟩)).toArray:=by apply Array.ext';simp
  rw[ea] at vx
  refine vx.mono fun e w'=> ?_
  rintro⟨v,E',rfl,hA⟩
  exact Bz _ _ _ hA
 ·cases hr
theorem ef.bytes {F:Mem}:∀{xs:List Int} {us:List Value},ef F (.int .u8) xs us→us=xs.map (Value.int .u8):=fun {xs us} h=>by
 obtain⟨h1,h2⟩:=h
 have h1:us.length=xs.length:=by simpa [Ty.size] using h1
 apply List.ext_getElem?
 intro i
 by_cases hi:i<xs.length
 ·obtain⟨ws,k1,k2,k3⟩:=h2 i xs[i] (List.getElem?_eq_getElem hi)
  obtain⟨k1,_⟩:=k1
  subst k1
  have:=k3 0 _ rfl
  simp only[Ty.size,Nat.mul_one,Nat.add_zero] at this
  rw[this]
  simp[List.getElem?_eq_getElem hi]
 ·rw[List.getElem?_eq_none (by omega),List.getElem?_eq_none (by simp;omega)]
theorem PX (hT:dt P X.ay) (h:SRel w0 foot base S E a w) (hc:bo a ctx) {o:Oper} {s t:Nat} {x:Operand} (ho:o.op= .convert s t x) {r:b7}
  (hr:(do
   let i' ←ti X s
   let i ←ti X t
   match i'.d,i.d,←ev x with
   | .int _,.int k,.one (.aC (.int j) n)=>(match Gx j k with
    |true=>cH (.aC (.int k) n)
    |false=>cH (.aC (.int k) (k.wrap n)))
   | .slice e,.str,.one c=>(do
    let j ←ti X e
    match j.d with
    | .int .u8=>(do
     let ys ←Of (.int .u8) c
     cH (.aC .str (ys.map fun(n:Int)=>UInt8.ofNat n.toNat)))
    |_=> .fail)
   |_,_,_=> .fail:RM b7).run S ctx=some r):bX P w0 foot base S E a w o r:=by
 have bt:=RM.run_bind' hr
 clear hr
 obtain⟨i',h1,hr⟩:=bt
 have bt:=RM.run_bind' hr
 clear hr
 obtain⟨i,h2,hr⟩:=bt
 have bt:=RM.run_bind' hr
 clear hr
 obtain⟨sv,h3,hr⟩:=bt
 obtain⟨nC,_⟩:=df hT h1
 obtain⟨hs,_⟩:=df hT h2
 have hx:=gj h hc h3
 split at hr
 ·rename_i k' k j n Ep hd
  rw[hd] at hs
  rw[Ep] at nC
  obtain⟨_,h4,h5⟩:=hx
  simp only[List.cons.injEq,and_true] at h4
  have dA:(execOp a.eval o).run P w= .ok (.value (.int k (k.wrap n))) w:=by
   simp[execOp,ho,convert,run_underlying (ru nC),run_underlying (ru hs),h4,Conv.intToInt]
  split at hr
  ·rename_i hle
   rw[Ko (Fw hle h5)] at dA
   exact bX.value dA ((fp.cH hr ⟨rfl,rfl,Fw hle h5⟩).after h.toHRel)
  ·exact bX.value dA ((fp.cH hr ⟨rfl,rfl,qc _ _⟩).after h.toHRel)
 ·rename_i e c Ep hd
  rw[hd] at hs
  rw[Ep] at nC
  have bt:=RM.run_bind' hr
  clear hr
  obtain⟨j,h4,hr⟩:=bt
  obtain⟨hse,_⟩:=df hT h4
  split at hr
  ·rename_i hdj
   rw[hdj] at hse
   have bt:=RM.run_bind' hr
   clear hr
   obtain⟨ys,h5,hr⟩:=bt
   have hx:gO E c (a.eval x):=hx
   have hu:=dP nC
   have he:=ru hse
   have hd:=qd hs
   rcases G2 h.toHRel (by decide) hx h5 with ⟨hv,Gc⟩|⟨ad,cap,news,hv,CW,qS⟩
   ·subst Gc
    refine bX.value (v:= .string ⟨⟨[]⟩⟩) ?_ ((fp.cH hr ⟨rfl,rfl,by simp[aK]⟩).after h.toHRel)
    simp only[execOp,ho,hv]
    have:=run_convert_bytes_nil (P:=P) w s e hu he 0 0 t hd
    simp only[Sem.run_bind,this,Result.andThen_ok,Sem.run_pure]
    rfl
   ·have hb:=ef.bytes CW
    have hlen:ys.length≤aK:=by
     have hw:=hx
     rw[hv] at hw
     have:(ys.length≤aK):=by
      cases c with
      |aC tt z=>
       obtain⟨Gf,hw⟩:=hw
       cases tt with
       |list t=>obtain⟨a',anP,g1,g2,g3,_⟩:=hw;simp only[List.cons.injEq,Value.slice.injEq,and_true] at g1;omega
       |int _=>simp[dh] at hw
       |bool=>simp[dh] at hw
       |str=>simp[dh] at hw
       |unit=>simp[dh] at hw
       |pair _ _=>simp[Ty.isAgg] at Gf
       |ref _=>simp[dh] at hw
       |ptr _=>simp[dh] at hw
       |lD _ _=>simp[dh] at hw
       |map _ _=>obtain⟨_,g,_⟩:=hw;simp at g
      |row tt b=>
       obtain⟨p,_,⟨_,g,_⟩|⟨_,g,g1,g2⟩⟩:=hw
       ·cases g
       ·simp only[Value.slice.injEq] at g;omega
      |sub tt b lo len=>
       obtain⟨p,_,g0,⟨_,g,_⟩|⟨_,aa,g,g1,g2,_⟩⟩:=hw
       ·cases g
       ·simp only[Value.slice.injEq] at g;omega
      |ptr _ _=>obtain⟨_,_,_,g⟩:=hw;cases g
      |mw _ _ _ _=>obtain⟨_,_,_,_,g⟩:=hw;cases g
      |sN _ _ _ _=>obtain⟨_,_,_,g,_⟩:=hw;cases g
      |km=>cases hw
      |oZ=>cases hw
      |Hv=>cases hw
      |iz _ _=>obtain⟨_,_,_,g⟩:=hw;cases g
      |map _ _ _=>obtain⟨_,_,_,g⟩:=hw;cases g
      |pP=>cases hw
      |xb _=>obtain⟨_,_,_,g⟩:=hw;cases g
     exact this
    refine bX.value (v:= .string (strOfNums ys)) ?_ ((fp.cH hr ⟨rfl,?_,by simpa using hlen⟩).after h.toHRel)
    ·have hl:(loadCells ad ys.length).run P w= .ok (ys.map (Value.int .u8)).toArray w:=by
      have:=run_loadCells_list (P:=P) w ad (ys.map (Value.int .u8)) (fun j v hj=>qS j v (by rw[hb];exact hj))
      simpa using this
     have Ve:(convert s t (.slice (some ad) ys.length cap)).run P w= .ok (.string (strOfNums ys)) w:=by
      rw[run_convert_bytes_string w s t e _ ys.length cap hu he hd,run_bytesToString w _ ys.length cap ys hl,foldl_push_bytes]
      simp[strOfNums,ByteArray.empty,ByteArray.emptyWithCapacity]
      rfl
     simp only[execOp,ho,hv,Sem.run_bind,Ve,Result.andThen_ok,Sem.run_pure]
    ·simp[strOfNums]
  ·cases hr
 ·cases hr
theorem FL (hT:dt P X.ay) (hK:∀f dy,X.dy f=some dy→mr P f dy) (h:SRel w0 foot base S E a w) (hc:bo a ctx) {o:Oper} {r:b7} (hr:(fE X o).run S ctx=some r)
  (hn:∀i∈r.new,i∉S.used) (cq:∀c∈r.conds,c):bX P w0 foot base S E a w o r:=by
 cases ho:o.op with
 |move x=>simp only[fE,ho] at hr;exact OU h hc (.inl ho) hr
 |assign x=>simp only[fE,ho] at hr;exact OU h hc (.inr ho) hr
 |pick c x y=>
  cases c with
  |tmp c=>simp only[fE,ho] at hr;exact WK h hc ho hr
  |_=>simp only[fE,ho] at hr;cases hr
 |alloc t=>simp only[fE,ho] at hr;exact Sw hT h ho hr hn
 |box t x=>simp only[fE,ho] at hr;exact aaU h hc ho hr hn
 |build t ps=>simp only[fE,ho] at hr;exact Ah hT h hc ho hr
 |buildSlice t n ps=>
  simp only[fE,ho] at hr
  split at hr
  ·exact IV hT h hc ho hr hn
  ·exact Gi hT h hc ho hr
 |load t x=>simp only[fE,ho] at hr;exact Xh hT h hc ho hr
 |store t x v=>
  simp only[fE,ho] at hr
  have bt:=RM.run_bind' hr
  clear hr
  obtain⟨i,h1,hr⟩:=bt
  have bt:=RM.run_bind' hr
  clear hr
  obtain⟨s,h2,hr⟩:=bt
  have bt:=RM.run_bind' hr
  clear hr
  obtain⟨cs,h3,hr⟩:=bt
  split at hr
  ·obtain⟨_,j,hj,e1,_⟩:=df hT h1
   exact QI h hc ho hj e1 h2 h3 hr cq
  ·split at hr
   ·rename_i mA
    exact QH hT h hc ho h1 h2 h3 mA hr hn cq
   ·exact JU hT h hc ho h1 h2 h3 hr
 |makeMap t n=>
  cases n with
  |none=>simp only[fE,ho] at hr;exact O0 hT h ho hr hn
  |some _=>simp only[fE,ho] at hr;cases hr
 |range t x=>simp only[fE,ho] at hr;exact Uz hT h hc ho hr hn
 |entry it=>simp only[fE,ho] at hr;exact VA h hc ho hr
 |lookup t x ix ok=>simp only[fE,ho] at hr;exact Ru hT h hc ho hr
 |mapUpdate t m k v=>simp only[fE,ho] at hr;exact Ju hT h hc ho hr
 |mapEntry t m k=>simp only[fE,ho] at hr;exact MB hT h hc ho hr hn
 |entryStore t m s v=>simp only[fE,ho] at hr;exact Iy hT h hc ho hr
 |nilCheck x=>simp only[fE,ho] at hr;exact Mv h hc ho hr cq
 |makeFunc fn first pR=>
  cases fn with
  |func k=>simp only[fE,ho] at hr;exact MC h hc ho hr
  |_=>simp only[fE,ho] at hr;cases hr
 |binOp op t x y yt=>simp only[fE,ho] at hr;exact V2 hT h hc ho hr cq
 |unOp op t x=>simp only[fE,ho] at hr;exact Wn h hc ho hr cq
 |convert s t x=>simp only[fE,ho] at hr;exact PX hT h hc ho hr
 |makeSlice t l c=>simp only[fE,ho] at hr;exact Jv hT h hc ho hr hn cq
 |slice t x lo hi mx=>
  cases mx with
  |none=>simp only[fE,ho] at hr;exact Us hT h hc ho hr cq
  |some _=>simp only[fE,ho] at hr;cases hr
 |fieldAddr s x f=>simp only[fE,ho] at hr;exact JF hT h hc ho hr
 |field s x f=>simp only[fE,ho] at hr;exact Vu hT h hc ho hr
 |indexAddr t x ix=>simp only[fE,ho] at hr;exact Jy hT h hc ho hr cq
 |index t x ix=>simp only[fE,ho] at hr;exact U0 hT h hc ho hr cq
 |extract x k=>simp only[fE,ho] at hr;exact PO h hc ho hr
 |call c=>
  obtain⟨callee,args,yj⟩:=c
  cases callee with
  |value f=>
   cases f with
   |func f=>simp only[fE,ho] at hr;exact Yp hK h hc ho hr hn cq
   |tmp f=>simp only[fE,ho] at hr;exact P1 hK h hc ho hr hn cq
   |_=>simp only[fE,ho] at hr;cases hr
  |invoke _ _=>simp only[fE,ho] at hr;cases hr
  |builtin b=>
   cases b with
   |len=>
    simp only[fE,ho] at hr
    split at hr
    ·rename_i x t h1 h2
     exact Z6 hT h hc ho h1 h2 hr
    ·cases hr
   |max=>
    simp only[fE,ho] at hr
    split at hr
    ·rename_i x y h1
     exact HC (big:=true) h hc ho h1 hr
    ·cases hr
   |min=>
    simp only[fE,ho] at hr
    split at hr
    ·rename_i x y h1
     exact HC (big:=false) h hc ho h1 hr
    ·cases hr
   |delete=>
    simp only[fE,ho] at hr
    split at hr
    ·rename_i m k t t' h1 h2
     exact Sh hT h hc ho h1 h2 hr
    ·cases hr
   |append=>
    simp only[fE,ho] at hr
    split at hr
    ·rename_i s x t u h1 h2
     have bt:=RM.run_bind' hr
     clear hr
     obtain⟨u',h3,hr⟩:=bt
     have:=Nat.eq_of_beq_eq_true (bQ h3)
     subst this
     exact Sv hT h hc ho h1 h2 hr hn cq
    ·cases hr
   |_=>simp only[fE,ho] at hr;cases hr
 |_=>simp only[fE,ho] at hr;cases hr
end Go.Vc
end

section
set_option linter.unusedVariables false
set_option linter.unusedSimpArgs false
namespace Go.Vc
open Go
variable {P:Program} {X:Ctx} {w0:World} {foot:gF} {base:Mem} {S:St} {E:Env} {a:Act} {w:World} {ctx:c8}
def Dx (S:St) (n:Nat):Option Bool:=
 match find S.sl n with
 |some (_,.one (.aC .bool b))=>some (Ty.B b)
 |_=>none
def w2 (S:St):c8→Prop→Prop
 |[],p=>p
 |(n,want)::ts,p=>w2 S ts (match Dx S n with
  |some g=>g=want→p
  |none=>p)
def rF (S:St) (ops:Array Oper) (o:Oper):Option c8:=
 match o.guard with
 |none=>some []
 |some (j,want)=>match(ops[j]?).bind (·.dst) with
  |some d=>(match find S.sl d with
   |some (tags,_)=>some ((d,want)::tags)
   |none=>none)
  |none=>none
def mentions:c8→Nat→Bool
 |[],_=>false
 |(m,_)::l,n=>match Nat.beq m n with
  |true=>true
  |false=>mentions l n
theorem qL:∀{l:c8} {n:Nat},mentions l n=false→∀t∈l,t.1≠n
 |[],_,_,t,ht=>by cases ht
 |(m,b)::l,n,h,t,ht=>by
  unfold mentions at h
  split at h
  ·cases h
  ·rename_i hb
   rcases List.mem_cons.1 ht with rfl|ht
   ·intro e;simp only at e;subst e;simp at hb
   ·exact qL h t ht
structure Rec where
 o:Oper
 ctx:c8
 r:b7
 conds:List Prop
 rs:List Loc
def fO (S:St) (o:Oper) (ctx:c8) (r:b7):St:=
 {sl:=(match o.dst with
   |none=>S.sl
   |some d=>(match r.val with
    |some v=>put S.sl d (ctx,v)
    |none=>rem S.sl d))
  bl:=gN r S.bl
  used:=r.new++S.used
  n:=S.n
  oA:=S.oA}
def Ms (d:Nat):List (Nat×(c8×SV))→Bool
 |[]=>true
 |(_,ts,_)::l=>match mentions ts d with
  |true=>false
  |false=>Ms d l
def tV (used:List Nat):List Nat→Bool
 |[]=>true
 |n::l=>match has used n||has l n with
  |true=>false
  |false=>tV used l
def zr (S:St) (ctx:c8) (o:Oper):Bool:=
 match o.dst with
 |none=>true
 |some d=>Nat.blt d S.n&&(Ms d S.sl&& !mentions ctx d)
def uN (ctx:c8) (r:b7):Bool:=
 match ctx with
 |[]=>true
 |_=>r.ck.isEmpty&&(r.del.isEmpty&&r.new.isEmpty)
def Gl (X:Ctx) (ops:Array Oper) (S:St) (o:Oper):Option Rec:=
 match rF S ops o with
 |none=>none
 |some ctx=>match(fE X o).run S ctx with
  |none=>none
  |some r=>match zr S ctx o&&(tV S.used r.new&&uN ctx r) with
   |true=>some {o,ctx,r,conds:=r.conds.map (w2 S ctx),rs:=ctx.map (fun t=> .slot t.1)++(fE X o).reads S ctx}
   |false=>none
def uS (X:Ctx) (ops:Array Oper):List Oper→St→Option (List Rec×St)
 |[],S=>some ([],S)
 |o::l,S=>match Gl X ops S o with
  |none=>none
  |some c=>match uS X ops l (fO S o c.ctx c.r) with
   |none=>none
   |some (cs,S')=>some (c::cs,S')
def pJ (cs:List Rec):List Prop:=cs.flatMap (·.conds)
structure ep (w0:World) (foot:gF) (base:Mem) (S:St) (E:Env) (a:Act) (w:World):Prop extends SRel w0 foot base S E a w where
 dX:∀n ts v,find S.sl n=some (ts,v)→¬bo a ts→a.tmps.getD n undef=undef
theorem EO (h:SRel w0 foot base S E a w):∀{ts:c8} {p:Prop},bo a ts→(∀t∈ts,∀tags v,find S.sl t.1=some (tags,v)→bo a tags)→w2 S ts p→p
 |[],p,_,_,hp=>hp
 |(n,want)::ts,p,ht,hd,hp=>by
  have ih:=EO h (ts:=ts) (fun t h'=>ht t (List.mem_cons_of_mem _ h')) (fun t h'=>hd t (List.mem_cons_of_mem _ h')) hp
  split at ih
  ·rename_i g hg
   refine ih ?_
   unfold Dx at hg
   split at hg
   ·rename_i tags b hf
    cases hg
    have hv:=h.gZ _ _ _ hf (hd (n,want) List.mem_cons_self _ _ hf)
    have hn:=ht (n,want) List.mem_cons_self
    simp only at hn
    rw[Array.getD_eq_getD_getElem?,hn] at hv
    obtain⟨_,hv⟩:=hv
    simp only[dh,Option.getD_some,List.cons.injEq,and_true] at hv
    exact(Value.bool.inj hv).symm
   ·cases hg
  ·exact ih
theorem rr {d n:Nat} {v:Value} (h:n≠d):(a.put (some d) v).tmps[n]? =a.tmps[n]? :=by
 simp[Act.put,Array.getElem?_setIfInBounds_ne (Ne.symm h)]
theorem ub {d:Nat} {v:Value} (h:d<a.tmps.size):(a.put (some d) v).tmps[d]? =some v:=by
 simp[Act.put,h]
theorem bo.put {d:Nat} {v:Value} {ts:c8} (h:∀t∈ts,t.1≠d):bo (a.put (some d) v) ts↔bo a ts:=
 ⟨fun k t ht=>by have:=k t ht;rwa [rr (h t ht)] at this,fun k t ht=>by rw[rr (h t ht)];exact k t ht⟩
theorem Fm:∀{l:List (Nat×(c8×SV))} {d:Nat},Ms d l=true→∀n ts v,find l n=some (ts,v)→∀t∈ts,t.1≠d
 |[],_,_,n,ts,v,h=>by cases h
 |(m,QC,v')::l,d,h,n,ts,v,hf=>by
  unfold Ms at h
  split at h
  ·cases h
  ·rename_i hm
   unfold find at hf
   split at hf
   ·cases hf
    exact qL hm
   ·exact Fm h n ts v hf
theorem na:∀{l used:List Nat},tV used l=true→∀i∈l,i∉used
 |[],_,_,i,hi=>by cases hi
 |n::l,used,h,i,hi=>by
  unfold tV at h
  split at h
  ·cases h
  ·rename_i hb
   simp only[Bool.or_eq_false_iff] at hb
   rcases List.mem_cons.1 hi with rfl|hi
   ·intro hu;rw[so.2 hu] at hb;cases hb.1
   ·exact na h i hi
theorem SRel.H7 {S':St} {E':Env} {w':World} (h:SRel w0 foot base S E a w) (hle:E.le E') (hh:HRel w0 foot base S'.bl S'.used E' w') (hs:S'.sl=S.sl) (hn:S'.n=S.n) (hp:S'.oA=S.oA):SRel w0 foot base S' E' a w':=
 {toHRel:=hh,gZ:=fun n ts v hf ht=>(h.gZ n ts v (hs▸hf) ht).mono hle,size:=hn▸h.size,defers:=h.defers,pins:=fun n p h1=>⟨hp▸(h.pins n p h1).1,hle.place _ _ (h.pins n p h1).2⟩}
def Jk (S:St) (ctx:c8) (o:Oper):Prop:=
 ∀d,o.dst=some d→d<S.n∧(∀n ts v,find S.sl n=some (ts,v)→∀t∈ts,t.1≠d)∧∀t∈ctx,t.1≠d
theorem nq {S:St} {ctx:c8} {o:Oper} (h:zr S ctx o=true):Jk S ctx o:=fun d hd=>by
 unfold zr at h
 rw[hd] at h
 simp only[Bool.and_eq_true,Bool.not_eq_true'] at h
 exact⟨Nat.le_of_ble_eq_true h.1,Fm h.2.1,qL h.2.2⟩
theorem ep.step (h:ep w0 foot base S E a w) {o:Oper} {r:b7} {E':Env} {w':World} {v:Value} (hd:Jk S ctx o) (hc:bo a ctx) (hA:iw w0 foot base S.bl S.used E r E' w' v):
  ep w0 foot base (fO S o ctx r) E' (a.put o.dst v) w':=by
 cases ho:o.dst with
 |none=>
  have hs:(fO S o ctx r).sl=S.sl:=by simp[fO,ho]
  exact {toSRel:=h.toSRel.H7 hA.le hA.heap hs rfl rfl,dX:=fun n ts u hf hn=>h.dX n ts u (hs▸hf) hn}
 |some d=>
  obtain⟨dK,nD,X3⟩:=hd d ho
  rw[←h.size] at dK
  have k9:∀n ts u,n≠d→find S.sl n=some (ts,u)→(bo (a.put (some d) v) ts→ft E' u ((a.put (some d) v).tmps.getD n undef))∧(¬bo (a.put (some d) v) ts→(a.put (some d) v).tmps.getD n undef=undef):=fun n ts u hn hf=>by
   rw[bo.put (nD n ts u hf),Array.getD_eq_getD_getElem?,rr hn,←Array.getD_eq_getD_getElem?]
   exact⟨fun ht=>(h.gZ n ts u hf ht).mono hA.le,h.dX n ts u hf⟩
  have size:(a.put (some d) v).tmps.size=S.n:=by simp[Act.put,h.size]
  cases hv:r.val with
  |none=>
   have hs:(fO S o ctx r).sl=rem S.sl d:=by simp[fO,ho,hv]
   refine {toHRel:=hA.heap,gZ:=fun n ts u hf ht=> ?_,size:=size,defers:=h.defers,pins:=fun n p h1=>⟨(h.pins n p h1).1,hA.le.place _ _ (h.pins n p h1).2⟩,dX:=fun n ts u hf ht=> ?_}
   ·rw[hs] at hf
    obtain⟨hf,hn⟩:=gn hf
    exact(k9 n ts u (Ne.symm hn) hf).1 ht
   ·rw[hs] at hf
    obtain⟨hf,hn⟩:=gn hf
    exact(k9 n ts u (Ne.symm hn) hf).2 ht
  |some s=>
   have hs:(fO S o ctx r).sl=put S.sl d (ctx,s):=by simp[fO,ho,hv]
   have hval:=hA.val
   rw[hv] at hval
   refine {toHRel:=hA.heap,gZ:=fun n ts u hf ht=> ?_,size:=size,defers:=h.defers,pins:=fun n p h1=>⟨(h.pins n p h1).1,hA.le.place _ _ (h.pins n p h1).2⟩,dX:=fun n ts u hf ht=> ?_}
   ·rw[hs] at hf
    by_cases hn:n=d
    ·subst hn
     rw[bO] at hf
     cases hf
     rw[Array.getD_eq_getD_getElem?,ub dK]
     exact hval
    ·rw[bk _ _ _ _ (Ne.symm hn)] at hf
     exact(k9 n ts u hn hf).1 ht
   ·rw[hs] at hf
    by_cases hn:n=d
    ·subst hn
     rw[bO] at hf
     cases hf
     exact absurd ((bo.put X3).2 hc) ht
    ·rw[bk _ _ _ _ (Ne.symm hn)] at hf
     exact(k9 n ts u hn hf).2 ht
theorem ep.skip (h:ep w0 foot base S E a w) {o:Oper} {r:b7} (hd:Jk S ctx o) (hg:uN ctx r=true) (hc:¬bo a ctx):
  ep w0 foot base (fO S o ctx r) E (a.put o.dst undef) w:=by
 have jS:r.ck=[]∧r.del=[]∧r.new=[]:=by
  unfold uN at hg
  split at hg
  ·exact absurd (fun t ht=>by cases ht) hc
  ·simpa using hg
 have hb:gN r S.bl=S.bl:=by simp[gN,jS.1,jS.2.1]
 have iY:HRel w0 foot base (gN r S.bl) (r.new++S.used) E w:=by rw[hb,jS.2.2];exact h.toHRel
 cases ho:o.dst with
 |none=>
  have hs:(fO S o ctx r).sl=S.sl:=by simp[fO,ho]
  exact {toSRel:=h.toSRel.H7 (.refl _) iY hs rfl rfl,dX:=fun n ts u hf hn=>h.dX n ts u (hs▸hf) hn}
 |some d=>
  obtain⟨dK,nD,X3⟩:=hd d ho
  rw[←h.size] at dK
  have k9:∀n ts u,n≠d→find S.sl n=some (ts,u)→(bo (a.put (some d) undef) ts→ft E u ((a.put (some d) undef).tmps.getD n undef))∧(¬bo (a.put (some d) undef) ts→(a.put (some d) undef).tmps.getD n undef=undef):=fun n ts u hn hf=>by
   rw[bo.put (nD n ts u hf),Array.getD_eq_getD_getElem?,rr hn,←Array.getD_eq_getD_getElem?]
   exact⟨fun ht=>h.gZ n ts u hf ht,h.dX n ts u hf⟩
  have size:(a.put (some d) undef).tmps.size=S.n:=by simp[Act.put,h.size]
  cases hv:r.val with
  |none=>
   have hs:(fO S o ctx r).sl=rem S.sl d:=by simp[fO,ho,hv]
   refine {toHRel:=iY,gZ:=fun n ts u hf ht=> ?_,size:=size,defers:=h.defers,pins:=h.pins,dX:=fun n ts u hf ht=> ?_}
   ·rw[hs] at hf
    obtain⟨hf,hn⟩:=gn hf
    exact(k9 n ts u (Ne.symm hn) hf).1 ht
   ·rw[hs] at hf
    obtain⟨hf,hn⟩:=gn hf
    exact(k9 n ts u (Ne.symm hn) hf).2 ht
  |some s=>
   have hs:(fO S o ctx r).sl=put S.sl d (ctx,s):=by simp[fO,ho,hv]
   refine {toHRel:=iY,gZ:=fun n ts u hf ht=> ?_,size:=size,defers:=h.defers,pins:=h.pins,dX:=fun n ts u hf ht=> ?_}
   ·rw[hs] at hf
    by_cases hn:n=d
    ·subst hn
     rw[bO] at hf
     cases hf
     exact absurd ((bo.put X3).1 ht) hc
    ·rw[bk _ _ _ _ (Ne.symm hn)] at hf
     exact(k9 n ts u hn hf).1 ht
   ·rw[hs] at hf
    by_cases hn:n=d
    ·subst hn
     rw[Array.getD_eq_getD_getElem?,ub dK]
     rfl
    ·rw[bk _ _ _ _ (Ne.symm hn)] at hf
     exact(k9 n ts u hn hf).2 ht
theorem oR {ops:Array Oper} {o:Oper} {c:Rec} (h:Gl X ops S o=some c):
  rF S ops o=some c.ctx∧(fE X o).run S c.ctx=some c.r∧zr S c.ctx o=true∧tV S.used c.r.new=true∧uN c.ctx c.r=true∧c.conds=c.r.conds.map (w2 S c.ctx)∧c.o=o∧
   c.rs=c.ctx.map (fun t=> .slot t.1)++(fE X o).reads S c.ctx:=by
 unfold Gl at h
 split at h
 ·cases h
 ·rename_i ctx hg
  split at h
  ·cases h
  ·rename_i r hr
   split at h
   ·rename_i hb
    cases h
    simp only[Bool.and_eq_true] at hb
    exact⟨hg,hr,hb.1,hb.2.1,hb.2.2,rfl,rfl,rfl⟩
   ·cases h
theorem EP (hT:dt P X.ay) (hK:∀f dy,X.dy f=some dy→mr P f dy) (h:ep w0 foot base S E a w) {ops:Array Oper} {i:Nat} {o:Oper} {r:b7} (hi:ops[i]? =some o)
  (hg:rF S ops o=some ctx) (hr:(fE X o).run S ctx=some r) (hd:Jk S ctx o) (hn:∀i∈r.new,i∉S.used) (RW:uN ctx r=true) (cq:∀c∈r.conds,w2 S ctx c)
  {Q:Exit→Act→World→Prop} {K:Act→World→Prop} (Ia:∀E' a' w',ep w0 foot base (fO S o ctx r) E' a' w'→K a' w'):wpOp P ops Q i K a w:=by
 unfold wpOp
 simp only[hi]
 have Th:Region.wanted o (yielded ops a.tmps)=true→bo a ctx∧∀t∈ctx,∀tags v,find S.sl t.1=some (tags,v)→bo a tags:=fun hw=>by
  have gen:∀n b tags v,a.tmps[n]? =some (.bool b)→find S.sl n=some (tags,v)→bo a tags:=fun n b tags v hv hf=>by
   refine Classical.byContradiction fun hn=> ?_
   have:=h.dX n tags v hf hn
   rw[Array.getD_eq_getD_getElem?,hv] at this
   simp[undef] at this
  have all:bo a ctx:=by
   unfold rF at hg
   cases Pp:o.guard with
   |none=>rw[Pp] at hg;cases hg;intro t ht;cases ht
   |some jw=>
    obtain⟨j,want⟩:=jw
    rw[Pp] at hg
    simp only at hg
    split at hg
    ·rename_i d Ep
     split at hg
     ·rename_i tags v hf
      cases hg
      have hv:a.tmps[d]? =some (.bool want):=by
       unfold Region.wanted at hw
       rw[Pp] at hw
       simp only[yielded,Ep,Option.bind_some,beq_iff_eq] at hw
       split at hw
       ·rename_i b hb
        cases hw
        exact hb
       ·cases hw
      intro t ht
      rcases List.mem_cons.1 ht with rfl|ht
      ·exact hv
      ·exact gen d want tags v hv hf t ht
     ·cases hg
    ·cases hg
  exact⟨all,fun t ht tags v hf=>gen t.1 t.2 tags v (all t ht) hf⟩
 split
 ·rename_i hw
  obtain⟨ht,Ay⟩:=Th hw
  refine .inl (FL hT hK h.toSRel ht hr hn (fun c hc=>EO h.toSRel ht Ay (cq c hc)) K Q fun E' w' v hA=>Ia E' _ _ (h.step hd ht hA))
 ·rename_i hw
  refine Ia E _ _ (h.skip hd RW fun ht=>hw ?_)
  unfold Region.wanted
  unfold rF at hg
  cases Pp:o.guard with
  |none=>rfl
  |some jw=>
   obtain⟨j,want⟩:=jw
   rw[Pp] at hg
   simp only at hg ⊢
   split at hg
   ·rename_i d Ep
    split at hg
    ·cases hg
     have:=ht (d,want) List.mem_cons_self
     simp only at this
     simp[yielded,Ep,this]
    ·cases hg
   ·cases hg
end Go.Vc
end

section
set_option linter.unusedVariables false
set_option linter.unusedSimpArgs false
namespace Go.Vc
open Go
variable {P:Program} {X:Ctx} {w0:World} {foot:gF} {base:Mem} {S:St} {E:Env} {a:Act} {w:World} {ctx:c8}
theorem JH {c:Rec} {cs:List Rec} (h:∀p∈pJ (c::cs),p):(∀p∈c.conds,p)∧∀p∈pJ cs,p:=by
 simp only[pJ,List.flatMap_cons,List.mem_append] at h
 exact⟨fun p hp=>h p (.inl hp),fun p hp=>h p (.inr hp)⟩
theorem Dc (hT:dt P X.ay) (hK:∀f dy,X.dy f=some dy→mr P f dy) {ops:Array Oper} {Q:Exit→Act→World→Prop}:
  ∀{l:List Oper} {k:Nat} {S:St} {E:Env} {a:Act} {w:World} {cs:List Rec} {S':St},(∀j,l[j]? =ops[k+j]?)→uS X ops l S=some (cs,S')→ep w0 foot base S E a w→(∀p∈pJ cs,p)→
  (∀E' a' w',ep w0 foot base S' E' a' w'→Q .normal a' w')→wpOps P ops Q (List.range' k l.length) a w
 |[],k,S,E,a,w,cs,S',_,hr,h,_,hQ=>by
  cases hr
  exact hQ _ _ _ h
 |o::l,k,S,E,a,w,cs,S',hl,hr,h,hc,hQ=>by
  unfold uS at hr
  split at hr
  ·cases hr
  ·rename_i c hs
   split at hr
   ·cases hr
   ·rename_i Yo B3 M4
    cases hr
    obtain⟨h1,h2,h3,h4,h5,h6,_,_⟩:=oR hs
    obtain⟨c1,c2⟩:=JH hc
    have hk:ops[k]? =some o:=by have:=hl 0;simpa using this.symm
    simp only[List.length_cons,List.range'_succ]
    rw[wpOps_cons]
    refine EP hT hK h hk h1 h2 (nq h3) (na h4) h5 (fun p hp=>c1 _ (by rw[h6];exact List.mem_map_of_mem hp)) fun E' a' w' h'=> ?_
    exact Dc hT hK (fun j=>by have:=hl (j+1);simpa [Nat.add_assoc,Nat.add_comm 1 j] using this) M4 h' c2 hQ
def b7.ws (o:Oper) (r:b7):List Loc:=
 (match o.dst with
  |none=>[]
  |some d=>[.slot d])++(r.ck.map (fun p=> .bc p.1)++r.del.map .bc)
def pk:List Loc→Loc→Bool
 |[],_=>false
 |m::l,n=>match m.beq n with
  |true=>true
  |false=>pk l n
def meet:List Loc→List Loc→Bool
 |[],_=>false
 |m::l,k=>match pk k m with
  |true=>true
  |false=>meet l k
theorem vo:∀{l:List Loc} {n:Loc},pk l n=true↔n∈l
 |[],n=>by simp[pk]
 |m::l,n=>by
  unfold pk
  split
  ·rename_i h
   rw[Loc.beq_eq h]
   simp
  ·rename_i h
   have:n≠m:=fun e=>by rw[e,Loc.beq_refl] at h;cases h
   rw[vo]
   simp[this]
theorem Bs:∀{l k:List Loc},meet l k=false→∀n∈l,n∉k
 |[],_,_,n,hn=>by cases hn
 |m::l,k,h,n,hn=>by
  unfold meet at h
  split at h
  ·cases h
  ·rename_i hm
   rcases List.mem_cons.1 hn with rfl|hn
   ·intro hk;rw[vo.2 hk] at hm;cases hm
   ·exact Bs h n hn
def rA (o:Oper):List Nat:=(o.after.toList.filter (Region.binds .any ·)).map (·.on)
def dd:List Nat→List Nat→List Nat
 |[],acc=>acc
 |n::l,acc=>match has acc n with
  |true=>dd l acc
  |false=>dd l (n::acc)
theorem GG:∀{l acc:List Nat} {p:Nat},p∈dd l acc→p∈l∨p∈acc
 |[],acc,p,h=> .inr h
 |n::l,acc,p,h=>by
  unfold dd at h
  split at h
  ·exact(GG h).imp_left (List.mem_cons_of_mem _)
  ·rcases GG h with h|h
   ·exact .inl (List.mem_cons_of_mem _ h)
   ·rcases List.mem_cons.1 h with rfl|h
    ·exact .inl List.mem_cons_self
    ·exact .inr h
def wV:List Oper→List (List Nat)→List (List Nat)
 |[],acc=>acc
 |o::l,acc=>wV l (acc++[dd ((rA o).flatMap fun p=>p::acc.getD p []) []])
def wU (recs:List Rec) (an:List (List Nat)):Nat→Bool
 |0=>true
 |j+1=>wU recs an j&&(List.range j).all fun i=>
  has (an.getD j []) i||match recs[i]?,recs[j]? with
   |some c,some d=> !(meet (b7.ws c.o c.r) (d.rs++b7.ws d.o d.r))&& !(meet (b7.ws d.o d.r) c.rs)
   |_,_=>true
def uc (recs:List Rec):Nat→Bool
 |0=>true
 |j+1=>uc recs j&&(List.range j).all fun i=>match recs[i]?,recs[j]? with
   |some c,some d=>(match d.o.dst with
    |none=>true
    |some t=> !mentions c.ctx t)
   |_,_=>true
def uq (ops:List Oper):Nat→Bool
 |0=>true
 |i+1=>uq ops i&&match ops[i]? with
  |some o=>(rA o).all (Nat.blt · i)
  |none=>true
def clean:List (Nat×(c8×SV))→Bool
 |[]=>true
 |(_,[],_)::l=>clean l
 |_=>false
def GF (X:Ctx) (ops:Array Oper) (S:St):Option (List Rec×St):=
 match uS X ops ops.toList S with
 |none=>none
 |some (recs,S')=>match uq ops.toList ops.size&&(clean S.sl&&(uc recs ops.size&&wU recs (wV ops.toList []) ops.size)) with
  |true=>some (recs,S')
  |false=>none
def kW (L:Nat→Bool):List Rec→St→St
 |[],S=>S
 |c::cs,S=>kW (fun j=>L (j+1)) cs (match L 0 with
  |true=>fO S c.o c.ctx c.r
  |false=>S)
theorem gP.refl (S:St) (l:Loc):gP S S l:=by cases l<;>rfl
theorem gP.symm {S S':St} {l:Loc} (h:gP S S' l):gP S' S l:=by cases l<;>exact Eq.symm h
theorem gP.trans {S S' B3:St} {l:Loc} (h:gP S S' l) (k:gP S' B3 l):gP S B3 l:=by cases l<;>exact Eq.trans k h
theorem Jb {r:b7} {b:Nat} (h: .bc b∉r.ck.map (fun p=>Loc.bc p.1)++r.del.map Loc.bc) (bl:List (Nat×c5)):find (gN r bl) b=find bl b:=by
 simp only[List.mem_append,List.mem_map,not_or,not_exists,not_and,Loc.bc.injEq] at h
 have h1:∀(l:List (Nat×c5)) (bl:List (Nat×c5)),(∀p∈l,p.1≠b)→find (l.foldl (fun l p=>put l p.1 p.2) bl) b=find bl b:=by
  intro l
  induction l with
  |nil=>intro bl _;rfl
  |cons p l ih=>
   intro bl hp
   simp only[List.foldl_cons]
   rw[ih _ fun q hq=>hp q (List.mem_cons_of_mem _ hq),bk _ _ _ _ (hp p List.mem_cons_self)]
 have h2:∀(l:List Nat) (bl:List (Nat×c5)),(∀p∈l,p≠b)→find (l.foldl rem bl) b=find bl b:=by
  intro l
  induction l with
  |nil=>intro bl _;rfl
  |cons p l ih=>
   intro bl hp
   simp only[List.foldl_cons]
   rw[ih _ fun q hq=>hp q (List.mem_cons_of_mem _ hq),gV _ _ _ (hp p List.mem_cons_self)]
 unfold gN
 rw[h1 _ _ fun p hp=>h.1 p hp,h2 _ _ fun p hp=>h.2 p hp]
theorem JL {r:b7} {b:Nat} (h: .bc b∈r.ck.map (fun p=>Loc.bc p.1)++r.del.map Loc.bc) (bl NK:List (Nat×c5)):find (gN r bl) b=find (gN r NK) b:=by
 have h1:∀(l:List (Nat×c5)) (bl NK:List (Nat×c5)),(find bl b=find NK b∨∃p∈l,p.1=b)→find (l.foldl (fun l p=>put l p.1 p.2) bl) b=find (l.foldl (fun l p=>put l p.1 p.2) NK) b:=by
  intro l
  induction l with
  |nil=>intro bl NK hp;rcases hp with hp|⟨p,hp,_⟩;exact hp;cases hp
  |cons p l ih=>
   intro bl NK hp
   simp only[List.foldl_cons]
   refine ih _ _ ?_
   by_cases hb:p.1=b
   ·exact .inl (by rw[←hb,bO,bO])
   ·rcases hp with hp|⟨q,hq,Jz⟩
    ·exact .inl (by rw[bk _ _ _ _ hb,bk _ _ _ _ hb,hp])
    ·rcases List.mem_cons.1 hq with rfl|hq
     ·exact absurd Jz hb
     ·exact .inr ⟨q,hq,Jz⟩
 have h2:∀(l:List Nat) (bl:List (Nat×c5)),(find bl b=none∨b∈l)→find (l.foldl rem bl) b=none:=by
  intro l
  induction l with
  |nil=>intro bl hp;rcases hp with hp|hp;exact hp;cases hp
  |cons p l ih=>
   intro bl hp
   simp only[List.foldl_cons]
   refine ih _ ?_
   by_cases hb:p=b
   ·exact .inl (by rw[←hb,mX])
   ·rcases hp with hp|hp
    ·exact .inl (by rw[gV _ _ _ hb];exact hp)
    ·rcases List.mem_cons.1 hp with rfl|hp
     ·exact absurd rfl hb
     ·exact .inr hp
 unfold gN
 refine h1 _ _ _ ?_
 by_cases hm:∃p∈r.ck,p.1=b
 ·exact .inr hm
 ·refine .inl ?_
  rcases List.mem_append.1 h with h|h
  ·obtain⟨p,hp,he⟩:=List.mem_map.1 h
   exact absurd ⟨p,hp,by simpa using he⟩ hm
  ·have:b∈r.del:=by
    obtain⟨p,hp,he⟩:=List.mem_map.1 h
    simp only[Loc.bc.injEq] at he
    exact he▸hp
   rw[h2 _ _ (.inr this),h2 _ _ (.inr this)]
theorem w6 {o:Oper} {r:b7} {l:Loc} (h:l∉b7.ws o r):gP S (fO S o ctx r) l:=by
 cases l with
 |slot n=>
  show find (fO S o ctx r).sl n=find S.sl n
  unfold fO
  simp only
  cases ho:o.dst with
  |none=>rfl
  |some d=>
   have hn:d≠n:=fun e=>h (by simp[b7.ws,ho,e])
   simp only
   split
   ·exact bk _ _ _ _ hn
   ·exact gV _ _ _ hn
 |bc b=>
  show find (gN r S.bl) b=find S.bl b
  exact Jb (fun hm=>h (by unfold b7.ws;exact List.mem_append_right _ hm)) _
theorem JR {S':St} {o:Oper} {r:b7} {l:Loc} (h:l∈b7.ws o r):gP (fO S o ctx r) (fO S' o ctx r) l:=by
 cases l with
 |slot n=>
  show find (fO S' o ctx r).sl n=find (fO S o ctx r).sl n
  unfold b7.ws at h
  unfold fO
  simp only
  cases ho:o.dst with
  |none=>rw[ho] at h;simp at h
  |some d=>
   rw[ho] at h
   have hn:n=d:=by simpa using h
   subst hn
   simp only
   split
   ·rw[bO,bO]
   ·rw[mX,mX]
 |bc b=>
  refine JL ?_ _ _
  unfold b7.ws at h
  rcases List.mem_append.1 h with h|h
  ·split at h
   ·cases h
   ·simp at h
  ·exact h
theorem ue:∀{recs:List Rec} {L M:Nat→Bool} {S S':St} {l:Loc},gP S S' l→(∀i c,recs[i]? =some c→l∈b7.ws c.o c.r→L i=M i)→gP (kW L recs S) (kW M recs S') l
 |[],_,_,_,_,_,h,_=>h
 |c::cs,L,M,S,S',l,h,hw=>by
  refine ue (recs:=cs) ?_ fun i d hi hl=>hw (i+1) d (by simpa using hi) hl
  by_cases hl:l∈b7.ws c.o c.r
  ·rw[←hw 0 c rfl hl]
   split
   ·exact JR hl
   ·exact h
  ·have h1:∀(b:Bool) (S:St),gP S (match b with |true=>fO S c.o c.ctx c.r|false=>S) l:=fun b S=>by
    cases b
    ·exact .refl _ _
    ·exact w6 hl
   exact((h1 (L 0) S).symm.trans h).trans (h1 (M 0) S')
theorem JV:∀{recs:List Rec} {L:Nat→Bool} {S S':St} {l:Loc} {i:Nat} {c:Rec},recs[i]? =some c→L i=true→l∈b7.ws c.o c.r→(∀j d,i<j→recs[j]? =some d→l∈b7.ws d.o d.r→L j=false)→
  gP (fO S' c.o c.ctx c.r) (kW L recs S) l
 |[],_,_,_,_,i,_,h,_,_,_=>by simp at h
 |d::cs,L,S,S',l,0,c,h,hL,hl,hj=>by
  simp only[List.getElem?_cons_zero,Option.some.injEq] at h
  subst h
  unfold kW
  rw[hL]
  have h1:gP (kW (fun _=>false) cs (fO S d.o d.ctx d.r)) (kW (fun j=>L (j+1)) cs (fO S d.o d.ctx d.r)) l:=
   ue (.refl _ _) fun i e hi Ps=>(hj (i+1) e (by omega) (by simpa using hi) Ps).symm
  have h2:∀(cs:List Rec) (S:St),kW (fun _=>false) cs S=S:=by
   intro cs
   induction cs with
   |nil=>intro S;rfl
   |cons c cs ih=>intro S;exact ih S
  rw[h2] at h1
  exact(JR hl).trans h1
 |d::cs,L,S,S',l,i+1,c,h,hL,hl,hj=>
  JV (recs:=cs) (L:=fun j=>L (j+1)) (by simpa using h) hL hl fun j e kS he Ps=>hj (j+1) e (by omega) (by simpa using he) Ps
theorem lF:∀{recs:List Rec} {L:Nat→Bool} {S:St} {id:Nat},id∈(kW L recs S).used↔id∈S.used∨∃i c,recs[i]? =some c∧L i=true∧id∈c.r.new
 |[],L,S,id=>by simp[kW]
 |c::cs,L,S,id=>by
  unfold kW
  rw[lF]
  constructor
  ·rintro(h|⟨i,d,h1,h2,h3⟩)
   ·split at h
    ·rename_i hL
     rcases List.mem_append.1 h with h|h
     ·exact .inr ⟨0,c,rfl,hL,h⟩
     ·exact .inl h
    ·exact .inl h
   ·exact .inr ⟨i+1,d,by simpa using h1,h2,h3⟩
  ·rintro(h|⟨i,d,h1,h2,h3⟩)
   ·refine .inl ?_
    split
    ·exact List.mem_append_right _ h
    ·exact h
   ·cases i with
    |zero=>
     simp only[List.getElem?_cons_zero,Option.some.injEq] at h1
     subst h1
     refine .inl ?_
     rw[h2]
     exact List.mem_append_left _ h3
    |succ i=>exact .inr ⟨i,d,by simpa using h1,h2,h3⟩
theorem DW:∀{recs:List Rec} {L:Nat→Bool} {S:St},(kW L recs S).n=S.n
 |[],_,_=>rfl
 |c::cs,L,S=>by unfold kW;rw[DW];split<;>rfl
theorem yu:∀{recs:List Rec} {L:Nat→Bool} {S:St},(kW L recs S).oA=S.oA
 |[],_,_=>rfl
 |c::cs,L,S=>by unfold kW;rw[yu];split<;>rfl
theorem G1:∀{recs:List Rec} {L:Nat→Bool} {S:St} {n:Nat} {ts:c8} {v:SV},find (kW L recs S).sl n=some (ts,v)→find S.sl n=some (ts,v)∨∃i c,recs[i]? =some c∧L i=true∧ts=c.ctx
 |[],L,S,n,ts,v,h=> .inl h
 |c::cs,L,S,n,ts,v,h=>by
  unfold kW at h
  rcases G1 h with h|⟨i,d,h1,h2,h3⟩
  ·split at h
   ·rename_i hL
    by_cases hn:Loc.slot n∈b7.ws c.o c.r
    ·unfold fO at h
     simp only at h
     unfold b7.ws at hn
     cases ho:c.o.dst with
     |none=>rw[ho] at h;exact .inl h
     |some d=>
      rw[ho] at h
      simp only at h
      split at h
      ·by_cases hnd:n=d
       ·subst hnd
        rw[bO] at h
        cases h
        exact .inr ⟨0,c,rfl,hL,rfl⟩
       ·rw[bk _ _ _ _ (Ne.symm hnd)] at h
        exact .inl h
      ·exact .inl (gn h).1
    ·have:=w6 (S:=S) (ctx:=c.ctx) hn
     have:find (fO S c.o c.ctx c.r).sl n=find S.sl n:=this
     rw[this] at h
     exact .inl h
   ·exact .inl h
  ·exact .inr ⟨i+1,d,by simpa using h1,h2,h3⟩
theorem Et {ops:Array Oper}:∀{l:List Oper} {S:St} {recs:List Rec} {S':St},uS X ops l S=some (recs,S')→
  recs.length=l.length∧S'=kW (fun _=>true) recs S∧∀i o,l[i]? =some o→∃c,recs[i]? =some c∧Gl X ops (kW (fun j=>decide (j<i)) recs S) o=some c
 |[],S,recs,S',h=>by
  cases h
  exact⟨rfl,rfl,fun i o hi=>by simp at hi⟩
 |o::l,S,recs,S',h=>by
  unfold uS at h
  split at h
  ·cases h
  ·rename_i c hc
   split at h
   ·cases h
   ·rename_i cs B3 mA
    cases h
    obtain⟨h1,h2,h3⟩:=Et mA
    have hco:=(oR hc).2.2.2.2.2.2.1
    refine⟨by simp[h1],?_,fun i o' hi=> ?_⟩
    ·rw[h2,←hco]
     rfl
    ·cases i with
     |zero=>
      simp only[List.getElem?_cons_zero,Option.some.injEq] at hi
      subst hi
      have h2:∀(cs:List Rec) (S:St),kW (fun j=>decide (j<0)) cs S=S:=by
       intro cs S
       have:(fun j=>decide (j<0))=fun _=>false:=by funext j;simp
       rw[this]
       induction cs generalizing S with
       |nil=>rfl
       |cons c cs ih=>exact ih S
      exact⟨c,rfl,by rw[h2];exact hc⟩
     |succ i=>
      obtain⟨d,h4,h5⟩:=h3 i o' (by simpa using hi)
      refine⟨d,by simpa using h4,?_⟩
      have e:kW (fun j=>decide (j<i+1)) (c::cs) S=kW (fun j=>decide (j<i)) cs (fO S o c.ctx c.r):=by
       show kW (fun j=>decide (j+1<i+1)) cs (fO S c.o c.ctx c.r)=_
       rw[hco]
       congr 1
       funext j
       simp
      rw[e]
      exact h5
end Go.Vc
end

section
set_option linter.unusedVariables false
set_option linter.unusedSimpArgs false
namespace Go.Vc
open Go
variable {P:Program} {X:Ctx} {w0:World} {foot:gF} {base:Mem} {S:St} {E:Env} {a:Act} {w:World} {ctx:c8}
theorem ep.congr {S':St} (h:ep w0 foot base S E a w) (hs:∀n,find S'.sl n=find S.sl n) (hb:∀b,find S'.bl b=find S.bl b) (hu:∀i,i∈S.used→i∈S'.used) (hn:S'.n=S.n) (hp:S'.oA=S.oA):ep w0 foot base S' E a w:=
 {toHRel:=h.toHRel.congr (fun id B hf=>by rwa [hb] at hf) hu
  gZ:=fun n ts v hf ht=>h.gZ n ts v (by rwa [hs] at hf) ht
  size:=hn▸h.size
  defers:=h.defers
  pins:=fun n p h1=>⟨hp▸(h.pins n p h1).1,(h.pins n p h1).2⟩
  dX:=fun n ts v hf ht=>h.dX n ts v (by rwa [hs] at hf) ht}
theorem oL {recs:List Rec} {an:List (List Nat)}:∀{n:Nat},wU recs an n=true→∀i j c d,i<j→j<n→recs[i]? =some c→recs[j]? =some d→
  i∈an.getD j []∨((∀l∈b7.ws c.o c.r,l∉d.rs++b7.ws d.o d.r)∧∀l∈b7.ws d.o d.r,l∉c.rs)
 |0,_,i,j,c,d,kS,hj,_,_=>by omega
 |n+1,h,i,j,c,d,kS,hj,hc,hd=>by
  simp only[wU,Bool.and_eq_true,List.all_eq_true] at h
  by_cases hn:j=n
  ·subst hn
   have:=h.2 i (List.mem_range.2 kS)
   rw[hc,hd] at this
   simp only[Bool.or_eq_true,Bool.and_eq_true,Bool.not_eq_true'] at this
   rcases this with h1|⟨h1,h2⟩
   ·exact .inl (so.1 h1)
   ·exact .inr ⟨Bs h1,Bs h2⟩
  ·exact oL h.1 i j c d kS (by omega) hc hd
theorem xS {recs:List Rec}:∀{n:Nat},uc recs n=true→∀i j c d t,i<j→j<n→recs[i]? =some c→recs[j]? =some d→d.o.dst=some t→∀x∈c.ctx,x.1≠t
 |0,_,i,j,c,d,t,kS,hj,_,_,_=>by omega
 |n+1,h,i,j,c,d,t,kS,hj,hc,hd,ht=>by
  simp only[uc,Bool.and_eq_true,List.all_eq_true] at h
  by_cases hn:j=n
  ·subst hn
   have:=h.2 i (List.mem_range.2 kS)
   rw[hc,hd] at this
   simp only[ht,Bool.not_eq_true'] at this
   exact qL this
  ·exact xS h.1 i j c d t kS (by omega) hc hd ht
theorem rT {ops:List Oper}:∀{n:Nat},uq ops n=true→∀i o,i<n→ops[i]? =some o→∀p∈rA o,p<i
 |0,_,i,o,hi,_=>by omega
 |n+1,h,i,o,hi,ho=>by
  simp only[uq,Bool.and_eq_true] at h
  by_cases hn:i=n
  ·subst hn
   rw[ho] at h
   intro p hp
   have:=List.all_eq_true.1 h.2 p hp
   exact Nat.le_of_ble_eq_true this
  ·exact rT h.1 i o (by omega) ho
theorem vD:∀{l:List (Nat×(c8×SV))},clean l=true→∀n ts v,find l n=some (ts,v)→ts=[]
 |[],_,n,ts,v,h=>by cases h
 |(m,QC,v')::l,h,n,ts,v,hf=>by
  unfold clean at h
  split at h
  ·rename_i heq;cases heq
  ·rename_i l' heq
   cases heq
   unfold find at hf
   split at hf
   ·cases hf;rfl
   ·exact vD h n ts v hf
  ·cases h
theorem ED:∀{l:List Oper} {acc:List (List Nat)} (j:Nat),(wV l acc).getD j []=if j<acc.length then acc.getD j [] else
  match l[j - acc.length]? with
  |some o=>dd ((rA o).flatMap fun p=>p::((wV l acc).take j).getD p []) []
  |none=>[]
 |[],acc,j=>by
  simp only[wV]
  split
  ·rfl
  ·rename_i h
   rw[List.getD_eq_getElem?_getD,List.getElem?_eq_none (by omega)]
   simp
 |o::l,acc,j=>by
  simp only[wV]
  rw[ED (l:=l)]
  simp only[List.length_append,List.length_singleton]
  have od:∀(l:List Oper) (acc:List (List Nat)),(wV l acc).take acc.length=acc:=by
   intro l
   induction l with
   |nil=>intro acc;simp[wV]
   |cons o l ih=>
    intro acc
    have:=ih (acc++[dd ((rA o).flatMap fun p=>p::acc.getD p []) []])
    simp only[List.length_append,List.length_singleton] at this
    simp only[wV]
    have h2:=congrArg (List.take acc.length) this
    rw[List.take_take,Nat.min_eq_left (by omega)] at h2
    rw[h2]
    simp
  split
  ·rename_i hj
   by_cases h2:j<acc.length
   ·rw[if_pos h2,List.getD_eq_getElem?_getD,List.getElem?_append_left h2,←List.getD_eq_getElem?_getD]
   ·have M6:j=acc.length:=by omega
    subst M6
    rw[if_neg h2]
    simp only[Nat.sub_self,List.getElem?_cons_zero]
    rw[List.getD_eq_getElem?_getD,List.getElem?_append_right (by omega)]
    simp only[Nat.sub_self,List.getElem?_cons_zero,Option.getD_some]
    have:=od (o::l) acc
    simp only[wV] at this
    rw[this]
  ·rename_i hj
   rw[if_neg (by omega)]
   have e:j - acc.length=(j - (acc.length+1))+1:=by omega
   rw[e,List.getElem?_cons_succ]
theorem NN {ops:List Oper} {L:Nat→Bool} (hp:uq ops ops.length=true) (mf:∀i o,ops[i]? =some o→L i=true→∀p∈rA o,L p=true):
  ∀(i:Nat),L i=true→∀p∈(wV ops []).getD i [],L p=true:=by
 intro i
 induction i using Nat.strongRecOn with
 |_ i ih=>
  intro hL p hm
  rw[ED] at hm
  simp only[List.length_nil,Nat.not_lt_zero,if_false,Nat.sub_zero] at hm
  split at hm
  ·rename_i o ho
   obtain⟨q,hq,hm⟩:=List.mem_flatMap.1 ((GG hm).resolve_right (by simp))
   have X7:=mf i o ho hL q hq
   have hi:=(List.getElem?_eq_some_iff.1 ho).1
   have hqi:=rT hp i o hi ho q hq
   rcases List.mem_cons.1 hm with rfl|hm
   ·exact X7
   ·rw[List.getD_eq_getElem?_getD,List.getElem?_take_of_lt hqi,←List.getD_eq_getElem?_getD] at hm
    exact ih q hqi X7 p hm
  ·cases hm
def pS (L:Nat→Bool) (i:Nat):Nat→Bool:=fun j=>L j||decide (j=i)
theorem Sg (hT:dt P X.ay) (hK:∀f dy,X.dy f=some dy→mr P f dy) {ops:Array Oper} {recs:List Rec} {S':St} (Ti:uS X ops ops.toList S=some (recs,S')) (hp:uq ops.toList ops.size=true) (mf:clean S.sl=true)
  (htg:uc recs ops.size=true) (PA:wU recs (wV ops.toList []) ops.size=true) (cq:∀p∈pJ recs,p) {L:Nat→Bool} (hL:∀i o,ops[i]? =some o→L i=true→∀p∈rA o,L p=true)
  {i:Nat} (hi:i<ops.size) (PB:L i=false) (od:∀o,ops[i]? =some o→∀p∈rA o,L p=true) (h:ep w0 foot base (kW L recs S) E a w) {Q:Exit→Act→World→Prop} {K:Act→World→Prop}
  (Ia:∀E' a' w',ep w0 foot base (kW (pS L i) recs S) E' a' w'→K a' w'):wpOp P ops Q i K a w:=by
 obtain⟨hlen,X5,mU⟩:=Et Ti
 have ho:ops[i]? =some ops[i]:=Array.getElem?_eq_getElem hi
 have En:∀{j:Nat} (hj:j<ops.size),ops.toList[j]? =some ops[j]:=fun hj=>by simp
 obtain⟨c,hc,HT⟩:=mU i ops[i] (En hi)
 obtain⟨h1,h2,h3,h4,h5,h6,h7,h8⟩:=oR HT
 have dj:uq ops.toList ops.toList.length=true:=by simpa using hp
 have hLl:∀i o,ops.toList[i]? =some o→L i=true→∀p∈rA o,L p=true:=fun i o ho=>hL i o (by simpa using ho)
 have Tr:=NN dj hLl
 have aew:∀p∈(wV ops.toList []).getD i [],L p=true:=by
  intro p hm
  rw[ED] at hm
  simp only[List.length_nil,Nat.not_lt_zero,if_false,Nat.sub_zero] at hm
  split at hm
  ·rename_i o rE
   obtain⟨q,hq,hm⟩:=List.mem_flatMap.1 ((GG hm).resolve_right (by simp))
   have X7:=od o (by simpa using rE) q hq
   have hqi:=rT hp i o hi rE q hq
   rcases List.mem_cons.1 hm with rfl|hm
   ·exact X7
   ·rw[List.getD_eq_getElem?_getD,List.getElem?_take_of_lt hqi,←List.getD_eq_getElem?_getD] at hm
    exact Tr q X7 p hm
  ·cases hm
 have Pt:∀{j:Nat} {d:Rec},recs[j]? =some d→j<ops.size:=fun {j d} hd=>by
  have:=(List.getElem?_eq_some_iff.1 hd).1
  rw[hlen] at this
  simpa using this
 have hwr:∀l∈c.rs,∀j d,recs[j]? =some d→l∈b7.ws d.o d.r→L j=decide (j<i):=fun l hl j d hd JA=>by
  rcases Nat.lt_trichotomy j i with uH|uH|uH
  ·rw[decide_eq_true uH]
   rcases oL PA j i d c uH hi hd hc with hm|⟨hm,_⟩
   ·exact aew j hm
   ·exact absurd (List.mem_append_left _ hl) (hm l JA)
  ·subst uH;rw[PB];simp
  ·rw[decide_eq_false (by omega)]
   rcases oL PA i j c d uH (Pt hd) hc hd with hm|⟨_,hm⟩
   ·cases AF:L j with
    |false=>rfl
    |true=>have:=Tr j AF i hm;rw[PB] at this;cases this
   ·exact absurd hl (hm l JA)
 have Ts:∀l∈c.rs,gP (kW (fun j=>decide (j<i)) recs S) (kW L recs S) l:=fun l hl=>
  ue (.refl _ _) fun j d hd JA=>(hwr l hl j d hd JA).symm
 have X2:∀t∈c.ctx,find (kW L recs S).sl t.1=find (kW (fun j=>decide (j<i)) recs S).sl t.1:=fun t ht=>
  Ts (.slot t.1) (by rw[h8];exact List.mem_append_left _ (List.mem_map_of_mem ht))
 have hg:rF (kW L recs S) ops ops[i]=some c.ctx:=by
  unfold rF at h1 ⊢
  cases Pp:ops[i].guard with
  |none=>rw[Pp] at h1;exact h1
  |some jw=>
   obtain⟨j,want⟩:=jw
   rw[Pp] at h1
   simp only at h1 ⊢
   cases hd:(ops[j]?).bind (·.dst) with
   |none=>rw[hd] at h1;cases h1
   |some d=>
    rw[hd] at h1
    simp only at h1 ⊢
    cases hf:find (kW (fun j=>decide (j<i)) recs S).sl d with
    |none=>rw[hf] at h1;cases h1
    |some tv=>
     obtain⟨tags,v⟩:=tv
     rw[hf] at h1
     have hcc:c.ctx=(d,want)::tags:=(Option.some.inj h1).symm
     have:=X2 (d,want) (by rw[hcc];exact List.mem_cons_self)
     simp only at this
     rw[this,hf,hcc]
 have dA:(fE X ops[i]).run (kW L recs S) c.ctx=some c.r:=by
  rw[←h2]
  exact RM.Bh fun l hl=>Ts l (by rw[h8];exact List.mem_append_right _ hl)
 have adR:∀(ts:c8) (p:Prop),(∀t∈ts,t∈c.ctx)→w2 (kW L recs S) ts p=w2 (kW (fun j=>decide (j<i)) recs S) ts p:=by
  intro ts
  induction ts with
  |nil=>intro p _;rfl
  |cons t ts ih=>
   intro p hts
   obtain⟨n,want⟩:=t
   have e:Dx (kW L recs S) n=Dx (kW (fun j=>decide (j<i)) recs S) n:=by
    unfold Dx
    rw[X2 (n,want) (hts _ List.mem_cons_self)]
   unfold w2
   rw[e]
   exact ih _ fun t ht=>hts t (List.mem_cons_of_mem _ ht)
 have aee:c∈recs:=List.mem_of_getElem? hc
 have aaD:∀q∈c.r.conds,w2 (kW L recs S) c.ctx q:=fun q hq=>by
  rw[adR _ _ fun t ht=>ht]
  refine cq _ ?_
  exact List.mem_flatMap.2 ⟨c,aee,by rw[h6];exact List.mem_map_of_mem hq⟩
 have ql:∀id∈c.r.new,id∉(kW L recs S).used:=fun id uI hu=>by
  rcases lF.1 hu with hu|⟨j,d,hd,AF,Ks⟩
  ·exact na h4 id uI (lF.2 (.inl hu))
  ·rcases Nat.lt_trichotomy j i with uH|uH|uH
   ·exact na h4 id uI (lF.2 (.inr ⟨j,d,hd,by simpa using uH,Ks⟩))
   ·subst uH;rw[PB] at AF;cases AF
   ·have hjs:=Pt hd
    obtain⟨d',Ep,M1⟩:=mU j ops[j] (En hjs)
    rw[hd] at Ep
    cases Ep
    have:=(oR M1).2.2.2.1
    exact na this id Ks (lF.2 (.inr ⟨i,c,hc,by simpa using uH,uI⟩))
 have aiB:Jk (kW L recs S) c.ctx ops[i]:=fun t ht=>by
  obtain⟨g1,g2,g3⟩:=nq h3 t ht
  refine⟨by rw[DW] at g1 ⊢;exact g1,fun n ts v hf x hx=> ?_,g3⟩
  rcases G1 hf with hf|⟨j,d,hd,AF,rfl⟩
  ·rw[vD mf n ts v hf] at hx;cases hx
  ·rcases Nat.lt_trichotomy j i with uH|uH|uH
   ·exact xS htg j i d c t uH hi hd hc (by rw[h7];exact ht) x hx
   ·subst uH;rw[PB] at AF;cases AF
   ·intro e
    have JA:Loc.slot t∈d.rs:=by
     have hjs:=Pt hd
     obtain⟨d',Ep,M1⟩:=mU j ops[j] (En hjs)
     rw[hd] at Ep
     cases Ep
     rw[(oR M1).2.2.2.2.2.2.2]
     exact List.mem_append_left _ (List.mem_map.2 ⟨x,hx,by rw[e]⟩)
    have RR:Loc.slot t∈b7.ws c.o c.r:=by
     rw[h7];unfold b7.ws;rw[ht];simp
    rcases oL PA i j c d uH (Pt hd) hc hd with hm|⟨hm,_⟩
    ·have:=Tr j AF i hm;rw[PB] at this;cases this
    ·exact hm _ RR (List.mem_append_left _ JA)
 refine EP hT hK h ho hg dA aiB ql h5 aaD fun E' a' w' h'=>Ia E' a' w' ?_
 have wJ:∀l,gP (fO (kW L recs S) ops[i] c.ctx c.r) (kW (pS L i) recs S) l:=fun l=>by
  rw[←h7]
  by_cases hl:l∈b7.ws c.o c.r
  ·refine JV hc (by simp[pS]) hl fun j d uH hd JA=> ?_
   have jS:j≠i:=by omega
   simp only[pS,jS,decide_false,Bool.or_false]
   rcases oL PA i j c d uH (Pt hd) hc hd with hm|⟨hm,_⟩
   ·cases AF:L j with
    |false=>rfl
    |true=>have:=Tr j AF i hm;rw[PB] at this;cases this
   ·exact absurd (List.mem_append_right _ JA) (hm l hl)
  ·refine(w6 hl).symm.trans (ue (.refl _ _) fun j d hd JA=> ?_)
   have jS:j≠i:=fun e=>by subst e;rw[hc] at hd;cases hd;exact hl JA
   simp[pS,jS]
 refine h'.congr (fun n=>wJ (.slot n)) (fun b=>wJ (.bc b)) (fun id uI=> ?_) (by rw[DW];show S.n=(kW L recs S).n;rw[DW]) (by rw[yu];show S.oA=(kW L recs S).oA;rw[yu])
 rcases List.mem_append.1 uI with uI|uI
 ·exact lF.2 (.inr ⟨i,c,hc,by simp[pS],uI⟩)
 ·rcases lF.1 uI with hu|⟨j,d,hd,AF,Ks⟩
  ·exact lF.2 (.inl hu)
  ·exact lF.2 (.inr ⟨j,d,hd,by simp[pS,AF],Ks⟩)
theorem wK {eF:Array Bool} {i j:Nat} (hi:i<eF.size):(eF.setIfInBounds i true).getD j false=pS (fun k=>eF.getD k false) i j:=by
 unfold pS
 simp only[Array.getD_eq_getD_getElem?,Array.getElem?_setIfInBounds]
 by_cases hj:i=j
 ·subst hj;simp[hi]
 ·simp[hj,Ne.symm hj]
theorem mem_ready {ops:Array Oper} {eF:Array Bool} (hs:eF.size=ops.size) {i:Nat}:i∈Region.ready .any ops eF↔∃o,ops[i]? =some o∧eF.getD i false=false∧∀p∈rA o,eF.getD p false=true:=by
 unfold Region.ready
 simp only[List.mem_filter,List.mem_range,Bool.and_eq_true,Bool.not_eq_true']
 constructor
 ·rintro⟨hi,h1,h2⟩
  refine⟨ops[i],Array.getElem?_eq_getElem hi,?_,?_⟩
  ·rw[Array.getD_eq_getD_getElem?] at h1 ⊢
   rw[Array.getElem?_eq_getElem (by omega)] at h1 ⊢
   exact h1
  ·rw[Array.getElem?_eq_getElem hi] at h2
   simp only[Option.map_some,Option.getD_some] at h2
   intro p hp
   unfold rA at hp
   obtain⟨e,he,rfl⟩:=List.mem_map.1 hp
   obtain⟨he1,he2⟩:=List.mem_filter.1 he
   have:=Array.all_eq_true_iff_forall_mem.1 h2 e (by simpa using he1)
   rw[he2] at this
   simpa using this
 ·rintro⟨o,ho,h1,h2⟩
  have hi:=(Array.getElem?_eq_some_iff.1 ho).1
  refine⟨hi,?_,?_⟩
  ·rw[Array.getD_eq_getD_getElem?] at h1 ⊢
   rw[Array.getElem?_eq_getElem (by omega)] at h1 ⊢
   exact h1
  ·rw[ho]
   simp only[Option.map_some,Option.getD_some]
   refine Array.all_eq_true_iff_forall_mem.2 fun e he=> ?_
   cases hb:Region.binds .any e with
   |false=>simp
   |true=>
    have:=h2 e.on (by
     unfold rA
     exact List.mem_map_of_mem (List.mem_filter.2 ⟨by simpa using he,hb⟩))
    simpa using this
theorem JG (hT:dt P X.ay) (hK:∀f dy,X.dy f=some dy→mr P f dy) {ops:Array Oper} {recs:List Rec} {S':St} (hr:GF X ops S=some (recs,S')) (h:ep w0 foot base S E a w) (cq:∀p∈pJ recs,p)
  {Q:Exit→Act→World→Prop} (hQ:∀E' a' w',ep w0 foot base S' E' a' w'→Q .normal a' w'):wpAny P .any ops Q ops.size (Array.replicate ops.size false) a w:=by
 unfold GF at hr
 split at hr
 ·cases hr
 ·rename_i QP B3 Ti
  split at hr
  ·rename_i hb
   cases hr
   simp only[Bool.and_eq_true] at hb
   obtain⟨hp,mf,htg,PA⟩:=hb
   obtain⟨hlen,X5,mU⟩:=Et Ti
   have aeg:recs.length=ops.size:=by simpa using hlen
   have least:∀(L:Nat→Bool),(∃i,i<ops.size∧L i=false)→∃i,i<ops.size∧L i=false∧∀j,j<i→L j=true:=fun L ⟨i,hi,hL⟩=>by
    induction i using Nat.strongRecOn with
    |_ i ih=>
     by_cases hex:∃j,j<i∧L j=false
     ·obtain⟨j,hj,AF⟩:=hex
      exact ih j hj (by omega) AF
     ·refine⟨i,hi,hL,fun j hj=> ?_⟩
      cases AF:L j with
      |true=>rfl
      |false=>exact absurd ⟨j,hj,AF⟩ hex
   have all:∀(fuel:Nat) (eF:Array Bool) (E:Env) (a:Act) (w:World),eF.size=ops.size→((List.range ops.size).filter fun i=> !eF.getD i false).length=fuel→
     (∀i o,ops[i]? =some o→eF.getD i false=true→∀p∈rA o,eF.getD p false=true)→ep w0 foot base (kW (fun i=>eF.getD i false) recs S) E a w→wpAny P .any ops Q fuel eF a w:=by
    intro fuel
    have fin:∀(eF:Array Bool) (E:Env) (a:Act) (w:World),eF.size=ops.size→ep w0 foot base (kW (fun i=>eF.getD i false) recs S) E a w→Region.ready .any ops eF=[]→Q .normal a w:=fun eF E a w hs h GA=>by
     refine hQ E a w ?_
     have aeo:∀i,i<ops.size→eF.getD i false=true:=fun i hi=>by
      cases PB:eF.getD i false with
      |true=>rfl
      |false=>
       obtain⟨k,hk,hLk,aaG⟩:=least (fun i=>eF.getD i false) ⟨i,hi,PB⟩
       have:k∈Region.ready .any ops eF:=(mem_ready hs).2 ⟨ops[k],Array.getElem?_eq_getElem hk,hLk,fun p U7=>aaG p (rT hp k ops[k] hk (by simp) p U7)⟩
       rw[GA] at this
       cases this
     have Gf:∀l,gP (kW (fun i=>eF.getD i false) recs S) S' l:=fun l=>by
      rw[X5]
      exact ue (.refl _ _) fun i c hc _=>aeo i (by rw[←aeg];exact(List.getElem?_eq_some_iff.1 hc).1)
     refine h.congr (fun n=>Gf (.slot n)) (fun b=>Gf (.bc b)) (fun id uI=> ?_) (by rw[X5,DW,DW]) (by rw[X5,yu,yu])
     rw[X5]
     rcases lF.1 uI with hu|⟨j,d,hd,_,Ks⟩
     ·exact lF.2 (.inl hu)
     ·exact lF.2 (.inr ⟨j,d,hd,rfl,Ks⟩)
    induction fuel with
    |zero=>
     intro eF E a w hs To H9 h
     have GA:Region.ready .any ops eF=[]:=by
      refine List.eq_nil_iff_forall_not_mem.2 fun i hi=> ?_
      obtain⟨o,ho,hL,_⟩:=(mem_ready hs).1 hi
      have Eo:=(Array.getElem?_eq_some_iff.1 ho).1
      have:i∈(List.range ops.size).filter fun i=> !eF.getD i false:=List.mem_filter.2 ⟨List.mem_range.2 Eo,by simp[hL]⟩
      rw[List.eq_nil_of_length_eq_zero To] at this
      cases this
     exact⟨GA,fin eF E a w hs h GA⟩
    |succ fuel ih=>
     intro eF E a w hs To H9 h
     refine⟨fin eF E a w hs h,fun i hi=> ?_⟩
     obtain⟨o,ho,hL,od⟩:=(mem_ready hs).1 hi
     have Eo:=(Array.getElem?_eq_some_iff.1 ho).1
     have aip:(fun j=>(eF.setIfInBounds i true).getD j false)=pS (fun k=>eF.getD k false) i:=by
      funext j;exact wK (by omega)
     refine Sg hT hK Ti hp mf htg PA cq (L:=fun i=>eF.getD i false) H9 Eo hL (fun o' rE p U7=>od p (by rw[ho] at rE;cases rE;exact U7)) h fun E' a' w' h'=> ?_
     refine ih _ E' a' w' (by simpa using hs) ?_ (fun j o' rE hj p U7=> ?_) (by rw[aip];exact h')
     ·have alN:((List.range ops.size).filter fun j=> !(eF.setIfInBounds i true).getD j false).length+1=((List.range ops.size).filter fun j=> !eF.getD j false).length:=by
       have e1:((List.range ops.size).filter fun j=> !(eF.setIfInBounds i true).getD j false)=((List.range ops.size).filter fun j=> !eF.getD j false).erase i:=by
        rw[List.Nodup.erase_eq_filter (List.nodup_range.filter _),List.filter_filter]
        refine List.filter_congr fun j _=> ?_
        rw[wK (by omega)]
        unfold pS
        by_cases uH:j=i
        ·simp[uH]
        ·simp[uH]
       rw[e1,List.length_erase_of_mem (List.mem_filter.2 ⟨List.mem_range.2 Eo,by simp[hL]⟩)]
       omega
      omega
     ·rw[wK (by omega)] at hj ⊢
      unfold pS at hj ⊢
      simp only[Bool.or_eq_true,decide_eq_true_eq] at hj ⊢
      rcases hj with hj|rfl
      ·exact .inl (H9 j o' rE hj p U7)
      ·rw[ho] at rE
       cases rE
       exact .inl (od p U7)
   refine all ops.size _ E a w (by simp) ?_ (fun i o ho hi=> ?_) ?_
   ·have:((List.range ops.size).filter fun i=> !(Array.replicate ops.size false).getD i false)=List.range ops.size:=by
     refine List.filter_eq_self.2 fun i _=> ?_
     simp only[Array.getD_eq_getD_getElem?,Array.getElem?_replicate]
     split<;>rfl
    rw[this,List.length_range]
   ·have:(Array.replicate ops.size false).getD i false=false:=by
     simp only[Array.getD_eq_getD_getElem?,Array.getElem?_replicate]
     split<;>rfl
    rw[this] at hi
    cases hi
   ·have e:(fun i=>(Array.replicate ops.size false).getD i false)=fun _=>false:=by
     funext i
     simp only[Array.getD_eq_getD_getElem?,Array.getElem?_replicate]
     split<;>rfl
    have h2:∀(cs:List Rec) (S:St),kW (fun _=>false) cs S=S:=by
     intro cs
     induction cs with
     |nil=>intro S;rfl
     |cons c cs ih=>intro S;exact ih S
    rw[e,h2]
    exact h
  ·cases hr
end Go.Vc
end

section
set_option linter.unusedVariables false
set_option linter.unusedSimpArgs false
namespace Go.Vc
open Go
variable {P:Program} {X:Ctx} {w0:World} {foot:gF} {base:Mem} {S:St} {E:Env} {a:Act} {w:World} {ctx:c8}
def m9:List (Nat×(c8×SV))→List (Nat×(c8×SV))
 |[]=>[]
 |(n,[],v)::l=>(n,[],v)::m9 l
 |(_,_::_,_)::l=>m9 l
def lI:List (Nat×(c8×SV))→Bool
 |[]=>true
 |(n,_)::l=>(match find l n with
  |some _=>false
  |none=>true)&&lI l
theorem oG:∀{l:List (Nat×(c8×SV))} {n:Nat} {ts:c8} {v:SV},lI l=true→find (m9 l) n=some (ts,v)→find l n=some (ts,v)∧ts=[]
 |[],_,_,_,_,h=>by cases h
 |(m,[],u)::l,n,ts,v,hk,h=>by
  simp only[lI,Bool.and_eq_true] at hk
  unfold m9 find at h
  unfold find
  split at h
  ·rename_i hb;cases h;simp[hb]
  ·exact oG hk.2 h
 |(m,t::QC,u)::l,n,ts,v,hk,h=>by
  simp only[lI,Bool.and_eq_true] at hk
  unfold m9 at h
  obtain⟨h1,h2⟩:=oG hk.2 h
  refine⟨?_,h2⟩
  unfold find
  split
  ·rename_i hb
   have:=Nat.eq_of_beq_eq_true hb
   subst this
   rw[h1] at hk
   cases hk.1
  ·exact h1
def uU (S:St):St:={S with sl:=m9 S.sl}
theorem ep.uU (h:ep w0 foot base S E a w) (hk:lI S.sl=true):ep w0 foot base (uU S) E a w:=
 {toHRel:=h.toHRel
  gZ:=fun n ts v hf ht=>h.gZ n ts v (oG hk hf).1 ht
  size:=h.size
  defers:=h.defers
  pins:=h.pins
  dX:=fun n ts v hf ht=>h.dX n ts v (oG hk hf).1 ht}
def region (X:Ctx) (ops:Array Oper) (draw:Bool) (S:St):Option (List Rec×St):=
 match(match draw with
  |true=>GF X ops S
  |false=>uS X ops ops.toList S) with
 |none=>none
 |some (recs,S')=>match lI S'.sl&&clean S.sl with
  |true=>some (recs,uU S')
  |false=>none
theorem vJ (hT:dt P X.ay) (hK:∀f dy,X.dy f=some dy→mr P f dy) {id:Nat} {ops:Array Oper} {draw:Bool} {recs:List Rec} {S':St} (hr:region X ops draw S=some (recs,S')) (h:ep w0 foot base S E a w)
  (hc:∀p∈pJ recs,p) {Q:Exit→Act→World→Prop} (hQ:∀E' a' w',ep w0 foot base S' E' a' w'→Q .normal a' w'):(Code.region id ops draw).wp P Q a w:=by
 unfold region at hr
 cases draw with
 |false=>
  simp only at hr
  split at hr
  ·cases hr
  ·rename_i QP B3 hs
   split at hr
   ·rename_i hk
    cases hr
    simp only[Bool.and_eq_true] at hk
    replace hk:=hk.1
    refine wp_region ?_
    rw[List.range_eq_range']
    have:=Dc (Q:=Q) hT hK (k:=0) (fun j=>by simp) hs h hc fun E' a' w' h'=>hQ E' a' w' (h'.uU hk)
    simpa using this
   ·cases hr
 |true=>
  simp only at hr
  split at hr
  ·cases hr
  ·rename_i QP B3 hs
   split at hr
   ·rename_i hk
    cases hr
    simp only[Bool.and_eq_true] at hk
    replace hk:=hk.1
    refine wp_region_any hT.mixed ?_
    refine JG (E:=E) hT hK hs ?_ hc fun E' a' w' h'=>hQ E' a' w' (h'.uU hk)
    exact {toHRel:=h.toHRel.drew _,gZ:=h.gZ,size:=h.size,defers:=h.defers,pins:=h.pins,dX:=h.dX}
   ·cases hr
def HP (b:Bool):C→C→Option C
 | .aC t x,.aC t' y=>(Ty.as t y).map fun y'=> .aC t (bif b then x else y')
 | .row t i,.row t' j=>(match t.beq t'&&Nat.beq i j with
  |true=>some (.row t i)
  |false=>none)
 | .ptr i o,.ptr j o'=>(match Nat.beq i j&&Nat.beq o o' with
  |true=>some (.ptr i o)
  |false=>none)
 | .km,.km=>some .km
 | .oZ,.oZ=>some .oZ
 | .map a b n,.map _ _ m=>(match Nat.beq n m with
  |true=>some (.map a b n)
  |false=>none)
 | .pP,.pP=>some .pP
 | .aC (.list t) xs,.km=>some (.aC (.list t) (lit (bif b then Ty.L xs else[])))
 | .km,.aC (.list t) xs=>some (.aC (.list t) (lit (bif b then[] else Ty.L xs)))
 |_,_=>none
def qR (b:Bool):List C→List C→Option (List C)
 |[],[]=>some []
 |c::cs,d::ds=>match HP b c d,qR b cs ds with
  |some e,some es=>some (e::es)
  |_,_=>none
 |_,_=>none
def CM (b:Bool):List (Bool×List C)→List (Bool×List C)→Option (List (Bool×List C))
 |[],[]=>some []
 |(g,cs)::l,(h,ds)::k=>match g==h,qR b cs ds,CM b l k with
  |true,some es,some r=>some ((g,es)::r)
  |_,_,_=>none
 |_,_=>none
def CO (b:Bool):SV→SV→Option SV
 | .one c,.one d=>(HP b c d).map .one
 | .agg cs,.agg ds=>(qR b cs ds).map .agg
 | .yb l,.yb k=>(CM b l k).map .yb
 |_,_=>none
def yU (b:Bool):c5→c5→Option c5
 | .cells cs,.cells ds=>(qR b cs ds).map .cells
 | .row iZ e t xs,.row Ii e' t' ys=>(match iZ==Ii&&(Nat.beq e e') with
  |true=>(Ty.as (a:= .list t') (.list t) (lit ys)).map fun Qt=> .row iZ e t (bif b then xs else Ty.L Qt)
  |false=>none)
 | .map iZ k v m _,.map Ii k' v' m' _=>(match iZ==Ii with
  |true=>(Ty.as (a:= .map k' v') (.map k v) m').map fun n=> .map iZ k v (bif b then m else Ty.M n) none
  |false=>none)
 |_,_=>none
def qQ (b:Bool) (ch:List Loc) (s2:List (Nat×(c8×SV))):List (Nat×(c8×SV))→List (Nat×(c8×SV))
 |[]=>[]
 |(n,ts,v)::l=>match pk ch (.slot n) with
  |false=>(n,ts,v)::qQ b ch s2 l
  |true=>match ts,find s2 n with
   |[],some ([],v')=>(match CO b v v' with
    |some u=>(n,[],u)::qQ b ch s2 l
    |none=>qQ b ch s2 l)
   |_,_=>qQ b ch s2 l
def Aa (b:Bool) (ch:List Loc) (b2:List (Nat×c5)):List (Nat×c5)→Option (List (Nat×c5))
 |[]=>some []
 |(n,B)::l=>match Aa b ch b2 l with
  |none=>none
  |some r=>match pk ch (.bc n) with
   |false=>some ((n,B)::r)
   |true=>match find b2 n with
    |none=>some r
    |some B'=>(match yU b B B' with
     |some D=>some ((n,D)::r)
     |none=>none)
def Dy:List (Nat×c5)→Bool
 |[]=>true
 |(n,_)::l=>(match find l n with
  |some _=>false
  |none=>true)&&Dy l
def join (b:Bool) (ch:List Loc) (S1 S2:St):Option St:=
 match lI S1.sl&&(Dy S1.bl&&(lI S2.sl&&(Dy S2.bl&&CB S1.oA S2.oA))),Aa b ch S2.bl S1.bl with
 |true,some bl=>some {sl:=qQ b ch S2.sl S1.sl,bl:=bl,used:=S1.used++S2.used,n:=S1.n,oA:=S1.oA}
 |_,_=>none
def ZT (b want:Bool) (p:Prop):Prop:=b=want→p
def ex (X:Ctx):Code→St→Option (List Prop×List Loc×St)
 | .skip,S=>some ([],[],S)
 | .region _ ops draw,S=>match region X ops draw S with
  |some (recs,S')=>some (pJ recs,recs.flatMap (fun c=>b7.ws c.o c.r),S')
  |none=>none
 | .seq a b,S=>match ex X a S with
  |some (c1,h1,S1)=>(match ex X b S1 with
   |some (c2,h2,S2)=>some (c1++c2,h1++h2,S2)
   |none=>none)
  |none=>none
 | .cond c x y,S=>match(do JK (←ev c):RM Bool).run S [] with
  |some b=>(match ex X x S,ex X y S with
   |some (c1,h1,S1),some (c2,h2,S2)=>(match join b (h1++h2) S1 S2 with
    |some S'=>some (c1.map (ZT b true)++c2.map (ZT b false),h1++h2,S')
    |none=>none)
   |_,_=>none)
  |none=>none
 | .block _ c,S=>ex X c S
 | .scope c,S=>ex X c S
 | .label _,S=>some ([],[],S)
 |_,_=>none
theorem uG {b:Bool} {c d e:C} {v:Value} (h:HP b c d=some e) (hv:gO E (bif b then c else d) v):gO E e v:=by
 unfold HP at h
 split at h
 ·obtain⟨y',h1,rfl⟩:=Option.map_eq_some_iff.1 h
  obtain⟨ee,rfl⟩:=Ty.iJ h1
  subst ee
  cases b<;>exact hv
 ·split at h
  ·rename_i hb
   simp only[Bool.and_eq_true] at hb
   cases h
   have h1:=Ty.beq_eq hb.1
   have h2:=Nat.eq_of_beq_eq_true hb.2
   subst h1 h2
   cases b<;>exact hv
  ·cases h
 ·split at h
  ·rename_i hb
   simp only[Bool.and_eq_true] at hb
   cases h
   have h1:=Nat.eq_of_beq_eq_true hb.1
   have h2:=Nat.eq_of_beq_eq_true hb.2
   subst h1 h2
   cases b<;>exact hv
  ·cases h
 ·cases h;cases b<;>exact hv
 ·cases h;cases b<;>exact hv
 ·split at h
  ·rename_i hb
   cases h
   have h1:=Nat.eq_of_beq_eq_true hb
   subst h1
   cases b<;>exact hv
  ·cases h
 ·cases h;cases b<;>exact hv
 ·cases h
  cases b
  ·have hv:v=_:=hv
   subst hv
   exact⟨rfl,none,0,rfl,Nat.le_refl _,by simp[aK],fun _=>rfl,fun p hp=>by cases hp⟩
  ·exact hv
 ·cases h
  cases b
  ·exact hv
  ·have hv:v=_:=hv
   subst hv
   exact⟨rfl,none,0,rfl,Nat.le_refl _,by simp[aK],fun _=>rfl,fun p hp=>by cases hp⟩
 ·cases h
theorem oD {b:Bool}:∀{cs ds es:List C} {vs:List Value},qR b cs ds=some es→b5 E (bif b then cs else ds) vs→b5 E es vs
 |[],[],es,vs,h,hv=>by cases h;cases b<;>exact hv
 |c::cs,d::ds,es,vs,h,hv=>by
  unfold qR at h
  split at h
  ·rename_i e vV h1 h2
   cases h
   cases b
   ·obtain⟨v,us,rfl,k1,k2⟩:=hv
    exact⟨v,us,rfl,uG h1 k1,oD h2 k2⟩
   ·obtain⟨v,us,rfl,k1,k2⟩:=hv
    exact⟨v,us,rfl,uG h1 k1,oD h2 k2⟩
  ·cases h
 |[],_::_,es,vs,h,hv=>by cases h
 |_::_,[],es,vs,h,hv=>by cases h
theorem FA {b:Bool} {c d:C} {es:List C} (h:qR b [c] [d]=some es):∃e,es=[e]∧HP b c d=some e:=by
 unfold qR at h
 split at h
 ·rename_i e vV h1 h2
  cases h
  cases h2
  exact⟨e,rfl,h1⟩
 ·cases h
theorem FB {b:Bool}:∀{cs ds es:List C},qR b cs ds=some es→cs.length=ds.length
 |[],[],es,h=>rfl
 |c::cs,d::ds,es,h=>by
  unfold qR at h
  split at h
  ·rename_i e vV h1 h2
   simp[FB h2]
  ·cases h
 |[],_::_,es,h=>by cases h
 |_::_,[],es,h=>by cases h
theorem AV {g:Bool} {cs ds es:List C} {b:Bool} (h1:qR b cs ds=some es) {v:Value} (hp:match(generalizing:=false) g with |true=>∃ws,v= .agg ws∧b5 E (bif b then cs else ds) ws.toList|false=>∃c,(bif b then cs else ds)=[c]∧gO E c v):
  (match(generalizing:=false) g with |true=>∃ws,v=Value.agg ws∧b5 E es ws.toList|false=>∃c,es=[c]∧gO E c v):=by
 cases g with
 |true=>obtain⟨ws,rfl,hp⟩:=hp;exact⟨ws,rfl,oD h1 hp⟩
 |false=>
  obtain⟨c,hc,hp⟩:=hp
  have hl:=FB h1
  cases b with
  |true=>
   simp only[cond_true] at hc
   subst hc
   obtain⟨d,rfl⟩:∃d,ds=[d]:=by
    cases ds with
    |nil=>simp at hl
    |cons d ds'=>cases ds' with
     |nil=>exact⟨d,rfl⟩
     |cons _ _=>simp at hl
   obtain⟨e,rfl,he⟩:=FA h1
   exact⟨e,rfl,uG he hp⟩
  |false=>
   simp only[cond_false] at hc
   subst hc
   obtain⟨d,rfl⟩:∃d,cs=[d]:=by
    cases cs with
    |nil=>simp at hl
    |cons d ds'=>cases ds' with
     |nil=>exact⟨d,rfl⟩
     |cons _ _=>simp at hl
   obtain⟨e,rfl,he⟩:=FA h1
   exact⟨e,rfl,uG he hp⟩
theorem tb {b:Bool}:∀{l k r:List (Bool×List C)} {vs:List Value},CM b l k=some r→ft.go E (bif b then l else k) vs→ft.go E r vs
 |[],[],r,vs,h,hv=>by cases h;cases b<;>exact hv
 |(g,cs)::l,(g',ds)::k,r,vs,h,hv=>by
  unfold CM at h
  split at h
  ·rename_i es r' hg h1 h2
   cases h
   have hg:g=g':=by simpa using hg
   subst hg
   cases b with
   |true=>
    obtain⟨v,us,rfl,k1,k2⟩:=hv
    exact⟨v,us,rfl,AV h1 k1,tb (b:=true) h2 k2⟩
   |false=>
    obtain⟨v,us,rfl,k1,k2⟩:=hv
    exact⟨v,us,rfl,AV h1 k1,tb (b:=false) h2 k2⟩
  ·cases h
 |[],_::_,r,vs,h,hv=>by cases h
 |_::_,[],r,vs,h,hv=>by cases h
theorem O8 {b:Bool} {s t u:SV} {v:Value} (h:CO b s t=some u) (hv:ft E (bif b then s else t) v):ft E u v:=by
 unfold CO at h
 split at h
 ·obtain⟨c,h1,rfl⟩:=Option.map_eq_some_iff.1 h
  exact uG h1 (by cases b<;>exact hv)
 ·obtain⟨c,h1,rfl⟩:=Option.map_eq_some_iff.1 h
  cases b
  ·obtain⟨vs,rfl,k⟩:=hv;exact⟨vs,rfl,oD h1 k⟩
  ·obtain⟨vs,rfl,k⟩:=hv;exact⟨vs,rfl,oD h1 k⟩
 ·obtain⟨c,h1,rfl⟩:=Option.map_eq_some_iff.1 h
  cases b
  ·obtain⟨vs,rfl,k⟩:=hv;exact⟨vs,rfl,tb h1 k⟩
  ·obtain⟨vs,rfl,k⟩:=hv;exact⟨vs,rfl,tb h1 k⟩
 ·cases h
theorem MN {b:Bool} {B B' D:c5} {p:Place} (h:yU b B B'=some D) (hv:fX E w p (bif b then B else B')):fX E w p D∧D.mut=(bif b then B else B').mut:=by
 unfold yU at h
 split at h
 ·obtain⟨c,h1,rfl⟩:=Option.map_eq_some_iff.1 h
  cases b
  ·obtain⟨h0,vs,e,k1,k2⟩:=hv;exact⟨⟨h0,vs,e,k1,oD h1 k2⟩,rfl⟩
  ·obtain⟨h0,vs,e,k1,k2⟩:=hv;exact⟨⟨h0,vs,e,k1,oD h1 k2⟩,rfl⟩
 ·split at h
  ·rename_i hb
   simp only[Bool.and_eq_true,beq_iff_eq] at hb
   obtain⟨Qt,h1,rfl⟩:=Option.map_eq_some_iff.1 h
   obtain⟨h2,h3⟩:=hb
   have h3:=Nat.eq_of_beq_eq_true h3
   subst h2 h3
   obtain⟨ee,rfl⟩:=Ty.iJ h1
   cases ee
   cases b
   ·exact⟨hv,rfl⟩
   ·exact⟨hv,rfl⟩
  ·cases h
 ·split at h
  ·rename_i hb
   simp only[beq_iff_eq] at hb
   obtain⟨n,h1,rfl⟩:=Option.map_eq_some_iff.1 h
   subst hb
   obtain⟨ee,rfl⟩:=Ty.iJ h1
   cases ee
   cases b
   ·obtain⟨h0,es,cl,k1,k2,k3⟩:=hv;exact⟨⟨h0,es,cl,k1,k2,k3.none⟩,rfl⟩
   ·obtain⟨h0,es,cl,k1,k2,k3⟩:=hv;exact⟨⟨h0,es,cl,k1,k2,k3.none⟩,rfl⟩
  ·cases h
 ·cases h
theorem CN {b:Bool} {ch:List Loc} {s2:List (Nat×(c8×SV))}:∀{l:List (Nat×(c8×SV))} {n:Nat} {ts:c8} {u:SV},lI l=true→find (qQ b ch s2 l) n=some (ts,u)→
  (find l n=some (ts,u)∧pk ch (.slot n)=false)∨∃v v',find l n=some ([],v)∧find s2 n=some ([],v')∧CO b v v'=some u∧ts=[]
 |[],_,_,_,_,h=>by cases h
 |(m,QC,v)::l,n,ts,u,hk,h=>by
  simp only[lI,Bool.and_eq_true] at hk
  have step:find (qQ b ch s2 l) n=some (ts,u)→(find ((m,QC,v)::l) n=some (ts,u)∧pk ch (.slot n)=false)∨∃v1 v',find ((m,QC,v)::l) n=some ([],v1)∧find s2 n=some ([],v')∧CO b v1 v'=some u∧ts=[]:=fun h=>by
   have RP:∀x,find l n=some x→find ((m,QC,v)::l) n=some x:=fun x hx=>by
    unfold find
    split
    ·rename_i hb
     have:=Nat.eq_of_beq_eq_true hb
     subst this
     rw[hx] at hk
     cases hk.1
    ·exact hx
   rcases CN hk.2 h with ⟨h1,h2⟩|⟨v1,v',h1,h2⟩
   ·exact .inl ⟨RP _ h1,h2⟩
   ·exact .inr ⟨v1,v',RP _ h1,h2⟩
  unfold qQ at h
  split at h
  ·rename_i hc
   unfold find at h
   split at h
   ·rename_i hb
    cases h
    have:=Nat.eq_of_beq_eq_true hb
    subst this
    exact .inl ⟨by simp[find],hc⟩
   ·exact step h
  ·split at h
   ·rename_i v' hf
    split at h
    ·rename_i u' hu
     unfold find at h
     split at h
     ·rename_i hb
      cases h
      have:=Nat.eq_of_beq_eq_true hb
      subst this
      exact .inr ⟨v,v',by simp[find],hf,hu,rfl⟩
     ·exact step h
    ·exact step h
   ·exact step h
theorem CP {b:Bool} {ch:List Loc} {b2:List (Nat×c5)}:∀{l r:List (Nat×c5)} {n:Nat} {D:c5},Dy l=true→Aa b ch b2 l=some r→find r n=some D→
  (find l n=some D∧pk ch (.bc n)=false)∨∃B B',find l n=some B∧find b2 n=some B'∧yU b B B'=some D
 |[],r,n,D,_,h,hf=>by cases h;cases hf
 |(m,B)::l,r,n,D,hk,h,hf=>by
  simp only[Dy,Bool.and_eq_true] at hk
  unfold Aa at h
  split at h
  ·cases h
  ·rename_i r' M4
   have step:find r' n=some D→(find ((m,B)::l) n=some D∧pk ch (.bc n)=false)∨∃B1 B',find ((m,B)::l) n=some B1∧find b2 n=some B'∧yU b B1 B'=some D:=fun hf=>by
    have RP:∀x,find l n=some x→find ((m,B)::l) n=some x:=fun x hx=>by
     unfold find
     split
     ·rename_i hb
      have:=Nat.eq_of_beq_eq_true hb
      subst this
      rw[hx] at hk
      cases hk.1
     ·exact hx
    rcases CP hk.2 M4 hf with ⟨h1,h2⟩|⟨v1,v',h1,h2⟩
    ·exact .inl ⟨RP _ h1,h2⟩
    ·exact .inr ⟨v1,v',RP _ h1,h2⟩
   split at h
   ·rename_i hc
    cases h
    unfold find at hf
    split at hf
    ·rename_i hb
     cases hf
     have:=Nat.eq_of_beq_eq_true hb
     subst this
     exact .inl ⟨by simp[find],hc⟩
    ·exact step hf
   ·split at h
    ·cases h;exact step hf
    ·rename_i B' zc
     split at h
     ·rename_i D' Vj
      cases h
      unfold find at hf
      split at hf
      ·rename_i hb
       cases hf
       have:=Nat.eq_of_beq_eq_true hb
       subst this
       exact .inr ⟨B,B',by simp[find],zc,Vj⟩
      ·exact step hf
     ·cases h
theorem Fy {b:Bool} {ch:List Loc} {S1 S2 S':St} (hj:join b ch S1 S2=some S') (HU:∀l,l∉ch→gP S1 S2 l) (hn:S1.n=S2.n) (h:ep w0 foot base (bif b then S1 else S2) E a w):ep w0 foot base S' E a w:=by
 unfold join at hj
 split at hj
 ·rename_i bl hk pH
  cases hj
  simp only[Bool.and_eq_true] at hk
  have XI:=Br hk.2.2.2.2
  obtain⟨k1,k2,k3,k4⟩:=hk
  have Tl:∀l,pk ch l=false→l∉ch:=fun l hl hm=>by rw[vo.2 hm] at hl;cases hl
  have oF:∀n D,find bl n=some D→∃B,find (bif b then S1 else S2).bl n=some B∧(∀p,fX E w p B→fX E w p D∧D.mut=B.mut):=fun n D hf=>by
   rcases CP k2 pH hf with ⟨h1,h2⟩|⟨B,B',h1,h2,h3⟩
   ·have Gf:=HU (.bc n) (Tl _ h2)
    have Gf:find S2.bl n=find S1.bl n:=Gf
    refine⟨D,?_,fun p hp=>⟨hp,rfl⟩⟩
    cases b
    ·show find S2.bl n=_;rw[Gf];exact h1
    ·exact h1
   ·refine⟨bif b then B else B',?_,fun p hp=>MN h3 hp⟩
    cases b
    ·exact h2
    ·exact h1
  have XD:∀n ts u,find (qQ b ch S2.sl S1.sl) n=some (ts,u)→∃v,find (bif b then S1 else S2).sl n=some (ts,v)∧(∀x,ft E v x→ft E u x):=fun n ts u hf=>by
   rcases CN k1 hf with ⟨h1,h2⟩|⟨v,v',h1,h2,h3,rfl⟩
   ·have Gf:=HU (.slot n) (Tl _ h2)
    have Gf:find S2.sl n=find S1.sl n:=Gf
    refine⟨u,?_,fun x hx=>hx⟩
    cases b
    ·show find S2.sl n=_;rw[Gf];exact h1
    ·exact h1
   ·refine⟨bif b then v else v',?_,fun x hx=>O8 h3 hx⟩
    cases b
    ·exact h2
    ·exact h1
  refine {keep:=h.keep,mW:=h.mW,src:=h.src,ck:=fun id D hf=> ?_,own:=fun id D p hf hp o3=> ?_,inj:=fun id MV D D' p p' hf eh hp dj o3 Kr jS=> ?_,used:=fun id p hp=> ?_,gZ:=fun n ts u hf ht=> ?_,size:= ?_,defers:=h.defers,pins:=fun n p h1=> ?_,dX:=fun n ts u hf ht=> ?_}
  ·obtain⟨B,hB,En⟩:=oF id D hf
   obtain⟨p,hp,k⟩:=h.ck id B hB
   exact⟨p,hp,(En p k).1⟩
  ·obtain⟨B,hB,En⟩:=oF id D hf
   obtain⟨q,hq,k⟩:=h.ck id B hB
   rw[hp] at hq
   cases hq
   have:=h.own id B p hB hp o3
   exact⟨this.1,fun hm=>this.2 (by rw[←(En p k).2];exact hm)⟩
  ·obtain⟨B,hB,_⟩:=oF id D hf
   obtain⟨B',zc,_⟩:=oF MV D' eh
   exact h.inj id MV B B' p p' hB zc hp dj o3 Kr jS
  ·have:=h.used id p hp
   cases b
   ·exact List.mem_append_right _ this
   ·exact List.mem_append_left _ this
  ·obtain⟨v,hv,En⟩:=XD n ts u hf
   exact En _ (h.gZ n ts v hv ht)
  ·have:=h.size
   cases b
   ·rw[this];exact hn.symm
   ·exact this
  ·have:=h.pins n p h1
   cases b
   ·exact⟨by show n∈S1.oA;rw[XI];exact this.1,this.2⟩
   ·exact this
  ·obtain⟨v,hv,_⟩:=XD n ts u hf
   exact h.dX n ts v hv ht
 ·cases hj
theorem ei {α:Type} {m n:Nat} {x:α} {l:List (Nat×α)} (h:m≠n):find ((m,x)::l) n=find l n:=by
 have:Nat.beq m n=false:=by
  cases hb:Nat.beq m n with
  |false=>rfl
  |true=>exact absurd (Nat.eq_of_beq_eq_true hb) h
 simp only[find,this]
theorem wN {α:Type} {m n:Nat} {x:α} {l k:List (Nat×α)} (h:find l n=find k n):find ((m,x)::l) n=find ((m,x)::k) n:=by
 simp only[find,h]
theorem AU {b:Bool} {ch:List Loc} {s2:List (Nat×(c8×SV))}:∀{l:List (Nat×(c8×SV))} {n:Nat},pk ch (.slot n)=false→find (qQ b ch s2 l) n=find l n
 |[],_,_=>rfl
 |(m,ts,v)::l,n,h=>by
  have ih:=AU (b:=b) (s2:=s2) (l:=l) h
  unfold qQ
  split
  ·exact wN ih
  ·rename_i hm
   have jS:m≠n:=fun e=>by subst e;rw[h] at hm;cases hm
   rw[ei jS]
   split
   ·split
    ·rw[ei jS];exact ih
    ·exact ih
   ·exact ih
theorem AW {b:Bool} {ch:List Loc} {b2:List (Nat×c5)}:∀{l r:List (Nat×c5)} {n:Nat},pk ch (.bc n)=false→Aa b ch b2 l=some r→find r n=find l n
 |[],r,_,_,h=>by cases h;rfl
 |(m,B)::l,r,n,hn,h=>by
  unfold Aa at h
  split at h
  ·cases h
  ·rename_i r' M4
   have ih:=AW hn M4
   split at h
   ·cases h;exact wN ih
   ·rename_i hm
    have jS:m≠n:=fun e=>by subst e;rw[hn] at hm;cases hm
    rw[ei jS]
    split at h
    ·cases h;exact ih
    ·split at h
     ·cases h
      rw[ei jS];exact ih
     ·cases h
theorem O7 {b:Bool} {ch:List Loc} {S1 S2 S':St} (hj:join b ch S1 S2=some S') {l:Loc} (hl:l∉ch):gP S1 S' l:=by
 have hl:pk ch l=false:=by
  cases h:pk ch l with
  |false=>rfl
  |true=>exact absurd (vo.1 h) hl
 unfold join at hj
 split at hj
 ·rename_i bl hk pH
  cases hj
  cases l with
  |slot n=>exact AU hl
  |bc n=>exact AW hl pH
 ·cases hj
theorem Z9 {b:Bool} {ch:List Loc} {S1 S2 S':St} (hj:join b ch S1 S2=some S'):S'.n=S1.n:=by
 unfold join at hj
 split at hj
 ·cases hj;rfl
 ·cases hj
theorem pq:∀{l:List (Nat×(c8×SV))} {n:Nat} {v:SV},find l n=some ([],v)→find (m9 l) n=some ([],v)
 |[],_,_,h=>by cases h
 |(m,[],u)::l,n,v,h=>by
  unfold m9
  by_cases e:m=n
  ·subst e
   simpa [find] using h
  ·rw[ei e] at h ⊢
   exact pq h
 |(m,t::QC,u)::l,n,v,h=>by
  unfold m9
  unfold find at h
  split at h
  ·cases h
  ·exact pq h
theorem IJ {S S':St} (hk:lI S'.sl=true) (mf:Go.Vc.clean S.sl=true) {l:Loc} (h:gP S S' l):gP S (uU S') l:=by
 cases l with
 |bc n=>exact h
 |slot n=>
  have h:find S'.sl n=find S.sl n:=h
  show find (m9 S'.sl) n=find S.sl n
  rw[←h]
  cases hf:find S'.sl n with
  |none=>
   cases hd:find (m9 S'.sl) n with
   |none=>rfl
   |some x=>
    obtain⟨ts,v⟩:=x
    rw[(oG hk hd).1] at hf
    cases hf
  |some x=>
   obtain⟨ts,v⟩:=x
   have:=vD mf n ts v (h▸hf)
   subst this
   exact pq hf
theorem Dd {ops:Array Oper}:∀{l:List Oper} {S:St} {recs:List Rec} {S':St},uS X ops l S=some (recs,S')→(∀loc,loc∉recs.flatMap (fun c=>b7.ws c.o c.r)→gP S S' loc)∧S'.n=S.n
 |[],S,recs,S',h=>by
  cases h
  exact⟨fun loc _=>gP.refl _ _,rfl⟩
 |o::l,S,recs,S',h=>by
  unfold uS at h
  split at h
  ·cases h
  ·rename_i c hc
   split at h
   ·cases h
   ·rename_i cs B3 hs
    cases h
    obtain⟨h1,h2⟩:=Dd hs
    obtain⟨_,_,_,_,_,_,ho,_⟩:=oR hc
    refine⟨fun loc hl=> ?_,h2⟩
    simp only[List.flatMap_cons,List.mem_append,not_or] at hl
    rw[ho] at hl
    exact(w6 hl.1).trans (h1 loc hl.2)
theorem Jq {ops:Array Oper} {draw:Bool} {recs:List Rec} {S S':St} (hr:region X ops draw S=some (recs,S')):(∀loc,loc∉recs.flatMap (fun c=>b7.ws c.o c.r)→gP S S' loc)∧S'.n=S.n:=by
 unfold region at hr
 have key:∀B3,uS X ops ops.toList S=some (recs,B3)→lI B3.sl=true→Go.Vc.clean S.sl=true→uU B3=S'→(∀loc,loc∉recs.flatMap (fun c=>b7.ws c.o c.r)→gP S S' loc)∧S'.n=S.n:=fun B3 hs hk mf e=>by
  subst e
  obtain⟨h1,h2⟩:=Dd hs
  exact⟨fun loc hl=>IJ hk mf (h1 loc hl),h2⟩
 split at hr
 ·cases hr
 ·rename_i QP B3 hs
  split at hr
  ·rename_i hk
   cases hr
   simp only[Bool.and_eq_true] at hk
   cases draw with
   |false=>exact key _ hs hk.1 hk.2 rfl
   |true=>
    simp only at hs
    unfold GF at hs
    split at hs
    ·cases hs
    ·rename_i r1 S1 Bx
     split at hs
     ·cases hs
      exact key _ Bx hk.1 hk.2 rfl
     ·cases hs
  ·cases hr
theorem rL (hT:dt P X.ay) (hK:∀f dy,X.dy f=some dy→mr P f dy):∀{c:Code} {S S':St} {cs:List Prop} {ch:List Loc},ex X c S=some (cs,ch,S')→
  ((∀l,l∉ch→gP S S' l)∧S'.n=S.n)∧∀{E:Env} {a:Act} {w:World},ep w0 foot base S E a w→(∀p∈cs,p)→∀{Q:Exit→Act→World→Prop},(∀E' a' w',ep w0 foot base S' E' a' w'→Q .normal a' w')→c.wp P Q a w
 | .skip,S,S',cs,ch,h=>by
  cases h
  exact⟨⟨fun l _=>gP.refl _ _,rfl⟩,fun hR _ Q hQ=>wp_skip (hQ _ _ _ hR)⟩
 | .region id ops draw,S,S',cs,ch,h=>by
  unfold ex at h
  split at h
  ·rename_i recs B3 hr
   cases h
   exact⟨Jq hr,fun hR hc Q hQ=>vJ hT hK hr hR hc hQ⟩
  ·cases h
 | .seq x y,S,S',cs,ch,h=>by
  unfold ex at h
  split at h
  ·rename_i c1 h1 S1 hx
   split at h
   ·rename_i c2 h2 S2 hy
    cases h
    obtain⟨⟨fx,nx⟩,sx⟩:=rL hT hK hx
    obtain⟨⟨fy,ny⟩,sy⟩:=rL hT hK hy
    refine⟨⟨fun l hl=> ?_,ny.trans nx⟩,fun hR hc Q hQ=> ?_⟩
    ·simp only[List.mem_append,not_or] at hl
     exact(fx l hl.1).trans (fy l hl.2)
    ·refine wp_seq (sx hR (fun p hp=>hc p (List.mem_append_left _ hp)) fun E' a' w' h'=> ?_)
     exact sy h' (fun p hp=>hc p (List.mem_append_right _ hp)) hQ
   ·cases h
  ·cases h
 | .cond c x y,S,S',cs,ch,h=>by
  unfold ex at h
  split at h
  ·rename_i b hb
   split at h
   ·rename_i c1 h1 S1 c2 h2 S2 hx hy
    split at h
    ·rename_i Sj hj
     cases h
     obtain⟨⟨fx,nx⟩,sx⟩:=rL hT hK hx
     obtain⟨⟨fy,ny⟩,sy⟩:=rL hT hK hy
     have HU:∀l,l∉h1++h2→gP S1 S2 l:=fun l hl=>by
      simp only[List.mem_append,not_or] at hl
      exact(fx l hl.1).symm.trans (fy l hl.2)
     have wG:S1.n=S2.n:=nx.trans ny.symm
     refine⟨⟨fun l hl=> ?_,?_⟩,fun {E a w} hR hc Q hQ=> ?_⟩
     ·exact(fx l (fun hm=>hl (List.mem_append_left _ hm))).trans (O7 hj hl)
     ·exact(Z9 hj).trans nx
     ·obtain⟨s,e1,e2⟩:=RM.run_bind' hb
      have hv:=zx (gj hR.toSRel (fun t ht=>by cases ht) e1) e2
      refine wp_cond_split hv (fun ht=> ?_) (fun ht=> ?_)
      ·refine sx hR (fun p hp=> ?_) fun E' a' w' h'=> ?_
       ·exact hc (ZT b true p) (List.mem_append_left _ (List.mem_map_of_mem hp)) ht
       ·exact hQ E' a' w' (Fy hj HU wG (by rw[ht];exact h'))
      ·refine sy hR (fun p hp=> ?_) fun E' a' w' h'=> ?_
       ·exact hc (ZT b false p) (List.mem_append_right _ (List.mem_map_of_mem hp)) ht
       ·exact hQ E' a' w' (Fy hj HU wG (by rw[ht];exact h'))
    ·cases h
   ·cases h
  ·cases h
 | .block id c,S,S',cs,ch,h=>by
  unfold ex at h
  obtain⟨f,s⟩:=rL hT hK h
  exact⟨f,fun hR hc Q hQ=>wp_block (s hR hc fun E' a' w' h'=>hQ E' a' w' h')⟩
 | .loop _,_,_,_,_,h=>by cases h
 | .rangeFunc _ _ _ _,_,_,_,_,h=>by cases h
 | .exit _,_,_,_,_,h=>by cases h
 | .scope c,S,S',cs,ch,h=>by
  unfold ex at h
  obtain⟨f,s⟩:=rL hT hK h
  exact⟨f,fun hR hc Q hQ=>wp_scope_straight (s hR hc fun E' a' w' h'=>hQ E' a' w' h')⟩
 | .label _,S,S',cs,ch,h=>by
  cases h
  exact⟨⟨fun l _=>gP.refl _ _,rfl⟩,fun hR _ Q hQ=>wp_label (hQ _ _ _ hR)⟩
 | .goto _,_,_,_,_,h=>by cases h
 | .ret,_,_,_,_,h=>by cases h
end Go.Vc
end

section
set_option linter.unusedVariables false
set_option linter.unusedSimpArgs false
namespace Go.Vc
open Go
variable {P:Program} {X:Ctx} {w0:World} {foot:gF} {base:Mem} {S:St} {E:Env} {a:Act} {w:World} {ctx:c8}
def uT:List Prop→Prop→Prop
 |[],q=>q
 |p::ps,q=>p∧uT ps q
theorem iR:∀{ps:List Prop} {q:Prop},uT ps q→(∀p∈ps,p)∧q
 |[],q,h=>⟨fun p hp=>(by cases hp),h⟩
 |p::ps,q,h=>⟨fun r hr=>by
   rcases List.mem_cons.1 hr with rfl|hr
   ·exact h.1
   ·exact(iR h.2).1 r hr,(iR h.2).2⟩
abbrev kO:=List (Nat×Bool)
def ng (D:kO) (a:Act):Prop:=∀t v,find D t=some v→a.tmps[t]? =some (.bool v)
def vp (D:kO):Operand→Option Bool
 | .tmp t=>find D t
 | .const (.bool v)=>some v
 |_=>none
def EZ (D:kO) (dst:Option Nat) (v:Option Bool):kO:=
 match dst with
 |none=>D
 |some d=>match v with
  |some b=>put D d b
  |none=>rem D d
def rp (X:Ctx) (D:kO) (o:Oper):RM b7×Option Bool:=
 match o.op with
 | .pick (.tmp c) x y=>(match find D c with
  |some true=>(do kH (←ev x),vp D x)
  |some false=>(do kH (←ev y),vp D y)
  |none=>(fE X o,none))
 | .move x=>(do kH (←ev x),vp D x)
 | .assign x=>(do kH (←ev x),vp D x)
 |_=>(fE X o,none)
def yV:Operand→Bool
 | .const (.slice none 0 0)=>true
 |_=>false
def Cy (S:St):SV→Option Prop
 | .one (.aC (.list _) xs)=>some (Ty.L xs=[])
 | .one (.row _ b)=>(match find S.bl b with
  |some (.row _ _ _ xs)=>some (xs=[])
  |_=>none)
 |_=>none
def Mu (X:Ctx) (S:St) (o:Oper):Option (Bool×Prop):=
 match o.op with
 | .binOp op t x y _=>(match yV y,op with
  |true,.eql=>(match(do let i ←ti X t;let s ←ev x;return (i.d,s):RM (TD×SV)).run S [] with
   |some (.slice _,s)=>(match Cy S s with
    |some p=>some (false,p)
    |none=>none)
   |_=>none)
  |true,.neq=>(match(do let i ←ti X t;let s ←ev x;return (i.d,s):RM (TD×SV)).run S [] with
   |some (.slice _,s)=>(match Cy S s with
    |some p=>some (true,p)
    |none=>none)
   |_=>none)
  |_,_=>none)
 |_=>none
def Xc (neg b:Bool):Bool:=
 match neg with
 |true=> !b
 |false=>b
def GU (X:Ctx) (o:Oper) (S:St) (D:kO) (next:St→kO→Prop):Prop:=
 match Mu X S o with
 |some (neg,p)=>(match zr S [] o with
  |true=>∀b:Bool,(b=true→p)→next (fO S o [] {val:=some (.one (.aC .bool (Xc neg b)))}) (EZ D o.dst none)
  |false=>False)
 |none=>match(rp X D o).1.run S [] with
  |none=>False
  |some r=>(match zr S [] o&&tV S.used r.new with
   |true=>uT r.conds (next (fO S o [] r) (EZ D o.dst (rp X D o).2))
   |false=>False)
def zG (X:Ctx) (o:Oper) (S:St) (D:kO) (next:St→kO→Prop):Prop:=
 match MO S o with
 |some i=>(match zr S [] o with
  |true=>(i.todo=[]→next (fO S o [] DV) (EZ D o.dst none))∧
    ∀(x:i.a.den×i.b.den) (rest:List (i.a.den×i.b.den)),i.todo.Perm (x::rest)→next (fO S o [] (SQ i.d i.a i.b x rest)) (EZ D o.dst none)
  |false=>False)
 |none=>GU X o S D next
def Qc (S:St) (n:Nat):Option Bool:=
 match find S.sl n with
 |some ([],.one (.aC .bool b))=>some (Ty.B b)
 |_=>none
def IB (S:St) (dst:Option Nat):St:=
 match dst with
 |none=>S
 |some d=>{S with sl:=rem S.sl d}
def vI (X:Ctx) (ops:Array Oper):List Oper→St→kO→(St→Prop)→Prop
 |[],S,D,k=>k S
 |o::l,S,D,k=>match o.guard with
  |none=>zG X o S D (fun S D=>vI X ops l S D k)
  |some (j,want)=>match(ops[j]?).bind (·.dst) with
   |none=>False
   |some d=>match find D d with
    |some v=>(match v==want with
     |true=>zG X o S D (fun S D=>vI X ops l S D k)
     |false=>vI X ops l (IB S o.dst) (EZ D o.dst none) k)
    |none=>match Qc S d with
     |some b=>(b=want→zG X o S (put D d want) (fun S D=>vI X ops l S D k))∧(b= !want→vI X ops l (IB S o.dst) (EZ (put D d (!want)) o.dst none) k)
     |none=>False
theorem CJ {D:kO} (hD:ng D a) {x:Operand} {b:Bool} (h:vp D x=some b):a.eval x= .bool b:=by
 unfold vp at h
 split at h
 ·rename_i t
  have:=hD t b h
  show a.tmps.getD t undef=_
  rw[Array.getD_eq_getD_getElem?,this]
  rfl
 ·cases h;rfl
 ·cases h
theorem ng.put {D:kO} (hD:ng D a) {d:Nat} {v:Bool} (h:a.tmps[d]? =some (.bool v)):ng (Go.Vc.put D d v) a:=fun t u hf=>by
 by_cases e:d=t
 ·subst e
  rw[bO] at hf
  cases hf
  exact h
 ·rw[bk _ _ _ _ e] at hf
  exact hD t u hf
theorem ng.set {D:kO} (hD:ng D a) {dst:Option Nat} {kn:Option Bool} {v:Value} (hk:∀b,kn=some b→v= .bool b) (dK:∀d,dst=some d→d<a.tmps.size):ng (EZ D dst kn) (a.put dst v):=by
 cases dst with
 |none=>exact hD
 |some d=>
  have k9:∀t u,t≠d→find D t=some u→(a.put (some d) v).tmps[t]? =some (.bool u):=fun t u hn hf=>by
   rw[rr hn];exact hD t u hf
  cases kn with
  |none=>
   intro t u hf
   obtain⟨h1,h2⟩:=gn (l:=D) hf
   exact k9 t u (Ne.symm h2) h1
  |some b=>
   have hv:=hk b rfl
   subst hv
   intro t u hf
   have hf:find (Go.Vc.put D d b) t=some u:=hf
   by_cases e:d=t
   ·subst e
    rw[bO] at hf
    cases hf
    exact ub (dK d rfl)
   ·rw[bk _ _ _ _ e] at hf
    exact k9 t u (Ne.symm e) hf
theorem rW (a:Act):bo a []:=fun t ht=>by cases ht
def SC (P:Program) (w0:World) (foot:gF) (base:Mem) (S:St) (E:Env) (a:Act) (w:World) (o:Oper) (r:b7) (kn:Option Bool):Prop:=
 ∀(next:Act→World→Prop) (Q:Exit→Act→World→Prop),(∀E' w' v,iw w0 foot base S.bl S.used E r E' w' v→(∀b,kn=some b→v= .bool b)→next (a.put o.dst v) w')→o.wp P a w next Q
theorem bX.none {o:Oper} {r:b7} (h:bX P w0 foot base S E a w o r):SC P w0 foot base S E a w o r none:=
 fun next Q hn=>h next Q fun E' w' v hA=>hn E' w' v hA fun b hb=>by cases hb
theorem OV (h:SRel w0 foot base S E a w) {D:kO} (hD:ng D a) {o:Oper} {x:Operand} (dA:(execOp a.eval o).run P w= .ok (.value (a.eval x)) w) {r:b7}
  (hr:(do kH (←ev x):RM b7).run S []=some r):SC P w0 foot base S E a w o r (vp D x):=by
 obtain⟨s,h1,hr⟩:=RM.run_bind' hr
 rw[lM hr]
 intro next Q hn
 unfold Oper.wp
 rw[dA]
 exact hn _ _ _ (iw.pure h.toHRel (gj h (rW a) h1)) fun b hb=>CJ hD hb
theorem Fv {D:kO} (hD:ng D a) {c:Nat} {v:Bool} (h:find D c=some v):a.eval (.tmp c)= .bool v:=CJ hD (x:= .tmp c) h
theorem L2 {D:kO} (hD:ng D a) (o:Oper):(∃x,(execOp a.eval o).run P w= .ok (.value (a.eval x)) w∧rp X D o=(do kH (←ev x),vp D x))∨rp X D o=(fE X o,none):=by
 cases ho:o.op with
 |pick c x y=>
  cases c with
  |tmp c=>
   cases hc:find D c with
   |none=>right;simp[rp,ho,hc]
   |some v=>
    left
    cases v with
    |true=>exact⟨x,by simp[execOp,ho,Fv hD hc,asBool],by simp only[rp,ho,hc]⟩
    |false=>exact⟨y,by simp[execOp,ho,Fv hD hc,asBool],by simp only[rp,ho,hc]⟩
  |_=>right;simp[rp,ho]
 |move x=>left;exact⟨x,by simp[execOp,ho],by simp only[rp,ho]⟩
 |assign x=>left;exact⟨x,by simp[execOp,ho],by simp only[rp,ho]⟩
 |_=>right;simp[rp,ho]
theorem L1 (hT:dt P X.ay) (hK:∀f dy,X.dy f=some dy→mr P f dy) (h:SRel w0 foot base S E a w) {D:kO} (hD:ng D a) {o:Oper} {r:b7} (hr:(rp X D o).1.run S []=some r)
  (hn:∀i∈r.new,i∉S.used) (cq:∀c∈r.conds,c):SC P w0 foot base S E a w o r (rp X D o).2:=by
 rcases L2 (P:=P) (X:=X) (w:=w) hD o with ⟨x,dA,e⟩|e
 ·rw[e] at hr ⊢
  exact OV h hD dA hr
 ·rw[e] at hr ⊢
  exact(FL hT hK h (rW a) hr hn cq).none
theorem wj {t e:Nat} (hu:P.underlying t=some (.slice e)) (d:Nat) (p:Option Addr) (n c:Nat):(Op.equalIn (d+1) t (.slice p n c) (.slice none 0 0)).run P w= .ok p.isNone w:=by
 cases p with
 |none=>simp only[Op.equalIn,Sem.run_bind,run_underlying hu,Result.andThen_ok];rfl
 |some q=>simp only[Op.equalIn,Sem.run_bind,run_underlying hu,Result.andThen_ok];rfl
theorem uj (op:BinOp) (t:Nat) (x y:Operand) (p:Option Addr) (n c:Nat):(eqGuard op t x y (.slice p n c) (.slice none 0 0)).run P w= .ok () w:=by
 unfold eqGuard
 split<;>rfl
theorem Ov {t e:Nat} (hu:P.underlying t=some (.slice e)) (x y:Operand) (p:Option Addr) (n c:Nat):
  (do eqGuard .eql t x y (.slice p n c) (.slice none 0 0);binOp .eql t (.slice p n c) (.slice none 0 0):Sem Value).run P w= .ok (.bool p.isNone) w:=by
 rw[Sem.run_bind,uj,Result.andThen_ok]
 show(do pure (.bool (←Op.equal t (.slice p n c) (.slice none 0 0))):Sem Value).run P w=_
 rw[Sem.run_bind,show Op.equal t (.slice p n c) (.slice none 0 0)=Op.equalIn (9999+1) t (.slice p n c) (.slice none 0 0) from rfl,wj hu]
 rfl
theorem Ou {t e:Nat} (hu:P.underlying t=some (.slice e)) (x y:Operand) (p:Option Addr) (n c:Nat):
  (do eqGuard .neq t x y (.slice p n c) (.slice none 0 0);binOp .neq t (.slice p n c) (.slice none 0 0):Sem Value).run P w= .ok (.bool (!p.isNone)) w:=by
 rw[Sem.run_bind,uj,Result.andThen_ok]
 show(do pure (.bool (!(←Op.equal t (.slice p n c) (.slice none 0 0)))):Sem Value).run P w=_
 rw[Sem.run_bind,show Op.equal t (.slice p n c) (.slice none 0 0)=Op.equalIn (9999+1) t (.slice p n c) (.slice none 0 0) from rfl,wj hu]
 rfl
theorem Js (hT:dt P X.ay) (h:SRel w0 foot base S E a w) {o:Oper} {neg:Bool} {p:Prop} (hc:Mu X S o=some (neg,p)):
  ∃b:Bool,(b=true→p)∧bX P w0 foot base S E a w o {val:=some (.one (.aC .bool (Xc neg b)))}:=by
 have nil:∀{op:BinOp} {t yt:Nat} {x y:Operand} {e:Nat} {sv:SV} {pp:Prop},o.op= .binOp op t x y yt→yV y=true→(do let i ←ti X t;let s ←ev x;return (i.d,s):RM (TD×SV)).run S []=some (.slice e,sv)→Cy S sv=some pp→
   ∃q n c,a.eval x= .slice q n c∧a.eval y= .slice none 0 0∧P.underlying t=some (.slice e)∧(q.isNone=true→pp):=fun {op t yt x y e sv pp} ho hy hx H8=>by
  obtain⟨i,h1,hx⟩:=RM.run_bind' hx
  obtain⟨s,h2,hx⟩:=RM.run_bind' hx
  have hx:=RM.run_pure' hx
  obtain⟨hs,_⟩:=df hT h1
  have hv:=gj h (rW a) h2
  obtain⟨hd,hse⟩:=Prod.mk.injEq .. ▸hx
  rw[hse] at hv
  have hyn:a.eval y= .slice none 0 0:=by
   unfold yV at hy
   split at hy
   ·rfl
   ·cases hy
  unfold Cy at H8
  split at H8
  ·cases H8
   obtain⟨_,q,cap,h3,h4,h5,h6,_⟩:=hv
   simp only[List.cons.injEq,and_true] at h3
   refine⟨q,_,cap,h3,hyn,dP (hs.trans hd),fun hq=> ?_⟩
   have:q=none:=by simpa using hq
   have:=h6 this
   exact List.length_eq_zero_iff.1 (by omega)
  ·split at H8
   ·rename_i b fr e' t' xs hb
    cases H8
    obtain⟨p,hp,hv⟩:=hv
    obtain⟨p',dj,hB⟩:=h.ck _ _ hb
    rw[hp] at dj;cases dj
    rcases hv with ⟨hn,hv,_⟩|⟨hn,hv,_⟩
    ·refine⟨_,_,_,hv,hyn,dP (hs.trans hd),fun _=> ?_⟩
     rcases hB with ⟨_,h0,_⟩|⟨h0,_⟩
     ·exact h0
     ·rw[hn] at h0;cases h0
    ·exact⟨_,_,_,hv,hyn,dP (hs.trans hd),fun hq=>by cases hq⟩
   ·cases H8
  ·cases H8
 unfold Mu at hc
 split at hc
 ·rename_i op t x y yt ho
  split at hc
  ·rename_i hy
   split at hc
   ·rename_i e sv hx
    split at hc
    rotate_left
    ·cases hc
    rename_i pp H8
    cases hc
    obtain⟨q,n,c,h1,h2,h3,h4⟩:=nil ho hy hx H8
    refine⟨q.isNone,h4,bX.value (v:= .bool q.isNone) (w':=w) ?_ (iw.pure h.toHRel ⟨rfl,rfl⟩)⟩
    simp only[execOp,ho,h1,h2]
    rw[Sem.run_bind,Ov h3]
    rfl
   ·cases hc
  ·rename_i hy
   split at hc
   ·rename_i e sv hx
    split at hc
    rotate_left
    ·cases hc
    rename_i pp H8
    cases hc
    obtain⟨q,n,c,h1,h2,h3,h4⟩:=nil ho hy hx H8
    refine⟨q.isNone,h4,bX.value (v:= .bool (!q.isNone)) (w':=w) ?_ (iw.pure h.toHRel ⟨rfl,rfl⟩)⟩
    simp only[execOp,ho,h1,h2]
    rw[Sem.run_bind,Ou h3]
    rfl
   ·cases hc
  ·cases hc
 ·cases hc
def r7 (S:St):Prop:=∀n ts v,find S.sl n=some (ts,v)→ts=[]
theorem r7.fO (h:r7 S) (o:Oper) (r:b7):r7 (Go.Vc.fO S o [] r):=fun n ts v hf=>by
 unfold Go.Vc.fO at hf
 simp only at hf
 split at hf
 ·exact h n ts v hf
 ·rename_i d _
  split at hf
  ·by_cases e:d=n
   ·subst e;rw[bO] at hf;cases hf;rfl
   ·rw[bk _ _ _ _ e] at hf;exact h n ts v hf
  ·exact h n ts v (gn hf).1
theorem GS (hT:dt P X.ay) (hK:∀f dy,X.dy f=some dy→mr P f dy) {o:Oper} {D:kO} {next:St→kO→Prop} (hv:GU X o S D next) (h:ep w0 foot base S E a w) (hD:ng D a)
  (mf:r7 S) {Q:Exit→Act→World→Prop} {K:Act→World→Prop} (Ia:∀S' D' E' a' w',next S' D'→r7 S'→ep w0 foot base S' E' a' w'→ng D' a'→K a' w'):o.wp P a w K Q:=by
 have iX:∀{r:b7},zr S [] o=true→∀d,o.dst=some d→d<a.tmps.size:=fun hd d hdd=>by
  rw[h.size];exact(nq hd d hdd).1
 unfold GU at hv
 split at hv
 ·rename_i neg p hc
  split at hv
  ·rename_i hd
   obtain⟨b,hb,mT⟩:=Js (P:=P) hT h.toSRel hc
   refine mT _ _ fun E' w' v hA=> ?_
   exact Ia _ _ _ _ _ (hv b hb) (mf.fO _ _) (h.step (nq hd) (rW a) hA) (hD.set (fun b hb=>by cases hb) (iX (r:={}) hd))
  ·cases hv
 ·split at hv
  ·cases hv
  ·rename_i r hr
   split at hv
   ·rename_i hd
    simp only[Bool.and_eq_true] at hd
    obtain⟨h1,h2⟩:=iR hv
    refine L1 hT hK h.toSRel hD hr (na hd.2) h1 _ _ fun E' w' v hA hk=> ?_
    exact Ia _ _ _ _ _ h2 (mf.fO _ _) (h.step (nq hd.1) (rW a) hA) (hD.set hk (iX (r:={}) hd.1))
   ·cases hv
theorem Jl (hT:dt P X.ay) (hK:∀f dy,X.dy f=some dy→mr P f dy) {o:Oper} {D:kO} {next:St→kO→Prop} (hv:zG X o S D next) (h:ep w0 foot base S E a w) (hD:ng D a)
  (mf:r7 S) {Q:Exit→Act→World→Prop} {K:Act→World→Prop} (Ia:∀S' D' E' a' w',next S' D'→r7 S'→ep w0 foot base S' E' a' w'→ng D' a'→K a' w'):o.wp P a w K Q:=by
 unfold zG at hv
 split at hv
 ·rename_i i hi
  split at hv
  ·rename_i hd
   have iX:∀d,o.dst=some d→d<a.tmps.size:=fun d hdd=>by
    rw[h.size];exact(nq hd d hdd).1
   rcases Jx (P:=P) h.toSRel hi with ⟨ht,mT⟩|⟨x,rest,ht,mT⟩
   ·refine mT _ _ fun E' w' v hA=> ?_
    exact Ia _ _ _ _ _ (hv.1 ht) (mf.fO _ _) (h.step (nq hd) (rW a) hA) (hD.set (fun b hb=>by cases hb) iX)
   ·refine mT _ _ fun E' w' v hA=> ?_
    exact Ia _ _ _ _ _ (hv.2 x rest ht) (mf.fO _ _) (h.step (nq hd) (rW a) hA) (hD.set (fun b hb=>by cases hb) iX)
  ·cases hv
 ·exact GS hT hK hv h hD mf Ia
theorem xK (mf:r7 S) (h:ep w0 foot base S E a w) {dst:Option Nat}:ep w0 foot base (IB S dst) E (a.put dst undef) w∧r7 (IB S dst):=by
 cases dst with
 |none=>exact⟨h,mf⟩
 |some d=>
  have hf:∀n ts v,find (rem S.sl d) n=some (ts,v)→ts=[]∧n≠d∧find S.sl n=some (ts,v):=fun n ts v hf=>by
   obtain⟨h1,h2⟩:=gn hf
   exact⟨mf n ts v h1,Ne.symm h2,h1⟩
  refine⟨{toHRel:=h.toHRel,gZ:=fun n ts v XZ ht=> ?_,size:=by simp[Act.put,h.size,IB],defers:=h.defers,pins:=h.pins,dX:=fun n ts v XZ ht=> ?_},fun n ts v XZ=>(hf n ts v XZ).1⟩
  ·obtain⟨rfl,hn,h1⟩:=hf n ts v XZ
   rw[Array.getD_eq_getD_getElem?,rr hn,←Array.getD_eq_getD_getElem?]
   exact h.gZ n [] v h1 (rW a)
  ·obtain⟨rfl,_⟩:=hf n ts v XZ
   exact absurd (rW _) ht
theorem ng.drop {D:kO} (hD:ng D a) {dst:Option Nat}:ng (EZ D dst none) (a.put dst undef):=by
 cases dst with
 |none=>exact hD
 |some d=>
  intro t u hf
  obtain⟨h1,h2⟩:=gn (l:=D) hf
  rw[rr (Ne.symm h2)]
  exact hD t u h1
theorem sV (hT:dt P X.ay) (hK:∀f dy,X.dy f=some dy→mr P f dy) {ops:Array Oper} {Q:Exit→Act→World→Prop} {k:St→Prop}:
  ∀{l:List Oper} {i:Nat} {S:St} {D:kO} {E:Env} {a:Act} {w:World},(∀j,l[j]? =ops[i+j]?)→vI X ops l S D k→r7 S→ep w0 foot base S E a w→ng D a→
  (∀S' E' a' w',k S'→ep w0 foot base S' E' a' w'→Q .normal a' w')→wpOps P ops Q (List.range' i l.length) a w
 |[],i,S,D,E,a,w,_,hv,_,h,_,hQ=>hQ _ _ _ _ hv h
 |o::l,i,S,D,E,a,w,hl,hv,mf,h,hD,hQ=>by
  have hi:ops[i]? =some o:=by have:=hl 0;simpa using this.symm
  have Ps:∀j,l[j]? =ops[i+1+j]? :=fun j=>by have:=hl (j+1);simpa [Nat.add_assoc,Nat.add_comm 1 j] using this
  simp only[List.length_cons,List.range'_succ]
  rw[wpOps_cons]
  unfold wpOp
  simp only[hi]
  have go:∀{D:kO},ng D a→zG X o S D (fun S D=>vI X ops l S D k)→o.wp P a w (wpOps P ops Q (List.range' (i+1) l.length)) Q:=fun hD hw=>
   Jl hT hK hw h hD mf fun S' D' E' a' w' hv' aiE h' Vj=>sV hT hK Ps hv' aiE h' Vj hQ
  unfold vI at hv
  split at hv
  ·rename_i hg
   have hw:Region.wanted o (yielded ops a.tmps)=true:=by unfold Region.wanted;rw[hg]
   rw[if_pos hw]
   exact .inl (go hD hv)
  ·rename_i j want hg
   split at hv
   ·cases hv
   ·rename_i d hd
    have wanted:∀v:Bool,a.tmps[d]? =some (.bool v)→Region.wanted o (yielded ops a.tmps)=(v==want):=fun v ht=>by
     unfold Region.wanted
     rw[hg]
     simp only[yielded,hd,Option.bind_some,ht]
     cases v<;>cases want<;>rfl
    split at hv
    ·rename_i v hf
     have hw:=wanted v (hD d v hf)
     split at hv
     ·rename_i he
      rw[he] at hw
      rw[if_pos hw]
      exact .inl (go hD hv)
     ·rename_i he
      rw[he] at hw
      rw[if_neg (by rw[hw];simp)]
      exact sV hT hK Ps hv (xK mf h).2 (xK mf h).1 hD.drop hQ
    ·split at hv
     ·rename_i b hb
      have hval:a.tmps[d]? =some (.bool b):=by
       unfold Qc at hb
       split at hb
       ·rename_i b' hf
        cases hb
        have hs:=h.gZ d [] _ hf (rW a)
        obtain⟨_,hs⟩:=hs
        have hs:[a.tmps.getD d undef]=[Value.bool b']:=hs
        simp only[List.cons.injEq,and_true] at hs
        rw[Array.getD_eq_getD_getElem?] at hs
        cases hh:a.tmps[d]? with
        |none=>rw[hh] at hs;simp[undef] at hs
        |some v=>rw[hh] at hs;simpa using hs
       ·cases hb
      have hw:=wanted b hval
      by_cases e:b=want
      ·subst e
       rw[if_pos (by rw[hw];simp)]
       exact .inl (go (hD.put hval) (hv.1 rfl))
      ·have e':b= !want:=by cases b<;>cases want<;>simp at e ⊢
       rw[if_neg (by rw[hw];simp[e])]
       exact sV hT hK Ps (hv.2 e') (xK mf h).2 (xK mf h).1 (hD.put (e'▸hval)).drop hQ
     ·cases hv
theorem F6 (hT:dt P X.ay) (hK:∀f dy,X.dy f=some dy→mr P f dy) {id:Nat} {ops:Array Oper} {Q:Exit→Act→World→Prop} {k:St→Prop} (hv:vI X ops ops.toList S [] k) (mf:Go.Vc.clean S.sl=true) (h:ep w0 foot base S E a w)
  (hQ:∀S' E' a' w',k S'→ep w0 foot base S' E' a' w'→Q .normal a' w'):(Code.region id ops false).wp P Q a w:=by
 refine wp_region ?_
 rw[List.range_eq_range']
 have:=sV (Q:=Q) hT hK (i:=0) (fun j=>by simp) hv (vD mf) h (fun t v hf=>by cases hf) hQ
 simpa using this
end Go.Vc
end

section
set_option linter.unusedVariables false
set_option linter.unusedSimpArgs false
namespace Go.Vc
open Go
variable {P:Program} {X:Ctx} {w0:World} {foot:gF} {base:Mem} {S T:St} {E:Env} {a:Act} {w:World} {ctx:c8}
abbrev Ren:=List (Nat×Option Nat)
def Ren.place (r:Ren) (E:Env) (b:Nat):Option Place:=
 match find r b with
 |none=>none
 |some none=>some ⟨true,0,0,0⟩
 |some (some m)=>E.place m
def Ren.env (r:Ren) (E:Env):Env:={E with place:=r.place E}
def vE (r:Ren) (b:Nat) (n:Nat):Option Ren:=
 match find r b with
 |none=>some ((b,some n)::r)
 |some (some m)=>(match Nat.beq m n with
  |true=>some r
  |false=>none)
 |some none=>none
def IZ (r:Ren) (b:Nat):Option Ren:=
 match find r b with
 |none=>some ((b,none)::r)
 |_=>none
def Ren.Ext (r s:Ren):Prop:=∀b u,find r b=some u→find s b=some u
theorem Ren.Ext.refl (r:Ren):r.Ext r:=fun _ _ h=>h
theorem Ren.Ext.trans {r s t:Ren} (h:r.Ext s) (k:s.Ext t):r.Ext t:=fun b u e=>k b u (h b u e)
theorem iI {r s:Ren} {b n:Nat} (h:vE r b n=some s):r.Ext s∧find s b=some (some n):=by
 unfold vE at h
 split at h
 ·rename_i hf
  cases h
  refine⟨fun c u hc=> ?_,by simp[find]⟩
  rw[ei]
  ·exact hc
  ·rintro rfl;rw[hf] at hc;cases hc
 ·rename_i m hf
  split at h
  ·rename_i hb
   cases h
   have:=Nat.eq_of_beq_eq_true hb
   subst this
   exact⟨.refl _,hf⟩
  ·cases h
 ·cases h
theorem A5 {r s:Ren} {b:Nat} (h:IZ r b=some s):r.Ext s∧find s b=some none:=by
 unfold IZ at h
 split at h
 ·rename_i hf
  cases h
  refine⟨fun c u hc=> ?_,by simp[find]⟩
  rw[ei]
  ·exact hc
  ·rintro rfl;rw[hf] at hc;cases hc
 ·cases h
def Dz (r:Ren):List Nat→List Nat→Option Ren
 |[],[]=>some r
 |b::bs,n::ns=>match vE r b n with
  |some s=>Dz s bs ns
  |none=>none
 |_,_=>none
theorem vY:∀{bs ns:List Nat} {r s:Ren},Dz r bs ns=some s→r.Ext s∧bs.length=ns.length∧∀(i:Nat) b,bs[i]? =some b→∃n,ns[i]? =some n∧find s b=some (some n)
 |[],[],r,s,h=>by cases h;exact⟨.refl _,rfl,fun i b hb=>by simp at hb⟩
 |b::bs,n::ns,r,s,h=>by
  unfold Dz at h
  split at h
  ·rename_i s1 h1
   obtain⟨g1,g2,g3⟩:=vY h
   obtain⟨k1,k2⟩:=iI h1
   refine⟨k1.trans g1,by simp[g2],fun i b' hb=> ?_⟩
   cases i with
   |zero=>simp at hb;subst hb;exact⟨n,rfl,g1 _ _ k2⟩
   |succ i=>simpa using g3 i b' (by simpa using hb)
  ·cases h
 |[],_::_,_,_,h=>by cases h
 |_::_,[],_,_,h=>by cases h
@[reducible] def Ty.R {t:Ty} (x:(Ty.ref t).den):t.den:=x
def z7 (r:Ren):C→C→Option (Ren×List Prop)
 | .aC t x,.aC t' y=>(Ty.as t y).map fun y'=>(r,[x=y'])
 | .aC (.list t) xs,.km=>some (r,[Ty.L xs=[]])
 | .row t b,.row t' b'=>(match t.beq t' with
  |true=>(vE r b b').map fun s=>(s,[])
  |false=>none)
 | .row t b,.km=>(IZ r b).map fun s=>(s,[])
 | .ptr b o,.ptr b' o'=>(match Nat.beq o o' with
  |true=>(vE r b b').map fun s=>(s,[])
  |false=>none)
 | .sub t b lo len,.sub t' b' Xi ahI=>(match t.beq t' with
  |true=>(vE r b b').map fun s=>(s,[lo=Xi,len=ahI])
  |false=>none)
 | .mw t b i o,.mw t' b' i' o'=>(match t.beq t'&&Nat.beq o o' with
  |true=>(vE r b b').map fun s=>(s,[i=i'])
  |false=>none)
 | .sN t xs i o,.sN t' ys j o'=>(match Nat.beq o o' with
  |true=>(Ty.as (a:= .list t') (.list t) (lit ys)).map fun Qt=>(r,[xs=Ty.L Qt,i=j])
  |false=>none)
 | .km,.km=>some (r,[])
 | .oZ,.oZ=>some (r,[])
 | .map _ _ b,.map _ _ b'=>(vE r b b').map fun s=>(s,[])
 | .pP,.pP=>some (r,[])
 | .aC (.map _ _) m,.pP=>some (r,[Ty.M m=[]])
 | .iz k bs,.iz k' bs'=>(match Nat.beq k k' with
  |true=>(Dz r bs bs').map fun s=>(s,[])
  |false=>none)
 | .aC (.ref t) x,.sN t' ys j o'=>(match Nat.beq o' 0 with
  |true=>(Ty.as (a:=t') t (DB ys j)).map fun y=>(r,[Ty.R x=y])
  |false=>none)
 |_,_=>none
theorem Fq {r s:Ren} {c d:C} {ps:List Prop} (h:z7 r c d=some (s,ps)):r.Ext s:=by
 unfold z7 at h
 split at h
 ·obtain⟨y,_,e⟩:=Option.map_eq_some_iff.1 h
  cases e
  exact .refl _
 ·cases h;exact .refl _
 ·split at h
  ·obtain⟨y,h1,e⟩:=Option.map_eq_some_iff.1 h
   cases e
   exact(iI h1).1
  ·cases h
 ·obtain⟨y,h1,e⟩:=Option.map_eq_some_iff.1 h
  cases e
  exact(A5 h1).1
 ·split at h
  ·obtain⟨y,h1,e⟩:=Option.map_eq_some_iff.1 h
   cases e
   exact(iI h1).1
  ·cases h
 ·split at h
  ·obtain⟨y,h1,e⟩:=Option.map_eq_some_iff.1 h
   cases e
   exact(iI h1).1
  ·cases h
 ·split at h
  ·obtain⟨y,h1,e⟩:=Option.map_eq_some_iff.1 h
   cases e
   exact(iI h1).1
  ·cases h
 ·split at h
  ·obtain⟨y,h1,e⟩:=Option.map_eq_some_iff.1 h
   cases e
   exact .refl _
  ·cases h
 ·cases h;exact .refl _
 ·cases h;exact .refl _
 ·obtain⟨y,h1,e⟩:=Option.map_eq_some_iff.1 h
  cases e
  exact(iI h1).1
 ·cases h;exact .refl _
 ·cases h;exact .refl _
 ·split at h
  ·obtain⟨y,h1,e⟩:=Option.map_eq_some_iff.1 h
   cases e
   exact(vY h1).1
  ·cases h
 ·split at h
  ·obtain⟨y,h1,e⟩:=Option.map_eq_some_iff.1 h
   cases e
   exact .refl _
  ·cases h
 ·cases h
theorem Fp {r s f:Ren} {c d:C} {ps:List Prop} {v:Value} (h:z7 r c d=some (s,ps)) (hs:s.Ext f) (hp:∀p∈ps,p) (hv:gO E d v):gO (f.env E) c v:=by
 have pl:∀{b n p},find s b=some (some n)→E.place n=some p→(f.env E).place b=some p:=fun {b n p} hb hn=>by
  show f.place E b=_
  unfold Ren.place
  rw[hs _ _ hb]
  exact hn
 unfold z7 at h
 split at h
 ·obtain⟨y,h1,e⟩:=Option.map_eq_some_iff.1 h
  cases e
  have:=hp _ (List.mem_singleton.2 rfl)
  subst this
  obtain⟨ee,rfl⟩:=Ty.iJ h1
  subst ee
  exact hv
 ·cases h
  have:=hp _ (List.mem_singleton.2 rfl)
  have hv:v=_:=hv
  subst hv
  refine⟨rfl,none,0,?_,?_,by simp[aK],fun _=>rfl,fun p hp=>by cases hp⟩
  ·rw[this];rfl
  ·rw[this];exact Nat.le_refl _
 ·split at h
  ·rename_i hb
   obtain⟨y,h1,e⟩:=Option.map_eq_some_iff.1 h
   cases e
   obtain⟨p,nQ,k⟩:=hv
   exact⟨p,pl (iI h1).2 nQ,k⟩
  ·cases h
 ·obtain⟨y,h1,e⟩:=Option.map_eq_some_iff.1 h
  cases e
  have hv:v=_:=hv
  refine⟨⟨true,0,0,0⟩,?_,.inl ⟨rfl,hv,rfl⟩⟩
  show f.place E _=_
  unfold Ren.place
  rw[hs _ _ (A5 h1).2]
 ·split at h
  ·rename_i hb
   obtain⟨y,h1,e⟩:=Option.map_eq_some_iff.1 h
   cases e
   have:=Nat.eq_of_beq_eq_true hb
   subst this
   obtain⟨p,nQ,k⟩:=hv
   exact⟨p,pl (iI h1).2 nQ,k⟩
  ·cases h
 ·split at h
  ·rename_i hb
   obtain⟨y,h1,e⟩:=Option.map_eq_some_iff.1 h
   cases e
   have e1:=hp _ (List.mem_cons_self)
   have e2:=hp _ (List.mem_cons_of_mem _ List.mem_cons_self)
   subst e1 e2
   have:=Ty.beq_eq hb
   subst this
   obtain⟨p,nQ,k⟩:=hv
   exact⟨p,pl (iI h1).2 nQ,k⟩
  ·cases h
 ·split at h
  ·rename_i hb
   simp only[Bool.and_eq_true] at hb
   obtain⟨y,h1,e⟩:=Option.map_eq_some_iff.1 h
   cases e
   have e1:=hp _ (List.mem_cons_self)
   subst e1
   have:=Ty.beq_eq hb.1
   subst this
   have:=Nat.eq_of_beq_eq_true hb.2
   subst this
   obtain⟨p,nQ,k⟩:=hv
   exact⟨p,pl (iI h1).2 nQ,k⟩
  ·cases h
 ·split at h
  ·rename_i hb
   obtain⟨y,h1,e⟩:=Option.map_eq_some_iff.1 h
   cases e
   have e1:=hp _ (List.mem_cons_self)
   have e2:=hp _ (List.mem_cons_of_mem _ List.mem_cons_self)
   subst e2
   have:=Nat.eq_of_beq_eq_true hb
   subst this
   obtain⟨ee,rfl⟩:=Ty.iJ h1
   cases ee
   have e1:_=_:=e1
   subst e1
   exact hv
  ·cases h
 ·exact hv
 ·exact hv
 ·obtain⟨y,h1,e⟩:=Option.map_eq_some_iff.1 h
  cases e
  obtain⟨p,nQ,k⟩:=hv
  exact⟨p,pl (iI h1).2 nQ,k⟩
 ·exact hv
 ·cases h
  have:=hp _ (List.mem_singleton.2 rfl)
  have hv:v=_:=hv
  subst hv
  exact⟨rfl,none,rfl,fun _=>this,fun n hn=>by cases hn⟩
 ·split at h
  ·rename_i hb
   have:=Nat.eq_of_beq_eq_true hb
   subst this
   obtain⟨y,h1,e⟩:=Option.map_eq_some_iff.1 h
   cases e
   obtain⟨_,g2,g3⟩:=vY h1
   obtain⟨qs,m1,m2,m3⟩:=hv
   refine⟨qs,by omega,fun i b hi=> ?_,m3⟩
   obtain⟨n,n1,n2⟩:=g3 i b hi
   obtain⟨p,p1,p2,p3⟩:=m2 i n n1
   exact⟨p,p1,pl n2 p2,p3⟩
  ·cases h
 ·split at h
  ·rename_i ho
   have:=Nat.eq_of_beq_eq_true ho
   subst this
   obtain⟨y,h1,e⟩:=Option.map_eq_some_iff.1 h
   cases e
   have e1:=hp _ (List.mem_singleton.2 rfl)
   have e1:_=y:=e1
   subst e1
   exact⟨rfl,IA hv h1⟩
  ·cases h
 ·cases h
def uA (r:Ren):List C→List C→Option (Ren×List Prop)
 |[],[]=>some (r,[])
 |c::cs,d::ds=>match z7 r c d with
  |none=>none
  |some (s,ps)=>(match uA s cs ds with
   |none=>none
   |some (t,qs)=>some (t,ps++qs))
 |_,_=>none
theorem sZ:∀{cs ds:List C} {r s:Ren} {ps:List Prop},uA r cs ds=some (s,ps)→r.Ext s
 |[],[],r,s,ps,h=>by cases h;exact .refl _
 |c::cs,d::ds,r,s,ps,h=>by
  unfold uA at h
  split at h
  ·cases h
  ·rename_i s1 p1 h1
   split at h
   ·cases h
   ·rename_i t qs h2
    cases h
    exact(Fq h1).trans (sZ h2)
 |[],_::_,_,_,_,h=>by cases h
 |_::_,[],_,_,_,h=>by cases h
theorem xr {f:Ren}:∀{cs ds:List C} {r s:Ren} {ps:List Prop} {vs:List Value},uA r cs ds=some (s,ps)→s.Ext f→(∀p∈ps,p)→b5 E ds vs→b5 (f.env E) cs vs
 |[],[],r,s,ps,vs,h,_,_,hv=>hv
 |c::cs,d::ds,r,s,ps,vs,h,hs,hp,hv=>by
  unfold uA at h
  split at h
  ·cases h
  ·rename_i s1 p1 h1
   split at h
   ·cases h
   ·rename_i t qs h2
    cases h
    obtain⟨v,us,rfl,k1,k2⟩:=hv
    exact⟨v,us,rfl,Fp h1 ((sZ h2).trans hs) (fun p hm=>hp p (List.mem_append_left _ hm)) k1,xr h2 hs (fun p hm=>hp p (List.mem_append_right _ hm)) k2⟩
 |[],_::_,_,_,_,_,h,_,_,_=>by cases h
 |_::_,[],_,_,_,_,h,_,_,_=>by cases h
def yN (r:Ren):SV→SV→Option (Ren×List Prop)
 | .one c,.one d=>z7 r c d
 | .agg cs,.agg ds=>uA r cs ds
 |_,_=>none
theorem MA {r s:Ren} {u v:SV} {ps:List Prop} (h:yN r u v=some (s,ps)):r.Ext s:=by
 unfold yN at h
 split at h
 ·exact Fq h
 ·exact sZ h
 ·cases h
theorem Mz {r s f:Ren} {u v:SV} {ps:List Prop} {x:Value} (h:yN r u v=some (s,ps)) (hs:s.Ext f) (hp:∀p∈ps,p) (hv:ft E v x):ft (f.env E) u x:=by
 unfold yN at h
 split at h
 ·exact Fp h hs hp hv
 ·obtain⟨vs,rfl,k⟩:=hv;exact⟨vs,rfl,xr h hs hp k⟩
 ·cases h
def uz (S:St) (r:Ren):List (Nat×(c8×SV))→Option (Ren×List Prop)
 |[]=>some (r,[])
 |(n,[],v)::l=>(match find S.sl n with
  |some ([],u)=>(match yN r v u with
   |none=>none
   |some (s,ps)=>(match uz S s l with
    |none=>none
    |some (t,qs)=>some (t,ps++qs)))
  |_=>none)
 |_::_=>none
theorem CG:∀{l:List (Nat×(c8×SV))} {r s:Ren} {ps:List Prop},uz S r l=some (s,ps)→r.Ext s
 |[],r,s,ps,h=>by cases h;exact .refl _
 |(n,[],v)::l,r,s,ps,h=>by
  unfold uz at h
  split at h
  ·split at h
   ·cases h
   ·rename_i s1 p1 h1
    split at h
    ·cases h
    ·rename_i t qs h2
     cases h
     exact(MA h1).trans (CG h2)
  ·cases h
 |(_,_::_,_)::_,_,_,_,h=>by cases h
theorem CF {f:Ren} (hS:ep w0 foot base S E a w):∀{l:List (Nat×(c8×SV))} {r s:Ren} {ps:List Prop},uz S r l=some (s,ps)→s.Ext f→(∀p∈ps,p)→
  ∀n ts v,find l n=some (ts,v)→ts=[]∧ft (f.env E) v (a.tmps.getD n undef)
 |[],r,s,ps,_,_,_,n,ts,v,hf=>by cases hf
 |(m,[],u)::l,r,s,ps,h,hs,hp,n,ts,v,hf=>by
  unfold uz at h
  split at h
  ·rename_i u' hu
   split at h
   ·cases h
   ·rename_i s1 p1 h1
    split at h
    ·cases h
    ·rename_i t qs h2
     cases h
     by_cases e:m=n
     ·subst e
      have:some (([]:c8),u)=some (ts,v):=by simpa [find] using hf
      cases this
      exact⟨rfl,Mz h1 ((CG h2).trans hs) (fun p hm=>hp p (List.mem_append_left _ hm)) (hS.gZ m [] u' hu (fun t ht=>by cases ht))⟩
     ·rw[ei e] at hf
      exact CF hS h2 hs (fun p hm=>hp p (List.mem_append_right _ hm)) n ts v hf
  ·cases h
 |(_,_::_,_)::_,_,_,_,h,_,_,_,_,_,_=>by cases h
def wC (r:Ren):c5→c5→Option (Ren×List Prop)
 | .cells cs,.cells ds=>uA r cs ds
 | .row iZ e t xs,.row Ii e' t' ys=>(match iZ==Ii&&Nat.beq e e' with
  |true=>(Ty.as (a:= .list t') (.list t) (lit ys)).map fun Qt=>(r,[xs=Ty.L Qt])
  |false=>none)
 | .im t x,.im t' y=>(Ty.as (a:=t') t y).map fun y'=>(r,[x=y'])
 | .map iZ k v m none,.map Ii k' v' m' _=>(match iZ==Ii with
  |true=>(Ty.as (a:= .map k' v') (.map k v) m').map fun n=>(r,[m=Ty.M n])
  |false=>none)
 | .iter k v m none,.iter k' v' m' _=>(Ty.as (a:= .map k' v') (.map k v) m').map fun n=>(r,[m=Ty.M n])
 |_,_=>none
theorem AS {r s:Ren} {B B':c5} {ps:List Prop} (h:wC r B B'=some (s,ps)):r.Ext s:=by
 unfold wC at h
 split at h
 ·exact sZ h
 ·split at h
  ·obtain⟨y,_,e⟩:=Option.map_eq_some_iff.1 h
   cases e
   exact .refl _
  ·cases h
 ·obtain⟨y,_,e⟩:=Option.map_eq_some_iff.1 h
  cases e
  exact .refl _
 ·split at h
  ·obtain⟨y,_,e⟩:=Option.map_eq_some_iff.1 h
   cases e
   exact .refl _
  ·cases h
 ·obtain⟨y,_,e⟩:=Option.map_eq_some_iff.1 h
  cases e
  exact .refl _
 ·cases h
theorem Jt {r s f:Ren} {B B':c5} {ps:List Prop} {p:Place} (h:wC r B B'=some (s,ps)) (hs:s.Ext f) (hp:∀p∈ps,p) (hv:fX E w p B'):fX (f.env E) w p B∧B.mut=B'.mut:=by
 unfold wC at h
 split at h
 ·obtain⟨h0,vs,e,k1,k2⟩:=hv
  exact⟨⟨h0,vs,e,k1,xr h hs hp k2⟩,rfl⟩
 ·split at h
  ·rename_i hb
   simp only[Bool.and_eq_true,beq_iff_eq] at hb
   obtain⟨Qt,h1,e⟩:=Option.map_eq_some_iff.1 h
   cases e
   have hx:=hp _ (List.mem_singleton.2 rfl)
   obtain⟨h2,h3⟩:=hb
   have h3:=Nat.eq_of_beq_eq_true h3
   subst h2 h3
   obtain⟨ee,rfl⟩:=Ty.iJ h1
   cases ee
   have hx:_=_:=hx
   subst hx
   exact⟨hv,rfl⟩
  ·cases h
 ·obtain⟨y',h1,e⟩:=Option.map_eq_some_iff.1 h
  cases e
  have hx:=hp _ (List.mem_singleton.2 rfl)
  obtain⟨ee,rfl⟩:=Ty.iJ h1
  subst ee
  have hx:_=_:=hx
  subst hx
  exact⟨hv,rfl⟩
 ·split at h
  ·rename_i hb
   simp only[beq_iff_eq] at hb
   obtain⟨n,h1,e⟩:=Option.map_eq_some_iff.1 h
   cases e
   have hx:=hp _ (List.mem_singleton.2 rfl)
   subst hb
   obtain⟨ee,rfl⟩:=Ty.iJ h1
   cases ee
   have hx:_=_:=hx
   subst hx
   obtain⟨h0,es,cl,k1,k2,k3⟩:=hv
   exact⟨⟨h0,es,cl,k1,k2,qa.aki (E:=E) (E':=f.env E) (fun _ _ h=>h) k3⟩,rfl⟩
  ·cases h
 ·obtain⟨n,h1,e⟩:=Option.map_eq_some_iff.1 h
  cases e
  have hx:=hp _ (List.mem_singleton.2 rfl)
  obtain⟨ee,rfl⟩:=Ty.iJ h1
  cases ee
  have hx:_=_:=hx
  subst hx
  obtain⟨h0,mo,si,se,la,k1,k2⟩:=hv
  refine⟨⟨h0,mo,si,se,la,k1,?_⟩,rfl⟩
  rcases k2 with ⟨k2,k3,_⟩|⟨mb,es,cl,Gb,e1,e2,e3,e4,e5,e6,e7,e8⟩
  ·exact .inl ⟨k2,k3,rfl⟩
  ·exact .inr ⟨mb,es,cl,Gb,e1,e2,e3,e4,e5,e6,e7,fun x hx=>by cases hx⟩
 ·cases h
def uB (S:St) (r:Ren):List (Nat×c5)→Option (Ren×List Prop)
 |[]=>some (r,[])
 |(n,B)::l=>(match find r n with
  |none=>none
  |some none=>(match B with
   | .row _ _ _ xs=>(match uB S r l with
    |none=>none
    |some (t,qs)=>some (t,(xs=[])::qs))
   |_=>none)
  |some (some m)=>(match find S.bl m with
   |none=>none
   |some B'=>(match wC r B B' with
    |none=>none
    |some (s,ps)=>(match uB S s l with
     |none=>none
     |some (t,qs)=>some (t,ps++qs)))))
theorem qM:∀{l:List (Nat×c5)} {r s:Ren} {ps:List Prop},uB S r l=some (s,ps)→r.Ext s
 |[],r,s,ps,h=>by cases h;exact .refl _
 |(n,B)::l,r,s,ps,h=>by
  unfold uB at h
  split at h
  ·cases h
  ·split at h
   ·split at h
    ·cases h
    ·rename_i t qs h2
     cases h
     exact qM h2
   ·cases h
  ·split at h
   ·cases h
   ·split at h
    ·cases h
    ·rename_i s1 p1 h1
     split at h
     ·cases h
     ·rename_i t qs h2
      cases h
      exact(AS h1).trans (qM h2)
def Jg (S:St) (f:Ren) (E:Env) (w:World) (n:Nat) (B:c5):Prop:=
 (find f n=some none∧fX (f.env E) w ⟨true,0,0,0⟩ B)∨∃m B',find f n=some (some m)∧find S.bl m=some B'∧∀p,fX E w p B'→fX (f.env E) w p B∧B.mut=B'.mut
theorem ta {f:Ren}:∀{l:List (Nat×c5)} {r s:Ren} {ps:List Prop},uB S r l=some (s,ps)→s.Ext f→(∀p∈ps,p)→∀n B,find l n=some B→Jg S f E w n B
 |[],r,s,ps,_,_,_,n,B,hf=>by cases hf
 |(m,B)::l,r,s,ps,h,hs,hp,n,D,hf=>by
  unfold uB at h
  split at h
  ·cases h
  ·rename_i hr
   split at h
   ·rename_i iZ el t xs
    split at h
    ·cases h
    ·rename_i t' qs h2
     cases h
     by_cases e:m=n
     ·subst e
      have:some (c5.row iZ el t xs)=some D:=by simpa [find] using hf
      cases this
      have hx:=hp _ List.mem_cons_self
      have hx:xs=[]:=hx
      exact .inl ⟨hs _ _ (qM h2 _ _ hr),.inl ⟨rfl,hx,rfl⟩⟩
     ·rw[ei e] at hf
      exact ta h2 hs (fun p hm=>hp p (List.mem_cons_of_mem _ hm)) n D hf
   ·cases h
  ·rename_i k hr
   split at h
   ·cases h
   ·rename_i B' zc
    split at h
    ·cases h
    ·rename_i s1 p1 h1
     split at h
     ·cases h
     ·rename_i t qs h2
      cases h
      have Bx:=(qM h2).trans hs
      by_cases e:m=n
      ·subst e
       have:some B=some D:=by simpa [find] using hf
       cases this
       exact .inr ⟨k,B',Bx _ _ (AS h1 _ _ hr),zc,fun p hv=>Jt h1 Bx (fun p hm=>hp p (List.mem_append_left _ hm)) hv⟩
      ·rw[ei e] at hf
       exact ta h2 hs (fun p hm=>hp p (List.mem_append_right _ hm)) n D hf
def MU (S:St):List (Nat×c5)→Ren
 |[]=>[]
 |(n,_)::l=>match find S.bl n with
  |some _=>(n,some n)::MU S l
  |none=>MU S l
def sH (T:St):Ren→List Nat→Bool
 |[],_=>true
 |(n,none)::l,seen=>has T.used n&&sH T l seen
 |(n,some m)::l,seen=>has T.used n&&(!has seen m&&sH T l (m::seen))
def WE (r:Ren):Bool:=
 match r with
 |[]=>true
 |(n,_)::l=>(match find l n with
  |some _=>false
  |none=>true)&&WE l
theorem yB:∀{r:Ren} {seen:List Nat},sH T r seen=true→∀n u,find r n=some u→n∈T.used
 |[],_,_,n,u,h=>by cases h
 |(m,none)::l,seen,hr,n,u,h=>by
  simp only[sH,Bool.and_eq_true] at hr
  by_cases e:m=n
  ·exact e▸so.1 hr.1
  ·rw[ei e] at h;exact yB hr.2 n u h
 |(m,some k)::l,seen,hr,n,u,h=>by
  simp only[sH,Bool.and_eq_true] at hr
  by_cases e:m=n
  ·exact e▸so.1 hr.1
  ·rw[ei e] at h;exact yB hr.2.2 n u h
theorem vl:∀{r:Ren} {seen:List Nat},sH T r seen=true→∀n m,find r n=some (some m)→m∉seen
 |[],_,_,n,m,h=>by cases h
 |(k,none)::l,seen,hr,n,m,h=>by
  simp only[sH,Bool.and_eq_true] at hr
  by_cases e:k=n
  ·subst e;simp[find] at h
  ·rw[ei e] at h;exact vl hr.2 n m h
 |(k,some j)::l,seen,hr,n,m,h=>by
  simp only[sH,Bool.and_eq_true,Bool.not_eq_true'] at hr
  by_cases e:k=n
  ·subst e
   have:j=m:=by simpa [find] using h
   subst this
   intro hm
   rw[so.2 hm] at hr
   cases hr.2.1
  ·rw[ei e] at h
   exact fun hm=>vl hr.2.2 n m h (List.mem_cons_of_mem _ hm)
theorem Bj:∀{r:Ren} {seen:List Nat},sH T r seen=true→∀n n' m,find r n=some (some m)→find r n'=some (some m)→n=n'
 |[],_,_,n,n',m,h,_=>by cases h
 |(k,none)::l,seen,hr,n,n',m,h,h'=>by
  simp only[sH,Bool.and_eq_true] at hr
  by_cases e:k=n
  ·subst e;simp[find] at h
  ·by_cases e':k=n'
   ·subst e';simp[find] at h'
   ·rw[ei e] at h;rw[ei e'] at h'
    exact Bj hr.2 n n' m h h'
 |(k,some j)::l,seen,hr,n,n',m,h,h'=>by
  simp only[sH,Bool.and_eq_true] at hr
  by_cases e:k=n
  ·by_cases e':k=n'
   ·exact e.symm.trans e'
   ·rw[ei e'] at h'
    subst e
    have:j=m:=by simpa [find] using h
    subst this
    exact absurd List.mem_cons_self (vl hr.2.2 n' j h')
  ·rw[ei e] at h
   by_cases e':k=n'
   ·subst e'
    have:j=m:=by simpa [find] using h'
    subst this
    exact absurd List.mem_cons_self (vl hr.2.2 n j h)
   ·rw[ei e'] at h'
    exact Bj hr.2.2 n n' m h h'
def Ml (r:Ren):List Nat→Bool
 |[]=>true
 |n::l=>(match find r n with
  |some (some m)=>Nat.beq n m
  |_=>false)&&Ml r l
theorem Fi {r:Ren}:∀{l:List Nat},Ml r l=true→∀n∈l,find r n=some (some n)
 |[],_,n,hn=>by cases hn
 |m::l,h,n,hn=>by
  simp only[Ml,Bool.and_eq_true] at h
  rcases List.mem_cons.1 hn with rfl|hn
  ·have h1:=h.1
   split at h1
   ·rename_i k hk
    rw[hk,Nat.eq_of_beq_eq_true h1]
   ·cases h1
  ·exact Fi h.2 n hn
def jZ (s:Ren):List Nat→Ren
 |[]=>s
 |n::l=>match find s n with
  |some _=>jZ s l
  |none=>(n,some n)::jZ s l
theorem vH (s:Ren):∀l,s.Ext (jZ s l)
 |[]=> .refl _
 |n::l=>by
  unfold jZ
  split
  ·exact vH s l
  ·rename_i hf
   intro k u hk
   rw[ei]
   ·exact vH s l k u hk
   ·rintro rfl;rw[hf] at hk;cases hk
theorem tZ (s:Ren):∀{l:List Nat} {n:Nat} {u:Option Nat},find (jZ s l) n=some u→find s n=some u∨n∈l
 |[],n,u,h=> .inl h
 |m::l,n,u,h=>by
  unfold jZ at h
  split at h
  ·exact(tZ s h).imp_right (List.mem_cons_of_mem _)
  ·by_cases e:m=n
   ·exact .inr (e▸List.mem_cons_self)
   ·rw[ei e] at h
    exact(tZ s h).imp_right (List.mem_cons_of_mem _)
def GL (u:List Nat):List Nat→Bool
 |[]=>true
 |n::l=>has u n&&GL u l
theorem FZ {u:List Nat}:∀{l:List Nat},GL u l=true→∀n∈l,n∈u
 |[],_,n,hn=>by cases hn
 |m::l,h,n,hn=>by
  simp only[GL,Bool.and_eq_true] at h
  rcases List.mem_cons.1 hn with rfl|hn
  ·exact so.1 h.1
  ·exact FZ h.2 n hn
def CH (r0:Ren) (S T:St):Option (List Prop):=
 match uz S r0 T.sl with
 |none=>none
 |some (r,ps)=>match uB S r T.bl with
  |none=>none
  |some (s,qs)=>match sH T s []&&(Nat.beq S.n T.n&&(CB S.oA T.oA&&(GL T.used T.oA&&Ml (jZ s T.oA) T.oA))) with
   |true=>some (ps++qs)
   |false=>none
def HF (S T:St):Option (List Prop):=
 match CH (MU S T.bl) S T with
 |some ps=>some ps
 |none=>CH [] S T
theorem yO {r0:Ren} {cs:List Prop} (hm:CH r0 S T=some cs) (h:ep w0 foot base S E a w) (hc:∀p∈cs,p):∃E',ep w0 foot base T E' a w:=by
 unfold CH at hm
 split at hm
 ·cases hm
 ·rename_i r ps h1
  split at hm
  ·cases hm
  ·rename_i s qs h2
   split at hm
   ·rename_i hb
    cases hm
    simp only[Bool.and_eq_true] at hb
    have Bx:=qM h2
    have AA:∀p∈ps,p:=fun p hp=>hc p (List.mem_append_left _ hp)
    have hqs:∀p∈qs,p:=fun p hp=>hc p (List.mem_append_right _ hp)
    have Px:=vH s T.oA
    have abA:∀n B,find T.bl n=some B→Jg S s E w n B:=ta h2 (.refl _) hqs
    have abt:=hb.1
    have Em:∀n u,find (jZ s T.oA) n=some u→n∈T.used:=fun n u hn=>by
     rcases tZ s hn with h|h
     ·exact yB abt n u h
     ·exact FZ hb.2.2.2.1 n h
    have pH:∀n B,find T.bl n=some B→Jg S (jZ s T.oA) E w n B:=ta h2 Px hqs
    have yd:=CF (f:=jZ s T.oA) h h1 (Bx.trans Px) AA
    have XV:∀n n' B B' m,find T.bl n=some B→find T.bl n'=some B'→find (jZ s T.oA) n=some (some m)→find (jZ s T.oA) n'=some (some m)→n=n':=fun n n' B B' m hB zc hm hm'=>by
     have g:∀{k D},find T.bl k=some D→find (jZ s T.oA) k=some (some m)→find s k=some (some m):=fun {k D} hD hk=>by
      rcases abA k D hD with ⟨wI,_⟩|⟨m',_,wI,_⟩
      ·rw[Px _ _ wI] at hk;cases hk
      ·rw[Px _ _ wI] at hk;cases hk;exact wI
     exact Bj abt n n' m (g hB hm) (g zc hm')
    clear Px abA Bx
    generalize jZ s T.oA=s at *
    have M5:∀n m,find s n=some (some m)→(s.env E).place n=E.place m:=fun n m hf=>by
     show s.place E n=_
     unfold Ren.place
     rw[hf]
    have xZ:∀n,find s n=some none→(s.env E).place n=some ⟨true,0,0,0⟩:=fun n hf=>by
     show s.place E n=_
     unfold Ren.place
     rw[hf]
    have back:∀n B p,find T.bl n=some B→(s.env E).place n=some p→p.nil=false→∃m B',find s n=some (some m)∧find S.bl m=some B'∧E.place m=some p∧fX E w p B'∧B.mut=B'.mut:=fun n B p hf hp hn=>by
     rcases pH n B hf with ⟨wI,_⟩|⟨m,B',wI,BC,En⟩
     ·rw[xZ n wI] at hp;cases hp;cases hn
     ·rw[M5 n m wI] at hp
      obtain⟨q,hq,k⟩:=h.ck m B' BC
      rw[hp] at hq
      cases hq
      exact⟨m,B',wI,BC,hp,k,(En p k).2⟩
    refine⟨s.env E,{keep:=h.keep,mW:=h.mW,src:=h.src,ck:=fun n B hf=> ?_,own:=fun n B p hf hp o3=> ?_,inj:=fun n n' B B' p p' hf eh hp dj o3 Kr jS=> ?_,used:=fun n p hp=> ?_,gZ:=fun n ts v hf ht=>(yd n ts v hf).2,size:= ?_,defers:=h.defers,pins:=fun n p hp=> ?_,dX:=fun n ts v hf ht=> ?_}⟩
    ·rcases pH n B hf with ⟨wI,hB⟩|⟨m,B',wI,BC,En⟩
     ·exact⟨_,xZ n wI,hB⟩
     ·obtain⟨q,hq,k⟩:=h.ck m B' BC
      exact⟨q,(M5 n m wI).trans hq,(En q k).1⟩
    ·obtain⟨m,B',wI,BC,nQ,k,aib⟩:=back n B p hf hp o3
     have:=h.own m B' p BC nQ o3
     exact⟨this.1,fun hm=>this.2 (aib▸hm)⟩
    ·obtain⟨m,D,wI,BC,nQ,_,_⟩:=back n B p hf hp o3
     obtain⟨m',D',aiv,X0,ah6,_,_⟩:=back n' B' p' eh dj Kr
     refine h.inj m m' D D' p p' BC X0 nQ ah6 o3 Kr fun e=>jS ?_
     subst e
     exact XV n n' B B' m hf eh wI aiv
    ·have hp:s.place E n=some p:=hp
     unfold Ren.place at hp
     split at hp
     ·cases hp
     ·rename_i hf;exact Em n _ hf
     ·rename_i m hf;exact Em n _ hf
    ·exact h.size.trans (Nat.eq_of_beq_eq_true hb.2.1)
    ·obtain⟨g1,g2⟩:=h.pins n p hp
     rw[Br hb.2.2.1] at g1
     exact⟨g1,(M5 n n (Fi hb.2.2.2.2 n g1)).trans g2⟩
    ·have:=(yd n ts v hf).1
     subst this
     exact absurd (fun t ht=>by cases ht) ht
   ·cases hm
theorem HE {cs:List Prop} (hm:HF S T=some cs) (h:ep w0 foot base S E a w) (hc:∀p∈cs,p):∃E',ep w0 foot base T E' a w:=by
 unfold HF at hm
 split at hm
 ·rename_i ps h1
  cases hm
  exact yO h1 h hc
 ·exact yO hm h hc
def C4 (S:St) (m:Nat):St:=
 match find S.bl m with
 |some (.row false e t xs)=>{S with bl:=cA [(m,.row true e t xs)] S.bl}
 |some (.map false k v x _)=>{S with bl:=cA [(m,.map true k v x none)] S.bl}
 |_=>S
theorem Nl (h:ep w0 foot base S E a w) (m:Nat):∃E',ep w0 foot base (C4 S m) E' a w:=by
 unfold C4
 split
 ·rename_i e t xs hf
  obtain⟨E',hle,nQ,_,hR⟩:=h.toHRel.cA (kP.one (D:= .row true e t xs) hf (.inl ⟨_,_,_,_,rfl,rfl⟩))
  exact⟨E',{toHRel:=hR,gZ:=fun n ts v hs ht=>(h.gZ n ts v hs ht).mono hle,size:=h.size,defers:=h.defers,pins:=fun n p hp=>⟨(h.pins n p hp).1,by rw[nQ];exact(h.pins n p hp).2⟩,dX:=h.dX}⟩
 ·rename_i k v x c hf
  obtain⟨E',hle,nQ,_,hR⟩:=h.toHRel.cA (kP.one (D:= .map true k v x none) hf (.inr (.inr ⟨_,_,_,_,_,rfl,rfl⟩)))
  exact⟨E',{toHRel:=hR,gZ:=fun n ts v hs ht=>(h.gZ n ts v hs ht).mono hle,size:=h.size,defers:=h.defers,pins:=fun n p hp=>⟨(h.pins n p hp).1,by rw[nQ];exact(h.pins n p hp).2⟩,dX:=h.dX}⟩
 ·exact⟨E,h⟩
def BJ (S:St):List Nat→St
 |[]=>S
 |m::l=>BJ (C4 S m) l
theorem zg:∀{l:List Nat} {S:St} {E:Env},ep w0 foot base S E a w→∃E',ep w0 foot base (BJ S l) E' a w
 |[],S,E,h=>⟨E,h⟩
 |m::l,S,E,h=>by
  obtain⟨E',h'⟩:=Nl h m
  exact zg (l:=l) (S:=C4 S m) h'
def Tq:List (Nat×c5)→Bool
 |[]=>false
 |(_,.row true _ _ _)::_=>true
 |(_,.map true _ _ _ _)::_=>true
 |_::l=>Tq l
def tr (r:Ren):List (Nat×c5)→List Nat
 |[]=>[]
 |(n,.row true _ _ _)::l=>(match find r n with
  |some (some m)=>m::tr r l
  |_=>tr r l)
 |(n,.map true _ _ _ _)::l=>(match find r n with
  |some (some m)=>m::tr r l
  |_=>tr r l)
 |_::l=>tr r l
def BI (S T:St):St:=
 match Tq T.bl with
 |false=>S
 |true=>(match uz S (MU S T.bl) T.sl with
  |none=>S
  |some (r,_)=>BJ S (tr r T.bl))
theorem Ig (h:ep w0 foot base S E a w):∃E',ep w0 foot base (BI S T) E' a w:=by
 unfold BI
 split
 ·exact⟨E,h⟩
 ·split
  ·exact⟨E,h⟩
  ·exact zg h
def Sm (X:Ctx) (k:Nat) (pR:List Operand):RM hY:=do
 let vs ←sM pR
 let cs ←tB vs
 let ty ←RM.ofOption (find X.clos k)
 let y ←reify ty cs
 return y.2
def xD (X:Ctx) (o:Oper) (S:St):St:=
 match o.guard,o.op with
 |some _,.makeFunc (.func k) _ pR=>(match(Sm X k pR.toList).run S [] with
  |some fr=>{S with bl:=cA fr S.bl}
  |none=>S)
 |_,_=>S
def Bk (X:Ctx):List Oper→St→St
 |[],S=>S
 |o::l,S=>Bk X l (xD X o S)
theorem Ik (h:ep w0 foot base S E a w) (o:Oper):∃E',ep w0 foot base (xD X o S) E' a w:=by
 unfold xD
 split
 ·split
  ·rename_i fr hr
   obtain⟨vs,_,hr⟩:=RM.run_bind' hr
   obtain⟨cs,_,hr⟩:=RM.run_bind' hr
   obtain⟨ty,_,hr⟩:=RM.run_bind' hr
   obtain⟨y,h4,hr⟩:=RM.run_bind' hr
   cases RM.run_pure' hr
   obtain⟨E',hle,nQ,_,hR⟩:=h.toHRel.cA (gx h4)
   exact⟨E',{toHRel:=hR,gZ:=fun n ts v hs ht=>(h.gZ n ts v hs ht).mono hle,size:=h.size,defers:=h.defers,pins:=fun n p hp=>⟨(h.pins n p hp).1,by rw[nQ];exact(h.pins n p hp).2⟩,dX:=h.dX}⟩
  ·exact⟨E,h⟩
 ·exact⟨E,h⟩
theorem yF:∀{l:List Oper} {S:St} {E:Env},ep w0 foot base S E a w→∃E',ep w0 foot base (Bk X l S) E' a w
 |[],S,E,h=>⟨E,h⟩
 |o::l,S,E,h=>by
  obtain⟨E',h'⟩:=Ik (X:=X) h o
  exact yF (l:=l) (S:=xD X o S) h'
inductive Ex where
 |normal
 |exit (id:Nat)
 |ret
structure LA where
 σ:Type
 ok:σ→Prop
 mu:σ→Nat
 sl:σ→List (Nat×SV)
 bl:σ→List (Nat×c5)
 keep:List Nat
 cy:List Nat
def MM (S:St):List Nat→List (Nat×(c8×SV))
 |[]=>[]
 |n::l=>match find S.sl n with
  |some ([],v)=>(n,[],v)::MM S l
  |_=>MM S l
def Gy (S:St):List Nat→List (Nat×c5)
 |[]=>[]
 |n::l=>match find S.bl n with
  |some B=>(n,B)::Gy S l
  |none=>Gy S l
def Wm:List (Nat×SV)→List (Nat×(c8×SV))
 |[]=>[]
 |(n,v)::l=>(n,[],v)::Wm l
def Xl:List (Nat×c5)→List Nat
 |[]=>[]
 |(n,_)::l=>n::Xl l
def MP (S:St) (L:LA) (s:L.σ):St:=
 {sl:=Wm (L.sl s)++MM S L.keep
  bl:=L.bl s++Gy S L.cy
  used:=Xl (L.bl s++Gy S L.cy)++S.oA
  n:=S.n
  oA:=S.oA}
structure eC where
 loop:Nat→Option (St→LA)
 split:Nat→Bool
def vw:Code→Option Nat
 | .region id _ _=>some id
 | .seq a b=>(match vw a with
  |some n=>some n
  |none=>vw b)
 | .cond _ a b=>(match vw a with
  |some n=>some n
  |none=>vw b)
 | .block _ c=>vw c
 | .loop c=>vw c
 | .scope c=>vw c
 |_=>none
def Gu (S T:St) (q:Prop):Prop:=
 match HF (BI S T) T with
 |some cs=>uT cs q
 |none=>False
def Wr (A:eC):Operand→Bool
 | .tmp t=>A.split t
 |_=>true
def Oi (k:St→Prop) (Q:Ex→St→Prop):Ex→St→Prop
 | .normal,S=>k S
 |e,S=>Q e S
def Sq (id:Nat) (Q:Ex→St→Prop):Ex→St→Prop
 | .exit i,S=>(match Nat.beq i id with
  |true=>Q .normal S
  |false=>Q (.exit i) S)
 |e,S=>Q e S
def vc (X:Ctx) (A:eC):Code→St→(Ex→St→Prop)→Prop
 | .skip,S,Q=>Q .normal S
 | .region _ ops draw,S,Q=>match region X ops draw S with
  |some (recs,S')=>uT (pJ recs) (Q .normal S')
  |none=>(match !draw&&clean S.sl with
   |true=>vI X ops ops.toList S [] (Q .normal)
   |false=>(match region X ops draw (Bk X ops.toList S) with
    |some (recs,S')=>uT (pJ recs) (Q .normal S')
    |none=>False))
 | .seq x y,S,Q=>vc X A x S (Oi (fun S1=>vc X A y S1 Q) Q)
 | .cond c x y,S,Q=>match(match Wr A c with
   |true=>none
   |false=>ex X (.cond c x y) S) with
  |some (cs,_,S')=>uT cs (Q .normal S')
  |none=>match(do JK (←ev c):RM Bool).run S [] with
   |some b=>(b=true→vc X A x S Q)∧(b=false→vc X A y S Q)
   |none=>False
 | .block id c,S,Q=>vc X A c S (Sq id Q)
 | .exit id,S,Q=>Q (.exit id) S
 | .ret,S,Q=>Q .ret S
 | .label _,S,Q=>Q .normal S
 | .scope c,S,Q=>vc X A c S Q
 | .loop c,S,Q=>match(match vw c with
   |some n=>A.loop n
   |none=>none) with
  |some la=>(∃s0,(la S).ok s0∧Gu S (MP S (la S) s0) True)∧
    ∀s,(la S).ok s→vc X A c (MP S (la S) s) (Oi (fun S'=>∃s',(la S).ok s'∧(la S).mu s'<(la S).mu s∧Gu S' (MP S (la S) s') True) Q)
  |none=>False
 |_,_,_=>False
def akl (w0:World) (foot:gF) (base:Mem) (Q:Ex→St→Prop):Exit→Act→World→Prop
 | .normal,a,w=>∃S E,Q .normal S∧ep w0 foot base S E a w
 | .exit id,a,w=>∃S E,Q (.exit id) S∧ep w0 foot base S E a w
 | .ret,a,w=>∃S E,Q .ret S∧ep w0 foot base S E a w
 |_,_,_=>False
theorem AR {q:Prop} (hm:Gu S T q) (h:ep w0 foot base S E a w):∃E',ep w0 foot base T E' a w:=by
 unfold Gu at hm
 split at hm
 ·rename_i cs mA
  obtain⟨E',h'⟩:=Ig (T:=T) h
  exact HE mA h' (iR hm).1
 ·cases hm
theorem oP (hT:dt P X.ay) (hK:∀f dy,X.dy f=some dy→mr P f dy) {A:eC}:∀{c:Code} {S:St} {Q:Ex→St→Prop} {E:Env} {a:Act} {w:World},vc X A c S Q→ep w0 foot base S E a w→c.wp P (akl w0 foot base Q) a w
 | .skip,S,Q,E,a,w,h,hR=>wp_skip ⟨S,E,h,hR⟩
 | .label _,S,Q,E,a,w,h,hR=>wp_label ⟨S,E,h,hR⟩
 | .exit id,S,Q,E,a,w,h,hR=>wp_exit ⟨S,E,h,hR⟩
 | .ret,S,Q,E,a,w,h,hR=>wp_ret ⟨S,E,h,hR⟩
 | .region id ops draw,S,Q,E,a,w,h,hR=>by
  unfold vc at h
  split at h
  ·rename_i recs S' hr
   exact vJ hT hK hr hR (iR h).1 fun E' a' w' h'=>⟨S',E',(iR h).2,h'⟩
  ·split at h
   ·rename_i hb
    simp only[Bool.and_eq_true,Bool.not_eq_true'] at hb
    obtain⟨rfl,mf⟩:=hb
    exact F6 hT hK h mf hR fun S' E' a' w' hq h'=>⟨S',E',hq,h'⟩
   ·split at h
    ·rename_i recs S' hr
     obtain⟨E1,h1⟩:=yF (X:=X) (l:=ops.toList) hR
     exact vJ hT hK hr h1 (iR h).1 fun E' a' w' h'=>⟨S',E',(iR h).2,h'⟩
    ·cases h
 | .seq x y,S,Q,E,a,w,h,hR=>by
  unfold vc at h
  refine wp_seq (wp_mono (oP hT hK h hR) fun e a' w' hp=> ?_)
  cases e with
  |normal=>obtain⟨S',E',h1,h2⟩:=hp;exact oP hT hK h1 h2
  |exit id=>exact hp
  |ret=>exact hp
  |goto l=>exact hp
  |panic ch=>exact hp
  |outgrown=>exact hp
 | .cond c x y,S,Q,E,a,w,h,hR=>by
  unfold vc at h
  split at h
  ·rename_i cs ch S' hx
   have hx:ex X (.cond c x y) S=some (cs,ch,S'):=by
    split at hx
    ·cases hx
    ·exact hx
   exact(rL hT hK hx).2 hR (iR h).1 fun E' a' w' h'=>⟨S',E',(iR h).2,h'⟩
  ·split at h
   ·rename_i b hb
    obtain⟨s,e1,e2⟩:=RM.run_bind' hb
    have hv:=zx (gj hR.toSRel (fun t ht=>by cases ht) e1) e2
    exact wp_cond_split hv (fun ht=>oP hT hK (h.1 ht) hR) (fun ht=>oP hT hK (h.2 ht) hR)
   ·cases h
 | .block id c,S,Q,E,a,w,h,hR=>by
  unfold vc at h
  refine wp_block (wp_mono (oP hT hK h hR) fun e a' w' hp=> ?_)
  cases e with
  |normal=>exact hp
  |exit i=>
   obtain⟨S',E',h1,h2⟩:=hp
   have h1:(match Nat.beq i id with |true=>Q .normal S'|false=>Q (.exit i) S'):=h1
   show if i=id then _ else _
   split at h1
   ·rename_i hb
    rw[if_pos (Nat.eq_of_beq_eq_true hb)]
    exact⟨S',E',h1,h2⟩
   ·rename_i hb
    rw[if_neg (fun e=>by subst e;simp at hb)]
    exact⟨S',E',h1,h2⟩
  |ret=>exact hp
  |goto l=>exact hp
  |panic ch=>exact hp
  |outgrown=>exact hp
 | .loop c,S,Q,E,a,w,h,hR=>by
  unfold vc at h
  split at h
  ·rename_i la hla
   obtain⟨⟨s0,k0,k1⟩,k2⟩:=h
   obtain⟨E0,hE0⟩:=AR k1 hR
   refine wp_loop_ghost (fun n a w=>∃s E,(la S).ok s∧(la S).mu s=n∧ep w0 foot base (MP S (la S) s) E a w) _ ⟨s0,E0,k0,rfl,hE0⟩ ?_
   rintro n a1 w1 ⟨s,E1,hs,rfl,h1⟩
   refine wp_mono (oP hT hK (k2 s hs) h1) fun e a' w' hp=> ?_
   cases e with
   |normal=>
    obtain⟨S',E',⟨s',q1,q2,q3⟩,h2⟩:=hp
    obtain⟨E'',h3⟩:=AR q3 h2
    exact⟨_,q2,s',E'',q1,rfl,h3⟩
   |exit id=>exact hp
   |ret=>exact hp
   |goto l=>exact hp
   |panic ch=>exact hp
   |outgrown=>exact hp
  ·cases h
 | .scope c,S,Q,E,a,w,h,hR=>by
  unfold vc at h
  refine wp_scope_straight (wp_mono (oP hT hK h hR) fun e a' w' hp=> ?_)
  cases e with
  |normal=>exact hp
  |exit id=>exact hp
  |ret=>exact hp
  |goto l=>cases hp
  |panic ch=>cases hp
  |outgrown=>cases hp
 | .rangeFunc _ _ _ _,_,_,_,_,_,h,_=>by cases h
 | .goto _,_,_,_,_,_,h,_=>by cases h
end Go.Vc
end

section
set_option linter.unusedVariables false
set_option linter.unusedSimpArgs false
namespace Go.Vc
open Go
variable {P:Program} {X:Ctx} {w0:World} {foot:gF} {base:Mem} {S T:St} {E:Env} {a:Act} {w:World} {ctx:c8}
@[reducible] def jI (ts:List Ty):Type:=List.rec (motive:=fun _=>Type) Unit (fun t _ d=>t.den×d) ts
def QB:(ts:List Ty)→jI ts→Prop
 |[],_=>True
 |t::ts,x=>t.wf x.1∧QB ts x.2
inductive Out where
 |data (ts:List Ty)
 |row (e:Nat) (t:Ty)
 |fresh (ts:List Ty)
def Out.Jm:Out→List Ty
 | .data ts=>ts
 | .row _ t=>[.list t]
 | .fresh ts=>ts
structure bh where
 args:List Ty
 out:Out
 pre:jI args→Prop
 fn:jI args→jI out.Jm
def nr (F:Mem) (t:Ty) (x:t.den) (v:Value):Prop:=
 match t.isAgg with
 |true=>∃vs,v= .agg vs∧dh F t x vs.toList
 |false=>dh F t x [v]
def lj (F:Mem):(ts:List Ty)→jI ts→List Value→Prop
 |[],_,vs=>vs=[]
 |t::ts,x,vs=>∃v us,vs=v::us∧nr F t x.1 v∧lj F ts x.2 us
theorem nr.mono {F F':Mem} (h:F.le F') {t:Ty} {x:t.den} {v:Value} (k:nr F t x v):nr F' t x v:=by
 unfold nr at *
 split at k
 ·obtain⟨vs,e,k⟩:=k;exact⟨vs,e,k.mono h⟩
 ·exact k.mono h
theorem lj.mono {F F':Mem} (h:F.le F'):∀{ts:List Ty} {x:jI ts} {vs:List Value},lj F ts x vs→lj F' ts x vs
 |[],_,_,k=>k
 |t::ts,x,vs,k=>by
  obtain⟨v,us,e,k1,k2⟩:=k
  exact⟨v,us,e,k1.mono h,k2.mono h⟩
theorem lj.length {F:Mem}:∀{ts:List Ty} {x:jI ts} {vs:List Value},lj F ts x vs→vs.length=ts.length
 |[],_,_,k=>by have k:_=_:=k;subst k;rfl
 |t::ts,x,vs,k=>by
  obtain⟨v,us,e,k1,k2⟩:=k
  subst e
  simp[k2.length]
theorem nr.wf {F:Mem} {t:Ty} {x:t.den} {v:Value} (k:nr F t x v):t.wf x:=by
 unfold nr at k
 split at k
 ·obtain⟨vs,e,k⟩:=k;exact k.wf
 ·exact k.wf
theorem lj.QB {F:Mem}:∀{ts:List Ty} {x:jI ts} {vs:List Value},lj F ts x vs→QB ts x
 |[],_,_,_=>trivial
 |t::ts,x,vs,k=>by
  obtain⟨v,us,e,k1,k2⟩:=k
  exact⟨k1.wf,k2.QB⟩
theorem nr.ahL {F:Mem} {t:Ty} {x:t.den} {v:Value} (k:nr F t x v):jA F t x v:=by
 unfold nr at k
 cases hb:t.isAgg with
 |true=>
  rw[hb] at k
  obtain⟨vs,e,k⟩:=k
  exact⟨vs.toList,k,by unfold Ty.valOf;rw[hb,e]⟩
 |false=>
  rw[hb] at k
  exact⟨[v],k,by unfold Ty.valOf;rw[hb];rfl⟩
theorem jA.afE {F:Mem} {t:Ty} {x:t.den} {v:Value} (k:jA F t x v):nr F t x v:=by
 obtain⟨us,k,e⟩:=k
 unfold Ty.valOf at e
 unfold nr
 cases hb:t.isAgg with
 |true=>
  rw[hb] at e
  exact⟨_,e,k⟩
 |false=>
  rw[hb] at e
  have hl:=k.length
  have h1:t.size=1:=by cases t<;>first|rfl|cases hb
  rw[h1] at hl
  obtain⟨u,rfl⟩:=List.length_eq_one_iff.1 hl
  rw[show v=u from e]
  exact k
theorem JT {t:Ty} {x:t.den} {v:Value} (k:nr E.F t x v):ft E (G0 t x) v:=k.ahL.sv
def oz:(ts:List Ty)→List SV→RM (jI ts×hY)
 |[],ss=>(match ss with
  |[]=> .ret ((),[])
  |_=> .fail)
 |t::ts,ss=>(match ss with
  |[]=> .fail
  |s::ss=>do
   let x ←reify t (←I8 t s)
   let y ←oz ts ss
   cR (o5 x.2 y.2)
   return ((x.1,y.1),x.2++y.2))
theorem Cq {t:Ty} {s:SV} {cs:List C} {x:t.den} {fr:hY} {v:Value} (h1:(I8 t s).run S ctx=some cs) (h2:(reify t cs).run S ctx=some (x,fr)) (hv:ft E s v) (hf:fm S.bl E w fr):nr E.F t x v:=
 (BX h1 h2 hv hf).afE
theorem wq:∀{ts:List Ty} {ss:List SV} {x:jI ts} {fr:hY},(oz ts ss).run S ctx=some (x,fr)→kP S.bl fr
 |[],ss,x,fr,h=>by
  unfold oz at h
  split at h
  ·cases h;exact .nil
  ·cases h
 |t::ts,ss,x,fr,h=>by
  unfold oz at h
  split at h
  ·cases h
  ·rename_i s ZQ
   obtain⟨cs,h1,h⟩:=RM.run_bind' h
   obtain⟨y,h2,h⟩:=RM.run_bind' h
   obtain⟨z,h3,h⟩:=RM.run_bind' h
   obtain⟨_,h4,h⟩:=RM.run_bind' h
   cases RM.run_pure' h
   exact(gx h2).append (wq h3) (bQ h4)
theorem yC:∀{ts:List Ty} {ss:List SV} {x:jI ts} {fr:hY} {vs:List Value},(oz ts ss).run S ctx=some (x,fr)→gy E ss vs→fm S.bl E w fr→lj E.F ts x vs
 |[],ss,x,fr,vs,h,hv,hf=>by
  unfold oz at h
  split at h
  ·cases h;exact hv
  ·cases h
 |t::ts,ss,x,fr,vs,h,hv,hf=>by
  unfold oz at h
  split at h
  ·cases h
  ·rename_i s ZQ
   obtain⟨cs,h1,h⟩:=RM.run_bind' h
   obtain⟨y,h2,h⟩:=RM.run_bind' h
   obtain⟨z,h3,h⟩:=RM.run_bind' h
   obtain⟨_,h4,h⟩:=RM.run_bind' h
   cases RM.run_pure' h
   obtain⟨v,us,rfl,k1,k2⟩:=hv
   exact⟨v,us,rfl,Cq h1 h2 k1 hf.left,yC h3 k2 hf.right⟩
def Ty.iu:Ty→Bool
 | .list _=>false
 | .pair a b=>a.iu&&b.iu
 | .ref _=>false
 | .ptr _=>false
 | .lD _ _=>false
 | .map _ _=>false
 |_=>true
theorem dh.iu {F F':Mem}:∀{t:Ty} {x:t.den} {vs:List Value},t.iu=true→dh F t x vs→dh F' t x vs
 | .int _,_,_,_,h=>h
 | .bool,_,_,_,h=>h
 | .str,_,_,_,h=>h
 | .list _,_,_,hb,_=>by cases hb
 | .unit,_,_,_,h=>h
 | .pair a b,_,_,hb,h=>by
  have hb:(a.iu&&b.iu)=true:=hb
  simp only[Bool.and_eq_true] at hb
  obtain⟨us,ws,h0,h1,h2⟩:=h
  exact⟨us,ws,h0,dh.iu hb.1 h1,dh.iu hb.2 h2⟩
def Mh:(ts:List Ty)→jI ts→List (Bool×List C)
 |[],_=>[]
 |t::ts,x=>(t.isAgg,flat t x.1)::Mh ts x.2
def Di (ts:List Ty) (x:jI ts):SV:=
 match ts,x with
 |[t],x=>G0 t x.1
 |ts,x=> .yb (Mh ts x)
def Out.val (id:Nat):(o:Out)→jI o.Jm→SV
 | .data ts,x=>Di ts x
 | .row _ t,_=> .one (.row t id)
 | .fresh ts,x=>Di ts x
def Out.bl (id:Nat):(o:Out)→jI o.Jm→List (Nat×c5)
 | .data _,_=>[]
 | .row e t,x=>[(id,.row false e t x.1)]
 | .fresh _,_=>[]
def Out.new (id:Nat):Out→List Nat
 | .data _=>[]
 | .row _ _=>[id]
 | .fresh _=>[]
def Out.free:Out→Bool
 | .data ts=>ts.all Ty.iu
 | .row _ t=>t.iu
 | .fresh _=>true
def Out.Pa:Out→Bool
 | .fresh _=>true
 |_=>false
def lu (F:Mem) (ts:List Ty) (x:jI ts) (v:Value):Prop:=
 match ts,x with
 |[t],x=>nr F t x.1 v
 |ts,x=>∃vs,v= .tuple vs∧lj F ts x vs.toList
def Out.dh (F:Mem) (w w':World):(o:Out)→jI o.Jm→Value→Prop
 | .data ts,x,v=>lu F ts x v
 | .row e t,x,v=>∃p:Place,(p.nil=false→w.heap.size≤p.bc∧F p.bc=none)∧fX ⟨F,fun _=>none⟩ w' p (.row false e t x.1)∧
   ((p.nil=true∧v= .slice none 0 0∧p.len=0)∨(p.nil=false∧v= .slice (some ⟨p.bc,0,none⟩) p.len p.cap∧p.len≤p.cap∧p.cap≤aK))
 | .fresh ts,x,v=>∃G:Mem,G.le F∧(∀b o,G b=some o→w.heap.size≤b)∧lu G ts x v
structure aM (P:Program) (f:Nat) (c:bh):Prop where
 fn:∃fn code,P.funcs[f]? =some fn∧(fn.name=="runtime.NumGoroutine")=false∧fn.body=some code
 calls:∀(F:Mem) (w:World) (x:jI c.args) (vs:List Value),(∀b o,F b=some o→w.heap[b]? =some o)→lj F c.args x vs→c.pre x→
  Calls P f vs.toArray w fun e w'=>∃v F',e= .returned v∧F.le F'∧(∀b o,F' b=some o→w'.heap[b]? =some o)∧(∀b o,F' b=some o→F b=some o∨w.heap.size≤b)∧
   sD (fun _=>False) w w'∧c.out.dh F' w w' (c.fn x) v
def bh.dy (c:bh):SK where
 run ss d:=do
  let x ←oz c.args ss
  .ret {val:=some (c.out.val d (c.fn x.1)),ck:=(match c.out.free with
   |true=>[]
   |false=>x.2)++c.out.bl d (c.fn x.1),new:=c.out.new d,conds:=[c.pre x.1]}
theorem lj.go {F:Mem} {G:Mem} (hG:E.F=G) (h:F.le G):∀{ts:List Ty} {x:jI ts} {vs:List Value},lj F ts x vs→ft.go E (Mh ts x) vs
 |[],_,_,k=>k
 |t::ts,x,vs,k=>by
  obtain⟨v,us,e,k1,k2⟩:=k
  refine⟨v,us,e,?_,k2.go hG h⟩
  have k1:=k1.mono h
  rw[←hG] at k1
  unfold nr at k1
  cases hb:t.isAgg with
  |true=>
   rw[hb] at k1
   obtain⟨ws,e,k⟩:=k1
   exact⟨ws,e,gG k⟩
  |false=>
   rw[hb] at k1
   have k2:=gG (E:=E) k1
   have hl:=tg t x.1
   have h1:t.size=1:=by cases t<;>first|rfl|cases hb
   rw[h1] at hl
   obtain⟨c,hc⟩:=List.length_eq_one_iff.1 hl
   rw[hc] at k2
   obtain⟨u,hu,k2⟩:=js k2
   cases hu
   exact⟨c,hc,k2⟩
theorem lu.val {ts:List Ty} {x:jI ts} {v:Value} (k:lu E.F ts x v):ft E (Di ts x) v:=by
 unfold lu at k
 unfold Di
 split at k
 ·exact JT k
 ·obtain⟨vs,rfl,k⟩:=k
  exact⟨vs,rfl,k.go rfl (.refl _)⟩
theorem nr.iu {F F':Mem} {t:Ty} {x:t.den} {v:Value} (hb:t.iu=true) (k:nr F t x v):nr F' t x v:=by
 unfold nr at *
 split at k
 ·obtain⟨vs,e,k⟩:=k;exact⟨vs,e,k.iu hb⟩
 ·exact k.iu hb
theorem lj.iu {F F':Mem}:∀{ts:List Ty} {x:jI ts} {vs:List Value},ts.all Ty.iu=true→lj F ts x vs→lj F' ts x vs
 |[],_,_,_,k=>k
 |t::ts,x,vs,hb,k=>by
  simp only[List.all_cons,Bool.and_eq_true] at hb
  obtain⟨v,us,e,k1,k2⟩:=k
  exact⟨v,us,e,k1.iu hb.1,k2.iu hb.2⟩
theorem lu.iu {F F':Mem} {ts:List Ty} {x:jI ts} {v:Value} (hb:ts.all Ty.iu=true) (k:lu F ts x v):lu F' ts x v:=by
 unfold lu at *
 split at k
 ·simp only[List.all_cons,List.all_nil,Bool.and_true] at hb
  exact k.iu hb
 ·obtain⟨vs,e,k⟩:=k;exact⟨vs,e,k.iu hb⟩
theorem HRel.aeN {bl:List (Nat×c5)} {used:List Nat} (h:HRel w0 foot base bl used E w) {d:Nat} {p:Place} {B:c5} (hd:d∉used)
  (hp:p.nil=false→w0.heap.size≤p.bc∧E.F p.bc=none∧∀i B' q,find bl i=some B'→E.place i=some q→q.nil=false→q.bc≠p.bc)
  (hB:fX (E.new d p) w p B):HRel w0 foot base (put bl d B) (d::used) (E.new d p) w:=by
 cases hn:p.nil with
 |true=>exact h.Mt hd hn hB
 |false=>
  obtain⟨h1,h2,h3⟩:=hp hn
  have dK:=hB.lt hn
  obtain⟨o,ho⟩:∃o,w.heap[p.bc]? =some o:=⟨_,Array.getElem?_eq_getElem dK⟩
  have hw:eu w p.bc o=w:=by
   unfold eu
   have:w.heap.setIfInBounds p.bc o=w.heap:=by
    apply Array.ext_getElem?
    intro i
    by_cases hi:p.bc=i
    ·subst hi;rw[Array.getElem?_setIfInBounds_self_of_lt dK,ho]
    ·rw[Array.getElem?_setIfInBounds_ne hi]
   rw[this]
  have:=h.attach (o:=o) hd hn rfl dK (.inl h1) h2 h3 (by rw[hw];exact hB)
  rw[hw] at this
  exact this
theorem gy.mono {E E':Env} (h:E.le E'):∀{ss:List SV} {vs:List Value},gy E ss vs→gy E' ss vs
 |[],_,k=>k
 |s::ss,_,k=>by
  obtain⟨v,us,e,k1,k2⟩:=k
  exact⟨v,us,e,k1.mono h,k2.mono h⟩
theorem lu.mono {F F':Mem} (h:F.le F'):∀{ts:List Ty} {x:jI ts} {v:Value},lu F ts x v→lu F' ts x v
 |[],_,_,k=>by obtain⟨vs,e,k⟩:=k;exact⟨vs,e,lj.mono h k⟩
 |[t],_,_,k=>nr.mono h k
 |_::_::_,_,_,k=>by obtain⟨vs,e,k⟩:=k;exact⟨vs,e,lj.mono h k⟩
theorem Out.dh.free {F F2:Mem} {w w':World} {o:Out} {y:jI o.Jm} {v:Value} (hnf:o.Pa=false) (hf:o.free=true) (h2:∀b,w.heap.size≤b→F2 b=none) (k:o.dh F w w' y v):o.dh F2 w w' y v:=by
 cases o with
 |data ts=>exact lu.iu hf k
 |row e t=>
  obtain⟨p,k1,k2,k3⟩:=k
  refine⟨p,fun hn=>⟨(k1 hn).1,h2 _ (k1 hn).1⟩,?_,k3⟩
  rcases k2 with k2|⟨hn,h0,h1,vs,h3,h4,h5,h6⟩
  ·exact .inl k2
  ·refine .inr ⟨hn,h0,h1,vs,h3,h4,fun h=>(by cases h),fun i x hx=> ?_⟩
   obtain⟨us,q1,q2⟩:=h6 i x hx
   exact⟨us,q1.iu hf,q2⟩
 |fresh ts=>cases hnf
theorem Out.dh.after {bl:List (Nat×c5)} {used:List Nat} {w w':World} {o:Out} {y:jI o.Jm} {v:Value} {d:Nat} (hR:HRel w0 foot base bl used E w') (hd:∀i∈o.new d,i∉used) (iX:w0.heap.size≤w.heap.size)
  (hold:∀i B q,find bl i=some B→E.place i=some q→q.nil=false→q.bc<w.heap.size) (k:o.dh E.F w w' y v):
  ∃E',E.le E'∧HRel w0 foot base (gN {ck:=o.bl d y} bl) (o.new d++used) E' w'∧ft E' (o.val d y) v:=by
 cases o with
 |data ts=>exact⟨E,.refl _,hR,lu.val k⟩
 |fresh ts=>
  obtain⟨G,g1,_,g3⟩:=k
  exact⟨E,.refl _,hR,lu.val (g3.mono g1)⟩
 |row e t=>
  obtain⟨p,k1,k2,k3⟩:=k
  have hdu:d∉used:=hd d (List.mem_singleton.2 rfl)
  have jR:E.place d=none:=by
   cases he:E.place d with
   |none=>rfl
   |some q=>exact absurd (hR.used d q he) hdu
  have hle:=Env.nB (p:=p) jR
  refine⟨E.new d p,hle,?_,⟨p,Env.fa,k3⟩⟩
  refine hR.aeN hdu (fun hn=>⟨Nat.le_trans iX (k1 hn).1,(k1 hn).2,fun i B' q hf hq By=> ?_⟩) (k2.mono ⟨.refl _,fun _ _ h=>by cases h⟩)
  have:=hold i B' q hf hq By
  have:=(k1 hn).1
  omega
theorem Gj (A B:List (Nat×c5)) (bl:List (Nat×c5)) (r:List Nat) (v:Option SV) (cs:List Prop):gN {val:=v,ck:=A++B,new:=r,conds:=cs} bl=gN {ck:=B} (cA A bl):=by
 simp[gN,cA]
theorem aM.dy {f:Nat} {c:bh} (hc:aM P f c):mr P f c.dy where
 fn:=hc.fn
 calls w0 foot base S ctx E w args vs d r h hv hr cq ql:=by
  obtain⟨⟨x,fr⟩,h1,hr⟩:=RM.run_bind' hr
  cases RM.run_pure' hr
  have od:c.pre x:=cq _ (List.mem_singleton.2 rfl)
  have ho:=wq h1
  obtain⟨E2,hle,nQ,wD,Nd⟩:=h.cA ho
  have air:=fm.qg ho Nd
  have hx:=yC h1 (hv.mono hle) air
  refine(hc.calls E2.F w x vs Nd.mW hx od).mono fun e w'=> ?_
  rintro⟨v,F',rfl,hF,FH,ad0,hk,vv⟩
  have RO:∀{bl used E},HRel w0 foot base bl used E w→∀i B q,find bl i=some B→E.place i=some q→q.nil=false→q.bc<w.heap.size:=fun hH i B q hf hq hn=>by
   obtain⟨q',ni,k⟩:=hH.ck i B hf
   rw[hq] at ni
   cases ni
   exact k.lt hn
  have fin:∀{A:List (Nat×c5)} {E3:Env},E.le E3→HRel w0 foot base (cA A S.bl) S.used E3 w'→(∀i B q,find (cA A S.bl) i=some B→E3.place i=some q→q.nil=false→q.bc<w.heap.size)→c.out.dh E3.F w w' (c.fn x) v→
    ∃v' E',Ending.returned v= .returned v'∧iw w0 foot base S.bl S.used E {val:=some (c.out.val d (c.fn x)),ck:=A++c.out.bl d (c.fn x),new:=c.out.new d,conds:=[c.pre x]} E' w' v':=fun {A E3} Tm X6 ad6 ad5=>by
   obtain⟨E',q1,q2,q3⟩:=Out.dh.after X6 ql h.keep.size ad6 ad5
   exact⟨v,E',rfl,Tm.trans q1,by rw[Gj];exact q2,q3⟩
  cases uJ:c.out.Pa with
  |true=>
   obtain⟨ca,co,cp,cf⟩:=c
   cases co with
   |data ts=>cases uJ
   |row e t=>cases uJ
   |fresh ts=>
    obtain⟨G,g1,g2,g3⟩:=vv
    have Tm:E.F.le (fun b=>match E.F b with |some o=>some o|none=>G b):=fun b o hb=>by
     show(match E.F b with |some o=>some o|none=>G b)=some o
     rw[hb]
    have hG:G.le (fun b=>match E.F b with |some o=>some o|none=>G b):=fun b o hb=>by
     show(match E.F b with |some o=>some o|none=>G b)=some o
     cases he:E.F b with
     |none=>exact hb
     |some o'=>have:=dw (h.mW _ _ he);have:=g2 b o hb;omega
    have adZ:∀b o,(match E.F b with |some o=>some o|none=>G b)=some o→E.F b=some o∨w.heap.size≤b:=fun b o hb=>by
     cases he:E.F b with
     |none=>rw[he] at hb;exact .inr (g2 b o hb)
     |some o'=>rw[he] at hb;exact .inl hb
    have X6:HRel w0 foot base S.bl S.used {E with F:=fun b=>match E.F b with |some o=>some o|none=>G b} w':=h.ML hk Tm (fun b o hb=>by
     cases he:E.F b with
     |none=>
      have hb:(match E.F b with |some o=>some o|none=>G b)=some o:=hb
      rw[he] at hb
      exact FH b o (g1 b o hb)
     |some o'=>
      have hb:(match E.F b with |some o=>some o|none=>G b)=some o:=hb
      rw[he] at hb
      cases hb
      exact(hk.block b (dw (h.mW b _ he)) (fun h=>h)).trans (h.mW b _ he)) adZ
    exact fin (A:=[]) (E3:={E with F:=fun b=>match E.F b with |some o=>some o|none=>G b}) ⟨Tm,fun _ _ h=>h⟩ X6 (fun i B q hf hq hn=>RO h i B q hf hq hn) ⟨G,hG,g2,g3⟩
  |false=>
  cases aep:c.out.free with
  |true=>
   have X6:HRel w0 foot base S.bl S.used E w':=h.ML hk (.refl _) (fun b o hb=>(hk.block b (dw (h.mW b o hb)) (fun h=>h)).trans (h.mW b o hb)) (fun b o hb=> .inl hb)
   refine fin (A:=[]) (.refl _) X6 (RO h) (vv.free uJ aep fun b hb=> ?_)
   cases he:E.F b with
   |none=>rfl
   |some o=>have:=dw (h.mW _ _ he);omega
  |false=>
   exact fin (A:=fr) (E3:={E2 with F:=F'}) (hle.trans ⟨hF,fun _ _ h=>h⟩) (Nd.ML hk hF FH ad0) (fun i B q hf hq hn=>RO Nd i B q hf hq hn) vv
end Go.Vc
end

section
set_option linter.unusedVariables false
set_option linter.unusedSimpArgs false
namespace Go.Vc
open Go
variable {P:Program} {X:Ctx} {w0:World} {foot:gF} {base:Mem} {S T:St} {E:Env} {a:Act} {w:World} {ctx:c8}
def NM:(ts:List Ty)→jI ts→Nat→List (Nat×(c8×SV))
 |[],_,_=>[]
 |t::ts,x,i=>(i,[],G0 t x.1)::NM ts x.2 (i+1)
def S0 (fn:Func) (c:bh) (x:jI c.args):St:={sl:=NM c.args x 0,bl:=[],used:=[],n:=fn.ntmps}
def OE (X:Ctx):ResultVar→RM SV
 | .tmp t=> .slot [] t .ret
 | .cell a t=>do
  let i ←ti X t
  let cs ←CI i.size (←lC (.tmp a))
  cR (Nat.beq cs.length i.size)
  CC i.d cs
def IC (X:Ctx):(ts:List Ty)→List ResultVar→jI ts→RM (List Prop×hY)
 |[],rs,_=>(match rs with
  |[]=> .ret ([],[])
  |_=> .fail)
 |t::ts,rs,y=>(match rs with
  |[]=> .fail
  |r::rs=>do
   let z ←reify t (←I8 t (←OE X r))
   let q ←IC X ts rs y.2
   cR (o5 z.2 q.2)
   return ((z.1=y.1)::q.1,z.2++q.2))
def WA (X:Ctx) (e:Nat) (t:Ty) (r:ResultVar) (y:List t.den):RM (List Prop):=do
 match ←OE X r with
 | .one .km=> .ret [[]=y]
 | .one (.row tt b)=> .bc b fun
  | .row false e' t' xs=>(match tt.beq t'&&Nat.beq e e' with
   |true=>do
    let zs ←RM.ofOption (Ty.as (a:= .list t') (.list t) (lit xs))
    return [Ty.L zs=y]
   |false=> .fail)
  |_=> .fail
 |_=> .fail
def SY (X:Ctx) (rs:List ResultVar):(o:Out)→jI o.Jm→RM (List Prop)
 | .data ts,y=>do return (←IC X ts rs y).1
 | .row e t,y=>(match rs with
  |[r]=>WA X e t r y.1
  |_=> .fail)
 | .fresh _,_=> .fail
def WB (X:Ctx) (rs:List ResultVar) (o:Out) (y:jI o.Jm):Ex→St→Prop
 | .exit _,_=>False
 |_,S=>match(SY X rs o y).run S [] with
  |some ps=>uT ps True
  |none=>False
def U {α:Type} (t:α) (p:α→Prop):Prop:=p t
theorem U.mk {α:Type} {t:α} {p:α→Prop} (h:∀y,y=t→p y):U t p:=h t rfl
@[irreducible] def ai (X:Ctx) (fn:Func) (c:bh) (A:eC) (x:jI c.args):Prop:=
 match fn.body with
 |some code=>vc X A code (S0 fn c x) (WB X fn.results.toList c.out (c.fn x))
 |none=>False
def Tt (fn:Func) (c:bh):Bool:=Nat.ble c.args.length fn.ntmps&&fn.body.isSome
def ai2 (X:Ctx) (fn:Func) (c:bh) (A:jI c.args→eC):Prop:=
 Tt fn c=true∧∀x,QB c.args x→c.pre x→ai X fn c (A x) x
theorem BZ {F:Mem}:∀{ts:List Ty} {x:jI ts} {vs:List Value} {i:Nat},lj F ts x vs→∀n tags v,find (NM ts x i) n=some (tags,v)→
  tags=[]∧i≤n∧n<i+ts.length∧ft ⟨F,fun _=>none⟩ v (vs.getD (n - i) undef)
 |[],x,vs,i,h,n,tags,v,hf=>by cases hf
 |t::ts,x,vs,i,h,n,tags,v,hf=>by
  obtain⟨u,us,rfl,k1,k2⟩:=h
  unfold NM at hf
  by_cases e:i=n
  ·subst e
   have:some (([]:c8),G0 t x.1)=some (tags,v):=by simpa [find] using hf
   cases this
   refine⟨rfl,Nat.le_refl _,by simp,?_⟩
   simpa using JT (E:=⟨F,fun _=>none⟩) k1
  ·rw[ei e] at hf
   obtain⟨h1,h2,h3,h4⟩:=BZ k2 n tags v hf
   refine⟨h1,by omega,by simp only[List.length_cons];omega,?_⟩
   have:n - i=(n - (i+1))+1:=by omega
   rw[this]
   simpa using h4
theorem Sr {fn:Func} {c:bh} {x:jI c.args} {F:Mem} {vs:List Value} (hlen:Nat.ble c.args.length fn.ntmps=true) (hF:∀b o,F b=some o→w.heap[b]? =some o) (hx:lj F c.args x vs):
  ep w Gr F (S0 fn c x) ⟨F,fun _=>none⟩ {tmps:=vs.toArray++Array.replicate (fn.ntmps - vs.toArray.size) undef,defers:=[]} w where
 keep:= .refl _ _
 mW:=hF
 src:=fun b o hb=> .inl hb
 ck:=fun id B hf=>by cases hf
 own:=fun id B p hf=>by cases hf
 inj:=fun id MV B B' p p' hf=>by cases hf
 used:=fun id p hp=>by cases hp
 gZ:=fun n tags v hf ht=>by
  obtain⟨h1,h2,h3,h4⟩:=BZ hx n tags v hf
  have hl:=hx.length
  have hn:n<vs.length:=by omega
  rw[Nat.sub_zero] at h4
  have:(vs.toArray++Array.replicate (fn.ntmps - vs.toArray.size) undef).getD n undef=vs.getD n undef:=by
   rw[Array.getD_eq_getD_getElem?,Array.getElem?_append_left (by simpa using hn)]
   simp[List.getD_eq_getElem?_getD]
  show ft _ v ((vs.toArray++Array.replicate (fn.ntmps - vs.toArray.size) undef).getD n undef)
  rw[this]
  exact h4
 size:=by
  have hl:=hx.length
  have:=Nat.le_of_ble_eq_true hlen
  show(vs.toArray++Array.replicate (fn.ntmps - vs.toArray.size) undef).size=fn.ntmps
  simp
  omega
 defers:=rfl
 pins:=fun n p h=>by cases h
 dX:=fun n tags v hf ht=>by
  obtain⟨h1,_⟩:=BZ hx n tags v hf
  subst h1
  exact absurd (fun t ht=>by cases ht) ht
def rd (tmps:Array Value):ResultVar→Sem Value
 | .tmp t=>pure (tmps.getD t undef)
 | .cell b t=>do loadVar t (←asAddr (tmps.getD b undef))
theorem yA (hT:dt P X.ay) (h:ep w0 foot base S E a w) {r:ResultVar} {s:SV} (hr:(OE X r).run S []=some s):
  ∃v,(rd a.tmps r).run P w= .ok v w∧ft E s v:=by
 cases r with
 |tmp t=>
  exact⟨_,rfl,gj (x:= .tmp t) h.toSRel (ctx:=[]) (fun t ht=>by cases ht) hr⟩
 |cell b t=>
  unfold OE at hr
  obtain⟨i,h1,hr⟩:=RM.run_bind' hr
  obtain⟨c,h2,hr⟩:=RM.run_bind' hr
  obtain⟨cs,h3,hr⟩:=RM.run_bind' hr
  obtain⟨u,h4,hr⟩:=RM.run_bind' hr
  obtain⟨hs,j,hj,e1,e2,e3⟩:=df hT h1
  obtain⟨g,off,us,hv,k1,k2⟩:=AT h.toHRel h3 (gq (x:= .tmp b) h.toSRel (ctx:=[]) (fun t ht=>by cases ht) h2)
  have hl:us.length=j.size:=by rw[k1.length,Nat.eq_of_beq_eq_true (bQ h4),e1]
  rw[←hs] at hr
  obtain⟨v,dA,jz⟩:=AN hr hj hl k1 k2
  have hv:a.tmps.getD b undef= .pointer (some ⟨g,off,none⟩):=hv
  refine⟨v,?_,jz⟩
  simp[rd,hv,asAddr,dA]
theorem Dj (hT:dt P X.ay) (h:ep w0 foot base S E a w):∀{ts:List Ty} {rs:List ResultVar} {y:jI ts} {ps:List Prop} {fr:hY},(IC X ts rs y).run S []=some (ps,fr)→(∀p∈ps,p)→
  kP S.bl fr∧∃vs,(rs.mapM (rd a.tmps)).run P w= .ok vs w∧∀E',E.le E'→fm S.bl E' w fr→lj E'.F ts y vs
 |[],rs,y,ps,fr,hr,hp=>by
  unfold IC at hr
  split at hr
  ·cases hr
   exact⟨.nil,[],rfl,fun _ _ _=>rfl⟩
  ·cases hr
 |t::ts,rs,y,ps,fr,hr,hp=>by
  unfold IC at hr
  split at hr
  ·cases hr
  ·rename_i r rs'
   obtain⟨s,h1,hr⟩:=RM.run_bind' hr
   obtain⟨cs,h2,hr⟩:=RM.run_bind' hr
   obtain⟨z,h3,hr⟩:=RM.run_bind' hr
   obtain⟨q,h4,hr⟩:=RM.run_bind' hr
   obtain⟨_,h5,hr⟩:=RM.run_bind' hr
   cases RM.run_pure' hr
   obtain⟨z1,z2⟩:=z
   obtain⟨q1,q2⟩:=q
   obtain⟨v,dA,jz⟩:=yA hT h h1
   obtain⟨k1,vs,k2,k3⟩:=Dj hT h h4 (fun p hm=>hp p (List.mem_cons_of_mem _ hm))
   have hz:=hp _ List.mem_cons_self
   have hz:z1=y.1:=hz
   subst hz
   refine⟨(gx h3).append k1 (bQ h5),v::vs,?_,fun E' hle hf=>⟨v,vs,rfl,Cq h2 h3 (jz.mono hle) hf.left,k3 E' hle hf.right⟩⟩
   simp[List.mapM_cons,dA,k2]
theorem OC (fn:Func) (tmps:Array Value):results fn tmps=(do
  let vs ←fn.results.mapM (rd tmps)
  pure (if h:vs.size=1 then vs[0] else .tuple vs)):=rfl
theorem xk {fn:Func} {tmps:Array Value} {vs:List Value} (h:(fn.results.toList.mapM (rd tmps)).run P w= .ok vs w):(results fn tmps).run P w= .ok (if h:vs.length=1 then vs[0] else .tuple vs.toArray) w:=by
 rw[OC,Array.mapM_eq_mapM_toList]
 simp[h]
theorem lu.of {F:Mem}:∀{ts:List Ty} {x:jI ts} {vs:List Value},lj F ts x vs→lu F ts x (if h:vs.length=1 then vs[0] else .tuple vs.toArray)
 |[],x,vs,k=>by
  have k:vs=[]:=k
  subst k
  exact⟨_,rfl,rfl⟩
 |[t],x,vs,k=>by
  obtain⟨v,us,rfl,q1,q2⟩:=k
  have q2:us=[]:=q2
  subst q2
  exact q1
 |t::u::ts,x,vs,k=>by
  have hl:=k.length
  simp only[List.length_cons] at hl
  rw[dif_neg (by omega)]
  exact⟨_,rfl,k⟩
def fb (F G:Mem):Mem:=fun b=>match F b with
 |some o=>some o
 |none=>G b
theorem OJ (hT:dt P X.ay) (R1:∀b o,base b=some o→w0.heap[b]? =some o) (h:ep w0 Gr base S E a w) {fn:Func} {o:Out} {y:jI o.Jm} {ps:List Prop} (hr:(SY X fn.results.toList o y).run S []=some ps) (hp:∀p∈ps,p):
  ∃v,(results fn a.tmps).run P w= .ok v w∧∃F',base.le F'∧(∀b o,F' b=some o→w.heap[b]? =some o)∧(∀b o,F' b=some o→base b=some o∨w0.heap.size≤b)∧o.dh F' w0 w y v:=by
 have gI:∀b o,base b=some o→w.heap[b]? =some o:=fun b o hb=>(h.keep.block b (dw (R1 b o hb)) (fun h=>h)).trans (R1 b o hb)
 have fin:∀{bl:List (Nat×c5)} {used:List Nat} {E2:Env},HRel w0 Gr base bl used E2 w→base.le (fb base E2.F)∧E2.F.le (fb base E2.F)∧(∀b o,(fb base E2.F) b=some o→w.heap[b]? =some o)∧(∀b o,(fb base E2.F) b=some o→base b=some o∨w0.heap.size≤b):=fun {bl used E2} h2=>by
  refine⟨fun b o hb=> ?_,fun b o hb=> ?_,fun b o hb=> ?_,fun b o hb=> ?_⟩
  ·unfold fb;rw[hb]
  ·unfold fb
   split
   ·rename_i o' rE
    rw[←gI b o' rE,h2.mW b o hb]
   ·exact hb
  ·unfold fb at hb
   split at hb
   ·rename_i o' rE;cases hb;exact gI b _ rE
   ·exact h2.mW b o hb
  ·unfold fb at hb
   split at hb
   ·rename_i o' rE;cases hb;exact .inl rE
   ·rcases h2.src b o hb with h3|h3|h3
    ·exact .inl h3
    ·exact .inr h3
    ·cases h3
 cases o with
 |data ts=>
  unfold SY at hr
  obtain⟨q,h1,hr⟩:=RM.run_bind' hr
  cases RM.run_pure' hr
  obtain⟨ps,fr⟩:=q
  obtain⟨k1,vs,k2,k3⟩:=Dj hT h h1 hp
  obtain⟨E2,hle,nQ,wD,Nd⟩:=h.toHRel.cA k1
  have k4:=k3 E2 hle (fm.qg k1 Nd)
  obtain⟨f1,f2,f3,f4⟩:=fin Nd
  refine⟨_,xk k2,fb base E2.F,f1,f3,f4,?_⟩
  have k5:=k4.mono f2
  exact lu.of k5
 |fresh ts=>cases hr
 |row e t=>
  have hr:(match fn.results.toList with |[r]=>WA X e t r y.1|_=>(.fail:RM (List Prop))).run S []=some ps:=hr
  split at hr
  ·rename_i r XF
   unfold WA at hr
   obtain⟨s,h1,hr⟩:=RM.run_bind' hr
   obtain⟨v,dA,jz⟩:=yA hT h h1
   have Tj:(results fn a.tmps).run P w= .ok v w:=by
    have:=xk (P:=P) (w:=w) (fn:=fn) (tmps:=a.tmps) (vs:=[v]) (by rw[XF];simp[dA])
    simpa using this
   obtain⟨f1,f2,f3,f4⟩:=fin h.toHRel
   refine⟨v,Tj,fb base E.F,f1,f3,f4,?_⟩
   split at hr
   ·cases hr
    have hy:=hp _ (List.mem_singleton.2 rfl)
    have jz:v=_:=jz
    exact⟨⟨true,0,0,0⟩,fun hn=>(by cases hn),.inl ⟨rfl,hy.symm,rfl⟩,.inl ⟨rfl,jz,rfl⟩⟩
   ·rename_i tt b
    simp only[RM.run] at hr
    split at hr
    ·rename_i B hf
     split at hr
     ·rename_i e' t' xs
      split at hr
      ·rename_i hb
       simp only[Bool.and_eq_true] at hb
       obtain⟨zs,h2,hr⟩:=RM.run_bind' hr
       cases RM.run_pure' hr
       have hy:=hp _ (List.mem_singleton.2 rfl)
       obtain⟨ee,rfl⟩:=Ty.iJ (bY h2)
       cases ee
       have hy:xs=y.1:=hy
       have:=Nat.eq_of_beq_eq_true hb.2
       subst this
       obtain⟨p,nQ,hv⟩:=jz
       obtain⟨q,hq,hB⟩:=h.ck b _ hf
       rw[nQ] at hq
       cases hq
       refine⟨p,fun hn=> ?_,?_,hv⟩
       ·have ho:=h.own b _ p hf nQ hn
        have h0:w0.heap.size≤p.bc:=ho.1.resolve_right (fun h=>h)
        refine⟨h0,?_⟩
        unfold fb
        split
        ·rename_i o' rE
         have:=dw (R1 _ _ rE)
         omega
        ·exact ho.2 rfl
       ·rw[←hy]
        rcases hB with hB|⟨hn,h0,nR,vs,h3,h4,h5,h6⟩
        ·exact .inl hB
        ·refine .inr ⟨hn,h0,nR,vs,h3,h4,fun h=>(by cases h),fun i x hx=> ?_⟩
         obtain⟨us,g1,g2⟩:=h6 i x hx
         exact⟨us,g1.mono f2,g2⟩
      ·cases hr
     ·cases hr
    ·cases hr
   ·cases hr
  ·cases hr
theorem aM.of (hT:dt P X.ay) (hK:∀f dy,X.dy f=some dy→mr P f dy) {f:Nat} {fn:Func} {c:bh} {A:jI c.args→eC} (hf:P.funcs[f]? =some fn) (hn:(fn.name=="runtime.NumGoroutine")=false)
  (hv:ai2 X fn c A):aM P f c where
 fn:=by
  obtain⟨h,_⟩:=hv
  simp only[Tt,Bool.and_eq_true] at h
  obtain⟨code,hb⟩:=Option.isSome_iff_exists.1 h.2
  exact⟨fn,code,hf,hn,hb⟩
 calls F w x vs hF hx od:=by
  obtain⟨hlen,h⟩:=hv
  simp only[Tt,Bool.and_eq_true] at hlen
  replace hlen:=hlen.1
  have h:=h x hx.QB od
  unfold ai at h
  cases hb:fn.body with
  |none=>rw[hb] at h;cases h
  |some code=>
   rw[hb] at h
   refine calls_of_wp hf hb ?_
   refine wp_mono (oP hT hK h (Sr hlen hF hx)) fun e a w' hp=> ?_
   have done:∀S E,(match(SY X fn.results.toList c.out (c.fn x)).run S [] with |some ps=>uT ps True|none=>False)→ep w Gr F S E a w'→a.defers=[]∧∃v,(results fn a.tmps).run P w'= .ok v w'∧
     ∃v' F',Ending.returned v= .returned v'∧F.le F'∧(∀b o,F' b=some o→w'.heap[b]? =some o)∧(∀b o,F' b=some o→F b=some o∨w.heap.size≤b)∧sD (fun _=>False) w w'∧c.out.dh F' w w' (c.fn x) v':=fun S E hq hR=>by
    split at hq
    ·rename_i ps AA
     obtain⟨v,h1,F',h2,h3,h4,h5⟩:=OJ hT hF hR AA (iR hq).1
     exact⟨hR.defers,v,h1,v,F',rfl,h2,h3,h4,hR.keep,h5⟩
    ·cases hq
   cases e with
   |normal=>obtain⟨S,E,hq,hR⟩:=hp;exact done S E hq hR
   |ret=>obtain⟨S,E,hq,hR⟩:=hp;exact done S E hq hR
   |exit id=>obtain⟨S,E,hq,hR⟩:=hp;cases hq
   |goto l=>cases hp
   |panic ch=>cases hp
   |outgrown=>cases hp
end Go.Vc
end

section
set_option linter.unusedVariables false
set_option linter.unusedSimpArgs false
namespace Go.Vc
open Go
variable {P:Program} {X:Ctx} {w0:World} {foot:gF} {base:Mem} {S T:St} {E:Env} {a:Act} {w:World} {ctx:c8}
inductive eQ where
 |aC (t:Ty)
 |row (e:Nat) (t:Ty)
 |cells (fix:Bool) (o:eQ)
 |iz (k:Nat) (o:eQ)
 |unit
 |pair (a b:eQ)
 |gone (o:eQ)
 |map (a b:Ty)
@[reducible] def eQ.den (o:eQ):Type:=eQ.rec (motive:=fun _=>Type) (fun t=>t.den) (fun _ t=>List t.den) (fun _ _ d=>d) (fun _ _ d=>d) Unit (fun _ _ a b=>a×b) (fun _ d=>d) (fun a b=>List (a.den×b.den)) o
def eQ.size:eQ→Nat
 | .aC t=>t.size
 | .row _ _| .cells _ _| .iz _ _| .map _ _=>1
 | .unit=>0
 | .pair a b=>a.size+b.size
 | .gone o=>o.size
def eQ.isAgg:eQ→Bool
 | .aC t=>t.isAgg
 | .unit| .pair _ _=>true
 | .gone o=>o.isAgg
 |_=>false
def eQ.wf:(o:eQ)→o.den→Prop
 | .aC t,x=>t.wf x
 | .row _ t,xs=>xs.length≤aK∧∀x∈xs,t.wf x
 | .cells _ o,x=>o.wf x
 | .iz _ o,x=>o.wf x
 | .unit,_=>True
 | .pair a b,x=>a.wf x.1∧b.wf x.2
 | .gone o,x=>o.wf x
 | .map a b,m=>∀x∈m,a.wf x.1∧b.wf x.2
inductive PT where
 |nil
 |row (p:Place)
 |cells (p:Place) (q:PT)
 |pair (a b:PT)
def PT.list:PT→List Place
 | .nil=>[]
 | .row p=>[p]
 | .cells p q=>p::q.list
 | .pair a b=>a.list++b.list
inductive IT where
 |nil
 |row (n:Option Nat)
 |cells (n:Nat) (t:IT)
 |pair (a b:IT)
def IT.ids:IT→List Nat
 | .nil=>[]
 | .row none=>[]
 | .row (some n)=>[n]
 | .cells n t=>n::t.ids
 | .pair a b=>a.ids++b.ids
def zY:Place:=⟨true,0,0,0⟩
def nt (E:Env):IT→PT→Prop
 | .nil,.nil=>True
 | .row none,.row p=>p=zY
 | .row (some n),.row p=>E.place n=some p
 | .cells n t,.cells p q=>E.place n=some p∧nt E t q
 | .pair a b,.pair p q=>nt E a p∧nt E b q
 |_,_=>False
def ZS (p:Place) (v:Value):Prop:=
 (p.nil=true∧v= .slice none 0 0∧p.len=0)∨(p.nil=false∧v= .slice (some ⟨p.bc,0,none⟩) p.len p.cap∧p.len≤p.cap∧p.cap≤aK)
def lz (F:Mem) (w:World):(o:eQ)→o.den→List Value→PT→Prop
 | .aC t,x,vs,pl=>pl= .nil∧dh F t x vs
 | .row e t,xs,vs,pl=>∃p v,pl= .row p∧vs=[v]∧ZS p v∧fX ⟨F,fun _=>none⟩ w p (.row false e t xs)
 | .cells _ o,x,vs,pl=>∃p q us e,pl= .cells p q∧p.nil=false∧vs=[.pointer (some ⟨p.bc,0,none⟩)]∧w.heap[p.bc]? =some (.cells us e (0,0))∧lz F w o x us.toList q
 | .iz k o,x,vs,pl=>∃ws,vs=[.func (.func k) #[] ws]∧lz F w o x ws.toList pl
 | .unit,_,vs,pl=>vs=[]∧pl= .nil
 | .pair a b,x,vs,pl=>∃us ws p q,vs=us++ws∧pl= .pair p q∧lz F w a x.1 us p∧lz F w b x.2 ws q
 | .gone o,x,vs,pl=>lz F w o x vs pl
 | .map a b,m,vs,pl=>∃p,pl= .row p∧p.nil=false∧vs=[.map (some p.bc)]∧fX ⟨F,fun _=>none⟩ w p (.map false a b m none)
theorem lz.length {F:Mem}:∀{o:eQ} {x:o.den} {vs:List Value} {pl:PT},lz F w o x vs pl→vs.length=o.size
 | .aC _,_,_,_,h=>h.2.length
 | .row _ _,_,_,_,h=>by obtain⟨_,_,_,h,_⟩:=h;rw[h];rfl
 | .cells _ _,_,_,_,h=>by obtain⟨_,_,_,_,_,_,h,_⟩:=h;rw[h];rfl
 | .iz _ _,_,_,_,h=>by obtain⟨_,h,_⟩:=h;rw[h];rfl
 | .unit,_,_,_,h=>by rw[h.1];rfl
 | .pair _ _,_,_,_,h=>by obtain⟨_,_,_,_,h,_,h1,h2⟩:=h;rw[h];simp[eQ.size,h1.length,h2.length]
 | .gone o,_,_,_,h=>lz.length (o:=o) h
 | .map _ _,_,_,_,h=>by obtain⟨_,_,_,h,_⟩:=h;rw[h];rfl
theorem fX.ZR {p:Place} {iZ:Bool} {e:Nat} {t:Ty} {xs:List t.den} (h:fX E w p (.row iZ e t xs)):xs.length≤aK∧∀x∈xs,t.wf x:=by
 rcases h with ⟨_,rfl,_⟩|⟨_,h0,⟨h1,h2⟩,vs,h3,h4,h5,h6⟩
 ·exact⟨by simp,fun x hx=>by cases hx⟩
 ·refine⟨by omega,fun x hx=> ?_⟩
  obtain⟨i,hi,rfl⟩:=List.mem_iff_getElem.1 hx
  obtain⟨us,k1,_⟩:=h6 i _ (List.getElem?_eq_getElem hi)
  exact k1.wf
theorem fX.Z4 {p:Place} {iZ:Bool} {a b:Ty} {m:List (a.den×b.den)} {c:Option (Nat×Nat)} (h:fX E w p (.map iZ a b m c)):∀x∈m,a.wf x.1∧b.wf x.2:=by
 obtain⟨_,es,cl,_,_,m0,h0,h,_⟩:=h
 intro x hx
 obtain⟨i,hi,rfl⟩:=List.mem_iff_getElem.1 (h0.mem_iff.2 hx)
 obtain⟨e,us,ws,_,q2,_,q4,_⟩:=h.at_ i _ (List.getElem?_eq_getElem hi)
 exact⟨q2.wf,q4.wf⟩
theorem lz.wf {F:Mem}:∀{o:eQ} {x:o.den} {vs:List Value} {pl:PT},lz F w o x vs pl→o.wf x
 | .aC _,_,_,_,h=>h.2.wf
 | .row _ _,_,_,_,h=>by obtain⟨_,_,_,_,_,h⟩:=h;exact h.ZR
 | .cells _ o,_,_,_,h=>by obtain⟨_,_,_,_,_,_,_,_,h⟩:=h;exact lz.wf (o:=o) h
 | .iz _ o,_,_,_,h=>by obtain⟨_,_,h⟩:=h;exact lz.wf (o:=o) h
 | .unit,_,_,_,_=>trivial
 | .pair _ _,_,_,_,h=>by obtain⟨_,_,_,_,_,_,h1,h2⟩:=h;exact⟨h1.wf,h2.wf⟩
 | .gone o,_,_,_,h=>lz.wf (o:=o) h
 | .map _ _,_,_,_,h=>by obtain⟨_,_,_,_,h⟩:=h;exact h.Z4
def eQ.DK:(o:eQ)→o.den→o.den→Prop
 | .pair a b,x,y=>a.DK x.1 y.1∧b.DK x.2 y.2
 | .cells _ o,x,y=>o.DK x y
 | .iz _ o,x,y=>o.DK x y
 | .gone o,x,y=>o.DK x y
 | .map a b,x,y=>List.Perm (α:=a.den×b.den) x y
 | .unit,_,_=>True
 | .aC _,x,y=>x=y
 | .row _ _,x,y=>x=y
theorem lz.HJ {F:Mem}:∀{o:eQ} {x y:o.den} {vs:List Value} {pl:PT},o.DK x y→lz F w o x vs pl→lz F w o y vs pl
 | .aC _,x,y,_,_,e,h=>by have e:x=y:=e;subst e;exact h
 | .row _ _,x,y,_,_,e,h=>by have e:x=y:=e;subst e;exact h
 | .cells _ o,_,_,_,_,e,h=>by
  obtain⟨p,q,us,e',h1,h2,h3,h4,h5⟩:=h
  exact⟨p,q,us,e',h1,h2,h3,h4,lz.HJ (o:=o) e h5⟩
 | .iz _ o,_,_,_,_,e,h=>by obtain⟨ws,h1,h2⟩:=h;exact⟨ws,h1,lz.HJ (o:=o) e h2⟩
 | .unit,_,_,_,_,_,h=>h
 | .pair _ _,_,_,_,_,e,h=>by obtain⟨us,ws,p,q,h1,h2,h3,h4⟩:=h;exact⟨us,ws,p,q,h1,h2,h3.HJ e.1,h4.HJ e.2⟩
 | .gone o,_,_,_,_,e,h=>lz.HJ (o:=o) e h
 | .map _ _,_,_,_,_,e,h=>by
  obtain⟨p,h1,h2,h3,h4,es,cl,h5,h6,h7⟩:=h
  exact⟨p,h1,h2,h3,h4,es,cl,h5,h6,h7.perm e⟩
def Jf:(o:eQ)→Bool→PT→PT→Prop
 | .row _ _,top,p,p'=>top=true→p'=p
 | .map _ _,top,p,p'=>top=true→p'=p
 | .cells fix o,top,.cells p q,.cells p' q'=>((fix||top)=true→p'=p∧Jf o false q q')
 | .iz _ o,_,q,q'=>Jf o false q q'
 | .pair a b,_,.pair p q,.pair p' q'=>Jf a false p p'∧Jf b false q q'
 |_,_,_,_=>True
def vX:List C→List Nat
 |[]=>[]
 | .ptr b _::cs=>b::vX cs
 |_::cs=>0::vX cs
def cK:(o:eQ)→o.den→Nat→List C×List (Nat×c5)×IT×Nat
 | .aC t,x,n=>(flat t x,[],.nil,n)
 | .row e t,xs,n=>([.row t n],[(n,.row false e t xs)],.row (some n),n+1)
 | .cells _ o,x,n=>let r:=cK o x (n+1);([.ptr n 0],(n,.cells r.1)::r.2.1,.cells n r.2.2.1,r.2.2.2)
 | .iz k o,x,n=>let r:=cK o x n;([.iz k (vX r.1)],r.2)
 | .unit,_,n=>([],[],.nil,n)
 | .pair a b,x,n=>
  let r:=cK a x.1 n
  let s:=cK b x.2 r.2.2.2
  (r.1++s.1,r.2.1++s.2.1,.pair r.2.2.1 s.2.2.1,s.2.2.2)
 | .gone o,x,n=>cK o x n
 | .map a b,m,n=>([.map a b n],[(n,.map false a b m none)],.row (some n),n+1)
theorem me:∀(o:eQ) (x:o.den) (n:Nat),n≤(cK o x n).2.2.2∧(∀i∈(cK o x n).2.2.1.ids,n≤i∧i<(cK o x n).2.2.2)∧(cK o x n).2.2.1.ids.Nodup∧(cK o x n).2.1.map (·.1)=(cK o x n).2.2.1.ids
 | .aC t,x,n=>⟨Nat.le_refl _,fun i hi=>(by cases hi),List.nodup_nil,rfl⟩
 | .row e t,xs,n=>⟨Nat.le_succ _,fun i hi=>by simp[cK,IT.ids] at hi;subst hi;exact⟨Nat.le_refl _,Nat.lt_succ_self _⟩,by simp[cK,IT.ids],rfl⟩
 | .cells _ o,x,n=>by
  obtain⟨h1,h2,h3,h4⟩:=me o x (n+1)
  refine⟨by simp only[cK];omega,fun i hi=> ?_,?_,?_⟩
  ·simp only[cK,IT.ids,List.mem_cons] at hi ⊢
   rcases hi with rfl|hi
   ·omega
   ·have:=h2 i hi;omega
  ·simp only[cK,IT.ids,List.nodup_cons]
   exact⟨fun hi=>by have:=h2 n hi;omega,h3⟩
  ·simp only[cK,IT.ids,List.map_cons,h4]
 | .iz k o,x,n=>me o x n
 | .unit,_,n=>⟨Nat.le_refl _,fun i hi=>(by cases hi),List.nodup_nil,rfl⟩
 | .pair a b,x,n=>by
  obtain⟨h1,h2,h3,h4⟩:=me a x.1 n
  obtain⟨k1,k2,k3,k4⟩:=me b x.2 (cK a x.1 n).2.2.2
  refine⟨by simp only[cK];omega,fun i hi=> ?_,?_,?_⟩
  ·simp only[cK,IT.ids,List.mem_append] at hi ⊢
   rcases hi with hi|hi
   ·have:=h2 i hi;omega
   ·have:=k2 i hi;omega
  ·simp only[cK,IT.ids]
   refine List.nodup_append.2 ⟨h3,k3,fun i hi j hj e=> ?_⟩
   have:=h2 i hi
   have:=k2 j hj
   omega
  ·simp only[cK,IT.ids,List.map_append,h4,k4]
 | .gone o,x,n=>me o x n
 | .map a b,xs,n=>⟨Nat.le_succ _,fun i hi=>by simp[cK,IT.ids] at hi;subst hi;exact⟨Nat.le_refl _,Nat.lt_succ_self _⟩,by simp[cK,IT.ids],rfl⟩
theorem b5.WJ {E:Env}:∀{cs:List C} {vs:List Value},b5 E cs vs→(∀c∈cs,∃b,c= .ptr b 0)→
  ∃ps:List Place,ps.length=(vX cs).length∧(∀(i:Nat) b,(vX cs)[i]? =some b→∃p,ps[i]? =some p∧E.place b=some p∧p.nil=false)∧vs=ps.map fun p=>Value.pointer (some ⟨p.bc,0,none⟩)
 |[],vs,h,_=>by have h:_=_:=h;exact⟨[],rfl,fun i b hb=>by simp[vX] at hb,h⟩
 |c::cs,vs,h,hc=>by
  obtain⟨b,rfl⟩:=hc c List.mem_cons_self
  obtain⟨v,us,rfl,⟨p,hp,hn,rfl⟩,k⟩:=h
  obtain⟨ps,g1,g2,rfl⟩:=b5.WJ k (fun c Nc=>hc c (List.mem_cons_of_mem _ Nc))
  refine⟨p::ps,by simp[vX,g1],fun i b' hb=> ?_,rfl⟩
  cases i with
  |zero=>simp[vX] at hb;subst hb;exact⟨p,rfl,hp,hn⟩
  |succ i=>simpa using g2 i b' (by simpa [vX] using hb)
def eQ.xO:eQ→Bool
 | .cells _ _=>true
 | .unit=>true
 | .pair a b=>a.xO&&b.xO
 |_=>false
def eQ.ok:eQ→Bool
 | .aC _| .row _ _| .unit| .map _ _=>true
 | .cells _ o=>o.ok
 | .iz _ o=>o.xO&&o.ok
 | .pair a b=>a.ok&&b.ok
 | .gone o=>o.ok
theorem sm:∀{o:eQ} {x:o.den} {n:Nat},o.xO=true→∀c∈(cK o x n).1,∃b,c= .ptr b 0
 | .cells _ _,_,n,_,c,hc=>by simp[cK] at hc;exact⟨n,hc⟩
 | .unit,_,_,_,c,hc=>by cases hc
 | .pair a b,x,n,h,c,hc=>by
  simp only[eQ.xO,Bool.and_eq_true] at h
  simp only[cK,List.mem_append] at hc
  rcases hc with hc|hc
  ·exact sm h.1 c hc
  ·exact sm h.2 c hc
 | .aC _,_,_,h,_,_=>by cases h
 | .row _ _,_,_,h,_,_=>by cases h
 | .iz _ _,_,_,h,_,_=>by cases h
 | .gone _,_,_,h,_,_=>by cases h
 | .map _ _,_,_,h,_,_=>by cases h
theorem gD {F:Mem} (sq:E.F=F):∀{o:eQ} {x:o.den} {vs:List Value} {pl:PT} {n:Nat},o.ok=true→lz F w o x vs pl→nt E (cK o x n).2.2.1 pl→
  b5 E (cK o x n).1 vs∧∀m B,(m,B)∈(cK o x n).2.1→∃p,E.place m=some p∧fX E w p B∧p∈pl.list∧B.mut=true
 | .aC t,x,vs,pl,n,_,h,_=>⟨gG (by rw[sq];exact h.2),fun m B hm=>by cases hm⟩
 | .row e t,xs,vs,pl,n,_,h,hi=>by
  obtain⟨p,v,rfl,rfl,hv,hB⟩:=h
  refine⟨⟨v,[],rfl,⟨p,hi,hv⟩,rfl⟩,fun m B hm=> ?_⟩
  simp[cK] at hm
  obtain⟨rfl,rfl⟩:=hm
  exact⟨p,hi,hB.mono ⟨by rw[sq];exact .refl _,fun _ _ h=>by cases h⟩,by simp[PT.list],rfl⟩
 | .cells fx o,x,vs,pl,n,hk,h,hi=>by
  obtain⟨p,q,us,e,rfl,hn,rfl,hw,h⟩:=h
  obtain⟨hp,hi⟩:=hi
  obtain⟨k1,k2⟩:=gD sq (o:=o) (n:=n+1) hk h hi
  refine⟨⟨_,[],rfl,⟨p,hp,hn,rfl⟩,rfl⟩,fun m B hm=> ?_⟩
  simp only[cK,List.mem_cons] at hm
  rcases hm with hm|hm
  ·cases hm
   exact⟨p,hp,⟨hn,us,e,hw,k1⟩,by simp[PT.list],rfl⟩
  ·obtain⟨p',g1,g2,g3,g4⟩:=k2 m B hm
   exact⟨p',g1,g2,by simp[PT.list,g3],g4⟩
 | .iz k o,x,vs,pl,n,hk,h,hi=>by
  obtain⟨ws,rfl,h⟩:=h
  simp only[eQ.ok,Bool.and_eq_true] at hk
  obtain⟨k1,k2⟩:=gD sq (o:=o) (n:=n) hk.2 h hi
  obtain⟨ps,g1,g2,g3⟩:=k1.WJ (sm hk.1)
  refine⟨⟨_,[],rfl,⟨ps,g1,g2,?_⟩,rfl⟩,k2⟩
  rw[←g3]
 | .unit,_,vs,pl,n,_,h,_=>⟨h.1,fun m B hm=>by cases hm⟩
 | .pair a b,x,vs,pl,n,hk,h,hi=>by
  obtain⟨us,ws,p,q,rfl,rfl,h1,h2⟩:=h
  simp only[eQ.ok,Bool.and_eq_true] at hk
  obtain⟨k1,k2⟩:=gD sq (n:=n) hk.1 h1 hi.1
  obtain⟨g1,g2⟩:=gD sq (n:=(cK a x.1 n).2.2.2) hk.2 h2 hi.2
  refine⟨k1.append g1,fun m B hm=> ?_⟩
  simp only[cK,List.mem_append] at hm
  rcases hm with hm|hm
  ·obtain⟨p',e1,e2,e3,e4⟩:=k2 m B hm
   exact⟨p',e1,e2,by simp[PT.list,e3],e4⟩
  ·obtain⟨p',e1,e2,e3,e4⟩:=g2 m B hm
   exact⟨p',e1,e2,by simp[PT.list,e3],e4⟩
 | .gone o,x,vs,pl,n,hk,h,hi=>gD sq (o:=o) (n:=n) hk h hi
 | .map a b,xs,vs,pl,n,_,h,hi=>by
  obtain⟨p,rfl,hn,rfl,hB⟩:=h
  refine⟨⟨_,[],rfl,⟨p,hi,hn,rfl⟩,rfl⟩,fun m B hm=> ?_⟩
  simp[cK] at hm
  obtain⟨rfl,rfl⟩:=hm
  exact⟨p,hi,hB.mono ⟨by rw[sq];exact .refl _,fun _ _ h=>by cases h⟩,by simp[PT.list],rfl⟩
def mE:(o:eQ)→List C→RM (o.den×hY×IT)
 | .aC t,cs=>do
  let x ←reify t cs
  return (x.1,x.2,.nil)
 | .row e t,cs=>(match cs with
  |[.row tt b]=> .bc b fun
   | .row false e' t' xs=>(match tt.beq t'&&Nat.beq e e' with
    |true=>do
     let zs ←RM.ofOption (Ty.as (a:= .list t') (.list t) (lit xs))
     return (Ty.L zs,[],.row (some b))
    |false=> .fail)
   |_=> .fail
  |[.km]=> .ret ([],[],.row none)
  |_=> .fail)
 | .cells _ o,cs=>(match cs with
  |[.ptr b off]=>(match Nat.beq off 0 with
   |true=> .bc b fun
    | .cells ds=>do
     let r ←mE o ds
     return (r.1,r.2.1,.cells b r.2.2)
    |_=> .fail
   |false=> .fail)
  |_=> .fail)
 | .iz k o,cs=>(match cs with
  |[.iz k' bs]=>(match Nat.beq k k' with
   |true=>mE o (bs.map fun b=> .ptr b 0)
   |false=> .fail)
  |_=> .fail)
 | .unit,cs=>(match cs with
  |[]=> .ret ((),[],.nil)
  |_=> .fail)
 | .pair a b,cs=>do
  let x ←mE a (cs.take a.size)
  let y ←mE b (cs.drop a.size)
  cR (o5 x.2.1 y.2.1)
  return ((x.1,y.1),x.2.1++y.2.1,.pair x.2.2 y.2.2)
 | .gone o,cs=>mE o cs
 | .map a b,cs=>(match cs with
  |[.map _ _ n]=> .bc n fun
   | .map false a' b' m _=>do
    let y ←RM.ofOption (Ty.as (a:= .map a' b') (.map a b) m)
    return (Ty.M y,[],.row (some n))
   |_=> .fail
  |_=> .fail)
theorem Fe {E:Env}:∀{bs:List Nat} {ps:List Place},ps.length=bs.length→(∀(i:Nat) b,bs[i]? =some b→∃p,ps[i]? =some p∧E.place b=some p∧p.nil=false)→
  b5 E (bs.map fun b=> .ptr b 0) (ps.map fun p=>Value.pointer (some ⟨p.bc,0,none⟩))
 |[],[],_,_=>rfl
 |b::bs,p::ps,hl,h=>by
  obtain⟨q,h1,h2,h3⟩:=h 0 b rfl
  simp at h1
  subst h1
  exact⟨_,_,rfl,⟨p,h2,h3,rfl⟩,Fe (by simpa using hl) fun i b' hb=>h (i+1) b' (by simpa using hb)⟩
 |[],_::_,h,_=>by simp at h
 |_::_,[],h,_=>by simp at h
structure aa1 (S:St) (o:eQ) (cs:List C) (x:o.den) (fr:hY) (it:IT):Prop where
 iZ:kP S.bl fr
 own:∀n∈it.ids,∃B,find S.bl n=some B∧B.mut=true
 rep:∀(E:Env) (w:World) (vs:List Value),b5 E cs vs→fm S.bl E w fr→(∀n∈it.ids,∀B,find S.bl n=some B→∃p,E.place n=some p∧fX E w p B)→∃pl,nt E it pl∧lz E.F w o x vs pl
theorem lO:∀{o:eQ} {cs:List C} {x:o.den} {fr:hY} {it:IT},(mE o cs).run S ctx=some (x,fr,it)→aa1 S o cs x fr it
 | .aC t,cs,x,fr,it,hr=>by
  unfold mE at hr
  obtain⟨⟨y,f⟩,h1,hr⟩:=RM.run_bind' hr
  cases RM.run_pure' hr
  exact⟨gx h1,fun n hn=>(by cases hn),fun E w vs hv hf _=>⟨.nil,trivial,rfl,jr h1 hv hf⟩⟩
 | .row e t,cs,x,fr,it,hr=>by
  unfold mE at hr
  split at hr
  ·rename_i tt b
   simp only[RM.run] at hr
   split at hr
   ·rename_i B hB
    split at hr
    ·rename_i e' t' xs
     split at hr
     ·rename_i hb
      simp only[Bool.and_eq_true] at hb
      have he:=Nat.eq_of_beq_eq_true hb.2
      subst he
      obtain⟨zs,h1,hr⟩:=RM.run_bind' hr
      cases RM.run_pure' hr
      obtain⟨ee,rfl⟩:=Ty.iJ (bY h1)
      cases ee
      refine⟨.nil,fun n hn=> ?_,fun E w vs hv hf oF=> ?_⟩
      ·simp[IT.ids] at hn;subst hn;exact⟨_,hB,rfl⟩
      ·obtain⟨v,rfl,qt⟩:=js hv
       obtain⟨p,hp,hk⟩:=qt
       obtain⟨p',dj,hBr⟩:=oF b (by simp[IT.ids]) _ hB
       rw[hp] at dj
       cases dj
       exact⟨.row p,hp,p,v,rfl,rfl,hk,hBr⟩
     ·cases hr
    ·cases hr
   ·cases hr
  ·cases hr
   refine⟨.nil,fun n hn=>(by cases hn),fun E w vs hv hf _=> ?_⟩
   obtain⟨v,rfl,qt⟩:=js hv
   have M0:v= .slice none 0 0:=qt
   exact⟨.row zY,rfl,zY,v,rfl,rfl,.inl ⟨rfl,M0,rfl⟩,.inl ⟨rfl,rfl,rfl⟩⟩
  ·cases hr
 | .cells fx o,cs,x,fr,it,hr=>by
  unfold mE at hr
  split at hr
  ·rename_i b off
   split at hr
   ·rename_i ho
    have ho:=Nat.eq_of_beq_eq_true ho
    subst ho
    simp only[RM.run] at hr
    split at hr
    ·rename_i B hB
     split at hr
     ·rename_i ds
      obtain⟨⟨y,f,t⟩,h1,hr⟩:=RM.run_bind' hr
      cases RM.run_pure' hr
      obtain⟨k1,k2,k3⟩:=lO (o:=o) h1
      refine⟨k1,fun n hn=> ?_,fun E w vs hv hf oF=> ?_⟩
      ·simp only[IT.ids,List.mem_cons] at hn
       rcases hn with rfl|hn
       ·exact⟨_,hB,rfl⟩
       ·exact k2 n hn
      ·obtain⟨v,rfl,p,hp,hn,rfl⟩:=js hv
       obtain⟨p',dj,_,us,e,hw,mA⟩:=oF b (by simp[IT.ids]) _ hB
       rw[hp] at dj
       cases dj
       obtain⟨q,g1,g2⟩:=k3 E w us.toList mA hf fun n hn=>oF n (by simp[IT.ids,hn])
       exact⟨.cells p q,⟨hp,g1⟩,p,q,us,e,rfl,hn,rfl,hw,g2⟩
     ·cases hr
    ·cases hr
   ·cases hr
  ·cases hr
 | .iz k o,cs,x,fr,it,hr=>by
  unfold mE at hr
  split at hr
  ·rename_i k' bs
   split at hr
   ·rename_i hk
    have hk:=Nat.eq_of_beq_eq_true hk
    subst hk
    obtain⟨k1,k2,k3⟩:=lO (o:=o) hr
    refine⟨k1,k2,fun E w vs hv hf oF=> ?_⟩
    obtain⟨v,rfl,ps,g1,g2,rfl⟩:=js hv
    obtain⟨pl,m1,m2⟩:=k3 E w _ (Fe g1 g2) hf oF
    exact⟨pl,m1,_,rfl,m2⟩
   ·cases hr
  ·cases hr
 | .unit,cs,x,fr,it,hr=>by
  unfold mE at hr
  split at hr
  ·cases hr
   exact⟨.nil,fun n hn=>(by cases hn),fun E w vs hv _ _=>⟨.nil,trivial,hv,rfl⟩⟩
  ·cases hr
 | .pair a b,cs,x,fr,it,hr=>by
  unfold mE at hr
  obtain⟨⟨y,f,t⟩,h1,hr⟩:=RM.run_bind' hr
  obtain⟨⟨z,g,u⟩,h2,hr⟩:=RM.run_bind' hr
  obtain⟨_,h3,hr⟩:=RM.run_bind' hr
  cases RM.run_pure' hr
  obtain⟨k1,k2,k3⟩:=lO h1
  obtain⟨l1,l2,l3⟩:=lO h2
  refine⟨k1.append l1 (bQ h3),fun n hn=> ?_,fun E w vs hv hf oF=> ?_⟩
  ·simp only[IT.ids,List.mem_append] at hn
   rcases hn with hn|hn
   ·exact k2 n hn
   ·exact l2 n hn
  ·obtain⟨p,m1,m2⟩:=k3 E w _ (hv.take a.size) hf.left fun n hn=>oF n (by simp[IT.ids,hn])
   obtain⟨q,n1,n2⟩:=l3 E w _ (hv.drop a.size) hf.right fun n hn=>oF n (by simp[IT.ids,hn])
   exact⟨.pair p q,⟨m1,n1⟩,_,_,p,q,(List.take_append_drop _ _).symm,rfl,m2,n2⟩
 | .gone o,cs,x,fr,it,hr=>by
  obtain⟨h1,h2,h3⟩:=lO (o:=o) hr
  exact⟨h1,h2,h3⟩
 | .map a b,cs,x,fr,it,hr=>by
  unfold mE at hr
  split at hr
  ·rename_i k1 k2 n
   simp only[RM.run] at hr
   split at hr
   ·rename_i B hB
    split at hr
    ·rename_i a' b' m cur
     obtain⟨zs,h1,hr⟩:=RM.run_bind' hr
     cases RM.run_pure' hr
     obtain⟨ee,rfl⟩:=Ty.iJ (bY h1)
     cases ee
     refine⟨.nil,fun i hi=> ?_,fun E w vs hv hf oF=> ?_⟩
     ·simp[IT.ids] at hi;subst hi;exact⟨_,hB,rfl⟩
     ·obtain⟨v,rfl,p,hp,hn,qt⟩:=js hv
      obtain⟨p',dj,hBr⟩:=oF n (by simp[IT.ids]) _ hB
      rw[hp] at dj
      cases dj
      obtain⟨g0,es,cl,g1,g2,m0,g4,g3,_⟩:=hBr
      exact⟨.row p,hp,p,rfl,hn,by rw[qt],g0,es,cl,g1,(fun h=>by cases h),m0,g4,g3,.none⟩
    ·cases hr
   ·cases hr
  ·cases hr
end Go.Vc
end

section
set_option linter.unusedVariables false
set_option linter.unusedSimpArgs false
namespace Go.Vc
open Go
variable {P:Program} {X:Ctx} {w0:World} {foot:gF} {base:Mem} {S T:St} {E:Env} {a:Act} {w:World} {ctx:c8}
def vm (l:List (Nat×c5)) (bl:List (Nat×c5)):List (Nat×c5):=l.foldl (fun l p=>put l p.1 p.2) bl
theorem C5:∀{l bl:List (Nat×c5)} {i:Nat} {B:c5},find (vm l bl) i=some B→(i,B)∈l∨(i∉l.map (·.1)∧find bl i=some B)
 |[],_,_,_,h=> .inr ⟨by simp,h⟩
 |(n,D)::l,bl,i,B,h=>by
  rcases C5 (l:=l) h with h|⟨h1,h2⟩
  ·exact .inl (List.mem_cons_of_mem _ h)
  ·by_cases e:n=i
   ·subst e
    rw[bO] at h2
    cases h2
    exact .inl List.mem_cons_self
   ·rw[bk _ _ _ _ e] at h2
    exact .inr ⟨fun h=>(List.mem_cons.1 h).elim (fun h=>e h.symm) h1,h2⟩
theorem tj {α:Type}:∀{L:List Nat} {bl:List (Nat×α)} {i:Nat} {B:α},find (L.foldl rem bl) i=some B→find bl i=some B∧i∉L
 |[],_,_,_,h=>⟨h,by simp⟩
 |n::L,bl,i,B,h=>by
  obtain⟨h1,h2⟩:=tj (L:=L) h
  obtain⟨h3,h4⟩:=gn h1
  exact⟨h3,fun h=>(List.mem_cons.1 h).elim (fun h=>h4 h.symm) h2⟩
theorem qV {α:Type}:∀{L:List Nat} {bl:List (Nat×α)} {i:Nat},i∉L→find (L.foldl rem bl) i=find bl i
 |[],_,_,_=>rfl
 |n::L,bl,i,h=>by
  simp only[List.mem_cons,not_or] at h
  show find (L.foldl rem (rem bl n)) i=_
  rw[qV h.2,gV _ _ _ (Ne.symm h.1)]
def zU (L:List Nat) (E:Env) (b:Nat):Prop:=∃n∈L,∃p,E.place n=some p∧p.nil=false∧p.bc=b
def Env.rebind (E:Env) (F':Mem) (bd:List (Nat×Place)):Env:={F:=F',place:=fun i=>match find bd i with
 |some p=>some p
 |none=>E.place i}
theorem HRel.swap {bl:List (Nat×c5)} {used:List Nat} (h:HRel w0 foot base bl used E w) {L:List Nat} (hL:∀n∈L,∃B,find bl n=some B∧B.mut=true) {w':World} {F':Mem} {NB:List (Nat×c5)} {fresh:List Nat} {bd:List (Nat×Place)}
  (hF:E.F.le F') (FH:∀b o,F' b=some o→w'.heap[b]? =some o) (wD:∀b o,F' b=some o→E.F b=some o∨w.heap.size≤b∨zU L E b) (sJ:sD (zU L E) w w')
  (aaA:∀i∈fresh,i∉used) (ye:∀i p,find bd i=some p→i∈fresh∨E.place i=some p)
  (anI:∀i B,(i,B)∈NB→i∈L∨i∈fresh)
  (hNB:∀i B,(i,B)∈NB→∃p,(E.rebind F' bd).place i=some p∧fX (E.rebind F' bd) w' p B∧(p.nil=false→(zU L E p.bc∨w.heap.size≤p.bc)∧F' p.bc=none))
  (XV:∀i B j D p q,(i,B)∈NB→(j,D)∈NB→i≠j→(E.rebind F' bd).place i=some p→(E.rebind F' bd).place j=some q→p.nil=false→q.nil=false→p.bc≠q.bc):
  E.le (E.rebind F' bd)∧HRel w0 foot base (vm NB (L.foldl rem bl)) (fresh++used) (E.rebind F' bd) w':=by
 have hle:E.le (E.rebind F' bd):=⟨hF,fun i p hp=>by
  show(match find bd i with |some p=>some p|none=>E.place i)=some p
  split
  ·rename_i q hq
   rcases ye i q hq with hi|hi
   ·exact absurd (h.used i p hp) (aaA i hi)
   ·rw[hp] at hi;exact hi.symm
  ·exact hp⟩
 have k9:∀i B,i∉L→find bl i=some B→∃p,E.place i=some p∧fX E w p B∧(E.rebind F' bd).place i=some p∧(p.nil=false→p.bc<w.heap.size∧¬zU L E p.bc):=fun i B hi hf=>by
  obtain⟨p,hp,hB⟩:=h.ck i B hf
  refine⟨p,hp,hB,hle.place _ _ hp,fun hn=>⟨hB.lt hn,?_⟩⟩
  rintro⟨n,hnL,q,hq,By,Jz⟩
  obtain⟨D,hD,_⟩:=hL n hnL
  exact h.inj i n B D p q hf hD hp hq hn By (fun e=>hi (e▸hnL)) Jz.symm
 have Hp:∀b,zU L E b→w0.heap.size≤b∨foot b:=fun b ⟨n,hnL,q,hq,By,Jz⟩=>by
  obtain⟨D,hD,_⟩:=hL n hnL
  rw[←Jz]
  exact(h.own n D q hD hq By).1
 have R7:∀i B,find (vm NB (L.foldl rem bl)) i=some B→(i,B)∈NB∨(i∉L∧find bl i=some B):=fun i B hf=>by
  rcases C5 hf with hf|⟨_,hf⟩
  ·exact .inl hf
  ·obtain⟨h1,h2⟩:=tj hf
   exact .inr ⟨h2,h1⟩
 refine⟨hle,⟨⟨sJ.os.trans h.keep.os,sJ.tape.trans h.keep.tape,sJ.output.trans h.keep.output,Nat.le_trans h.keep.size sJ.size,fun k hk Pw=> ?_⟩,FH,fun b o hb=> ?_,fun i B hf=> ?_,fun i B p hf hp hn=> ?_,fun i j B D p q hf eh hp hq hn dk kS=> ?_,fun i p hp=> ?_⟩⟩
 ·rw[sJ.block k (Nat.lt_of_lt_of_le hk h.keep.size) fun ho=> ?_]
  ·exact h.keep.block k hk Pw
  ·rcases Hp k ho with h1|h1
   ·omega
   ·exact Pw h1
 ·rcases wD b o hb with h1|h1|h1
  ·exact h.src b o h1
  ·exact .inr (.inl (Nat.le_trans h.keep.size h1))
  ·exact .inr (Hp b h1)
 ·rcases R7 i B hf with hf|⟨hi,hf⟩
  ·obtain⟨p,h1,h2,_⟩:=hNB i B hf
   exact⟨p,h1,h2⟩
  ·obtain⟨p,h1,h2,h3,h4⟩:=k9 i B hi hf
   exact⟨p,h3,(h2.mono hle).world fun hn=>sJ.block _ (h4 hn).1 (h4 hn).2⟩
 ·rcases R7 i B hf with hf|⟨hi,hf⟩
  ·obtain⟨p',h1,h2,h3⟩:=hNB i B hf
   rw[hp] at h1
   cases h1
   obtain⟨h4,h5⟩:=h3 hn
   refine⟨?_,fun _=>h5⟩
   rcases h4 with h4|h4
   ·exact Hp _ h4
   ·exact .inl (Nat.le_trans h.keep.size h4)
  ·obtain⟨p',h1,h2,h3,h4⟩:=k9 i B hi hf
   rw[hp] at h3
   cases h3
   obtain⟨k1,k2⟩:=h.own i B p hf h1 hn
   refine⟨k1,fun hm=> ?_⟩
   have nD:=k2 hm
   cases X8:F' p.bc with
   |none=>exact X8
   |some o=>
    rcases wD _ _ X8 with g|g|g
    ·rw[nD] at g;cases g
    ·have:=(h4 hn).1;omega
    ·exact absurd g (h4 hn).2
 ·have IE:∀i B j D p q,(i,B)∈NB→j∉L→find bl j=some D→(E.rebind F' bd).place i=some p→(E.rebind F' bd).place j=some q→p.nil=false→q.nil=false→p.bc≠q.bc:=fun i B j D p q hb hj hf hp hq hn dk e=>by
   obtain⟨p',h1,_,h3⟩:=hNB i B hb
   rw[hp] at h1
   cases h1
   obtain⟨q',g1,_,g3,g4⟩:=k9 j D hj hf
   rw[hq] at g3
   cases g3
   rcases(h3 hn).1 with h4|h4
   ·exact(g4 dk).2 (e▸h4)
   ·have:=(g4 dk).1;omega
  rcases R7 i B hf with hf|⟨hi,hf⟩
  ·rcases R7 j D eh with eh|⟨hj,eh⟩
   ·exact XV i B j D p q hf eh kS hp hq hn dk
   ·exact IE i B j D p q hf hj eh hp hq hn dk
  ·rcases R7 j D eh with eh|⟨hj,eh⟩
   ·exact Ne.symm (IE j D i B q p eh hi hf hq hp dk hn)
   ·obtain⟨p',h1,_,h3,_⟩:=k9 i B hi hf
    rw[hp] at h3
    cases h3
    obtain⟨q',g1,_,g3,_⟩:=k9 j D hj eh
    rw[hq] at g3
    cases g3
    exact h.inj i j B D p q hf eh h1 g1 hn dk kS
 ·have hp:(match find bd i with |some p=>some p|none=>E.place i)=some p:=hp
  split at hp
  ·rename_i q hq
   rcases ye i q hq with hi|hi
   ·exact List.mem_append_left _ hi
   ·exact List.mem_append_right _ (h.used i q hi)
  ·exact List.mem_append_right _ (h.used i p hp)
def cX:List eQ→eQ
 |[]=> .unit
 |o::os=> .pair o (cX os)
def gb (vs:List Value):List Value:=vs.flatMap fun v=>v.cells.toList
def Shape:List eQ→List Value→Prop
 |[],vs=>vs=[]
 |o::os,vs=>∃v us,vs=v::us∧(match o.isAgg with
  |true=>∃ws,v= .agg ws∧ws.size=o.size
  |false=>v.cells= #[v]∧o.size=1)∧Shape os us
theorem Shape.length:∀{os:List eQ} {vs:List Value},Shape os vs→vs.length=os.length
 |[],vs,h=>by have h:_=_:=h;subst h;rfl
 |o::os,vs,h=>by obtain⟨v,us,rfl,_,h⟩:=h;simp[h.length]
def SP (o:eQ):SV→RM (List C)
 | .one c=>(match o.isAgg with
  |true=> .fail
  |false=>(match Nat.beq o.size 1 with
   |true=> .ret [c]
   |false=> .fail))
 | .agg cs=>(match o.isAgg&&Nat.beq cs.length o.size with
  |true=> .ret cs
  |false=> .fail)
 |_=> .fail
def wc:List eQ→List SV→RM (List C)
 |[],ss=>(match ss with
  |[]=> .ret []
  |_=> .fail)
 |o::os,ss=>(match ss with
  |[]=> .fail
  |s::ss=>do
   let cs ←SP o s
   let ds ←wc os ss
   return (cs++ds))
theorem w9:∀{os:List eQ} {ss:List SV} {cs:List C} {vs:List Value},(wc os ss).run S ctx=some cs→gy E ss vs→b5 E cs (gb vs)∧Shape os vs
 |[],ss,cs,vs,hr,hv=>by
  unfold wc at hr
  split at hr
  ·cases hr
   have hv:vs=[]:=hv
   subst hv
   exact⟨rfl,rfl⟩
  ·cases hr
 |o::os,ss,cs,vs,hr,hv=>by
  unfold wc at hr
  split at hr
  ·cases hr
  ·rename_i s ZQ
   obtain⟨c1,h1,hr⟩:=RM.run_bind' hr
   obtain⟨c2,h2,hr⟩:=RM.run_bind' hr
   cases RM.run_pure' hr
   obtain⟨v,us,rfl,k1,k2⟩:=hv
   obtain⟨g1,g2⟩:=w9 h2 k2
   have key:b5 E c1 v.cells.toList∧(match o.isAgg with |true=>∃ws,v= .agg ws∧ws.size=o.size|false=>v.cells= #[v]∧o.size=1):=by
    unfold SP at h1
    split at h1
    ·rename_i c
     split at h1
     ·cases h1
     ·rename_i hb
      split at h1
      ·rename_i hs
       cases h1
       have qt:gO E c v:=k1
       rw[Value.BP qt.oB]
       exact⟨⟨v,[],rfl,qt,rfl⟩,rfl,Nat.eq_of_beq_eq_true hs⟩
      ·cases h1
    ·rename_i ds
     split at h1
     ·rename_i hb
      cases h1
      simp only[Bool.and_eq_true] at hb
      obtain⟨ws,rfl,k⟩:=k1
      rw[hb.1]
      refine⟨k,ws,rfl,?_⟩
      have:=k.length
      rw[Nat.eq_of_beq_eq_true hb.2] at this
      simpa using this
     ·cases h1
    ·cases h1
   refine⟨?_,v,us,rfl,key.2,g2⟩
   simp only[gb,List.flatMap_cons]
   exact key.1.append g1
def svO (o:eQ) (cs:List C):SV:=
 match o.isAgg with
 |true=> .agg cs
 |false=>(match cs with
  |[c]=> .one c
  |_=> .agg cs)
def SO:List eQ→List C→List SV
 |[],_=>[]
 |o::os,cs=>svO o (cs.take o.size)::SO os (cs.drop o.size)
theorem zK:∀{os:List eQ} {cs:List C} {vs:List Value},b5 E cs (gb vs)→Shape os vs→gy E (SO os cs) vs
 |[],cs,vs,hc,hs=>by have hs:vs=[]:=hs;subst hs;rfl
 |o::os,cs,vs,hc,hs=>by
  obtain⟨v,us,rfl,h1,h2⟩:=hs
  simp only[gb,List.flatMap_cons] at hc
  have iX:v.cells.toList.length=o.size:=by
   cases hb:o.isAgg with
   |true=>rw[hb] at h1;obtain⟨ws,rfl,e⟩:=h1;simpa [Value.cells] using e
   |false=>rw[hb] at h1;rw[h1.1,h1.2];rfl
  have c1:b5 E (cs.take o.size) v.cells.toList:=by
   have:=hc.take o.size
   rwa [List.take_left' iX] at this
  have c2:b5 E (cs.drop o.size) (gb us):=by
   have:=hc.drop o.size
   rwa [List.drop_left' iX] at this
  refine⟨v,us,rfl,?_,zK c2 h2⟩
  unfold svO
  cases hb:o.isAgg with
  |true=>rw[hb] at h1;obtain⟨ws,rfl,e⟩:=h1;exact⟨ws,rfl,c1⟩
  |false=>
   rw[hb] at h1
   have hl:=c1.length
   rw[h1.1] at c1 hl
   simp only[List.length_cons,List.length_nil] at hl
   obtain⟨c,AE⟩:=List.length_eq_one_iff.1 hl.symm
   rw[AE] at c1 ⊢
   obtain⟨u,hu,c1⟩:=js c1
   cases hu
   exact c1
end Go.Vc
end

section
set_option linter.unusedVariables false
set_option linter.unusedSimpArgs false
namespace Go.Vc
open Go
variable {P:Program} {X:Ctx} {w0:World} {foot:gF} {base:Mem} {S T:St} {E:Env} {a:Act} {w:World} {ctx:c8}
def dv:(o:eQ)→Bool→o.den→IT→Nat→List C×List (Nat×c5)×IT×Nat
 | .row e t,top,xs,it,n=>(match top,it with
  |true,.row (some m)=>([.row t m],[(m,.row false e t xs)],.row (some m),n)
  |_,_=>cK (.row e t) xs n)
 | .map a b,top,xs,it,n=>(match top,it with
  |true,.row (some m)=>([.map a b m],[(m,.map false a b xs none)],.row (some m),n)
  |_,_=>cK (.map a b) xs n)
 | .cells fx o,top,x,it,n=>(match fx||top,it with
  |true,.cells m t=>let r:=dv o false x t n;([.ptr m 0],(m,.cells r.1)::r.2.1,.cells m r.2.2.1,r.2.2.2)
  |_,_=>cK (.cells fx o) x n)
 | .iz k o,_,x,it,n=>let r:=dv o false x it n;([.iz k (vX r.1)],r.2)
 | .pair a b,_,x,it,n=>(match it with
  | .pair s t=>let r:=dv a false x.1 s n;let q:=dv b false x.2 t r.2.2.2;(r.1++q.1,r.2.1++q.2.1,.pair r.2.2.1 q.2.2.1,q.2.2.2)
  |_=>cK (.pair a b) x n)
 |o,_,x,_,n=>cK o x n
def Fits:IT→PT→Prop
 | .nil,.nil=>True
 | .row (some _),.row _=>True
 | .cells _ t,.cells _ q=>Fits t q
 | .pair a b,.pair p q=>Fits a p∧Fits b q
 |_,_=>False
def cV:IT→PT→List (Nat×Place)
 | .row (some n),.row p=>[(n,p)]
 | .cells n t,.cells p q=>(n,p)::cV t q
 | .pair a b,.pair p q=>cV a p++cV b q
 |_,_=>[]
theorem nK:∀{t:IT} {q:PT},Fits t q→(cV t q).map (·.1)=t.ids∧(cV t q).map (·.2)=q.list
 | .nil,.nil,_=>⟨rfl,rfl⟩
 | .row (some n),.row p,_=>⟨rfl,rfl⟩
 | .cells n t,.cells p q,h=>by obtain⟨h1,h2⟩:=nK (t:=t) (q:=q) h;simp[cV,IT.ids,PT.list,h1,h2]
 | .pair a b,.pair p q,h=>by
  obtain⟨h1,h2⟩:=nK h.1
  obtain⟨h3,h4⟩:=nK h.2
  simp[cV,IT.ids,PT.list,h1,h2,h3,h4]
 | .row none,_,h=>by cases h
 | .nil,.row _,h=>by cases h
 | .nil,.cells _ _,h=>by cases h
 | .nil,.pair _ _,h=>by cases h
 | .row (some _),.nil,h=>by cases h
 | .row (some _),.cells _ _,h=>by cases h
 | .row (some _),.pair _ _,h=>by cases h
 | .cells _ _,.nil,h=>by cases h
 | .cells _ _,.row _,h=>by cases h
 | .cells _ _,.pair _ _,h=>by cases h
 | .pair _ _,.nil,h=>by cases h
 | .pair _ _,.row _,h=>by cases h
 | .pair _ _,.cells _ _,h=>by cases h
theorem rQ:∀{t:IT} {q:PT},Fits t q→(∀i p,(i,p)∈cV t q→E.place i=some p)→nt E t q
 | .nil,.nil,_,_=>trivial
 | .row (some n),.row p,_,h=>h n p (by simp[cV])
 | .cells n t,.cells p q,hf,h=>⟨h n p (by simp[cV]),rQ hf fun i p' hi=>h i p' (by simp[cV,hi])⟩
 | .pair a b,.pair p q,hf,h=>⟨rQ hf.1 fun i p' hi=>h i p' (by simp[cV,hi]),rQ hf.2 fun i p' hi=>h i p' (by simp[cV,hi])⟩
 | .row none,_,h,_=>by cases h
 | .nil,.row _,h,_=>by cases h
 | .nil,.cells _ _,h,_=>by cases h
 | .nil,.pair _ _,h,_=>by cases h
 | .row (some _),.nil,h,_=>by cases h
 | .row (some _),.cells _ _,h,_=>by cases h
 | .row (some _),.pair _ _,h,_=>by cases h
 | .cells _ _,.nil,h,_=>by cases h
 | .cells _ _,.row _,h,_=>by cases h
 | .cells _ _,.pair _ _,h,_=>by cases h
 | .pair _ _,.nil,h,_=>by cases h
 | .pair _ _,.row _,h,_=>by cases h
 | .pair _ _,.cells _ _,h,_=>by cases h
theorem vy {α:Type}:∀{l:List (Nat×α)} {i:Nat} {x:α},(l.map (·.1)).Nodup→(i,x)∈l→find l i=some x
 |[],_,_,_,h=>by cases h
 |(n,y)::l,i,x,hn,h=>by
  simp only[List.map_cons,List.nodup_cons] at hn
  rcases List.mem_cons.1 h with h|h
  ·cases h;simp[find]
  ·have:n≠i:=fun e=>hn.1 (e▸List.mem_map_of_mem (f:=(·.1)) h)
   rw[ei this]
   exact vy hn.2 h
theorem Ad {α:Type}:∀{l:List (Nat×α)} {i:Nat} {x:α},find l i=some x→(i,x)∈l
 |[],_,_,h=>by cases h
 |(n,y)::l,i,x,h=>by
  by_cases e:n=i
  ·subst e
   have:some y=some x:=by simpa [find] using h
   cases this
   exact List.mem_cons_self
  ·rw[ei e] at h
   exact List.mem_cons_of_mem _ (Ad h)
def lv (l:List Place):Prop:=l.Pairwise fun p q=>p.nil=false→q.nil=false→p.bc≠q.bc
theorem lv.apart:∀{l:List (Nat×Place)},lv (l.map (·.2))→∀{i j p q},(i,p)∈l→(j,q)∈l→i≠j→p.nil=false→q.nil=false→p.bc≠q.bc
 |[],_,_,_,_,_,h,_,_,_,_=>by cases h
 |(n,r)::l,h,i,j,p,q,hi,hj,kS,hp,hq=>by
  simp only[lv,List.map_cons,List.pairwise_cons] at h
  rcases List.mem_cons.1 hi with hi|hi
  ·cases hi
   rcases List.mem_cons.1 hj with hj|hj
   ·cases hj;exact absurd rfl kS
   ·exact h.1 q (List.mem_map_of_mem (f:=(·.2)) hj) hp hq
  ·rcases List.mem_cons.1 hj with hj|hj
   ·cases hj;exact Ne.symm (h.1 p (List.mem_map_of_mem (f:=(·.2)) hi) hq hp)
   ·exact lv.apart (l:=l) h.2 hi hj kS hp hq
theorem fV {F:Mem}:∀{o:eQ} {x y:o.den} {vs:List Value} {pl:PT} {n:Nat},lz F w o y vs pl→Fits (cK o x n).2.2.1 pl
 | .aC _,_,_,_,_,_,h=>by obtain⟨rfl,_⟩:=h;trivial
 | .row _ _,_,_,_,_,_,h=>by obtain⟨_,_,rfl,_⟩:=h;trivial
 | .cells _ o,x,y,_,_,n,h=>by obtain⟨_,_,_,_,rfl,_,_,_,h⟩:=h;exact fV (o:=o) (x:=x) (y:=y) h
 | .iz _ o,x,y,_,_,_,h=>by obtain⟨_,_,h⟩:=h;exact fV (o:=o) (x:=x) (y:=y) h
 | .unit,_,_,_,_,_,h=>by obtain⟨_,rfl⟩:=h;trivial
 | .pair _ _,_,_,_,_,_,h=>by obtain⟨_,_,_,_,_,rfl,h1,h2⟩:=h;exact⟨fV h1,fV h2⟩
 | .gone o,x,y,_,_,_,h=>fV (o:=o) (x:=x) (y:=y) h
 | .map _ _,_,_,_,_,_,h=>by obtain⟨_,rfl,_⟩:=h;trivial
theorem pC {F:Mem}:∀{o:eQ} {top:Bool} {x y:o.den} {vs:List Value} {pl:PT} {it:IT} {n:Nat},lz F w o y vs pl→Fits (dv o top x it n).2.2.1 pl
 | .aC _,_,_,_,_,_,_,_,h=>fV h
 | .row _ _,top,_,_,_,_,it,_,h=>by
  unfold dv
  split
  ·obtain⟨_,_,rfl,_⟩:=h;trivial
  ·exact fV h
 | .cells fx o,top,x,y,_,_,it,n,h=>by
  unfold dv
  split
  ·obtain⟨_,_,_,_,rfl,_,_,_,h⟩:=h;exact pC (o:=o) (x:=x) (y:=y) h
  ·exact fV h
 | .iz _ o,_,x,y,_,_,_,_,h=>by obtain⟨_,_,h⟩:=h;exact pC (o:=o) (x:=x) (y:=y) h
 | .unit,_,_,_,_,_,_,_,h=>fV h
 | .pair _ _,_,_,_,_,_,it,_,h=>by
  unfold dv
  split
  ·obtain⟨_,_,_,_,_,rfl,h1,h2⟩:=h;exact⟨pC h1,pC h2⟩
  ·exact fV h
 | .gone _,_,_,_,_,_,_,_,h=>fV h
 | .map _ _,top,_,_,_,_,it,_,h=>by
  unfold dv
  split
  ·obtain⟨_,rfl,_⟩:=h;trivial
  ·exact fV h
structure Ids (l:List (Nat×c5)) (it it':IT) (n n':Nat):Prop where
 le:n≤n'
 k9:∀i∈it'.ids,i∈it.ids∨(n≤i∧i<n')
 keys:l.map (·.1)=it'.ids
 nodup:it.ids.Nodup→(∀i∈it.ids,¬(n≤i∧i<n'))→it'.ids.Nodup
theorem pV (o:eQ) (x:o.den) (it:IT) (n:Nat):Ids (cK o x n).2.1 it (cK o x n).2.2.1 n (cK o x n).2.2.2:=by
 obtain⟨h1,h2,h3,h4⟩:=me o x n
 exact⟨h1,fun i hi=> .inr (h2 i hi),h4,fun _ _=>h3⟩
theorem lN:∀(o:eQ) (top:Bool) (x:o.den) (it:IT) (n:Nat),Ids (dv o top x it n).2.1 it (dv o top x it n).2.2.1 n (dv o top x it n).2.2.2
 | .aC _,_,_,_,_=>pV _ _ _ _
 | .row _ _,top,_,it,_=>by
  unfold dv
  split
  ·exact⟨Nat.le_refl _,fun i hi=> .inl hi,rfl,fun h _=>h⟩
  ·exact pV _ _ _ _
 | .cells fx o,top,x,it,n=>by
  unfold dv
  split
  ·rename_i m t hb
   obtain⟨h1,h2,h3,h4⟩:=lN o false x t n
   refine⟨h1,fun i hi=> ?_,?_,fun hn hr=> ?_⟩
   ·simp only[IT.ids,List.mem_cons] at hi ⊢
    rcases hi with hi|hi
    ·exact .inl (.inl hi)
    ·rcases h2 i hi with h|h
     ·exact .inl (.inr h)
     ·exact .inr h
   ·simp only[IT.ids,List.map_cons,h3]
   ·simp only[IT.ids,List.nodup_cons] at hn ⊢
    refine⟨fun hm=> ?_,h4 hn.2 fun i hi=>hr i (by simp[IT.ids,hi])⟩
    rcases h2 m hm with h|h
    ·exact hn.1 h
    ·exact hr m (by simp[IT.ids]) h
  ·exact pV _ _ _ _
 | .iz _ o,_,x,it,n=>by
  obtain⟨h1,h2,h3,h4⟩:=lN o false x it n
  exact⟨h1,h2,h3,h4⟩
 | .unit,_,_,_,_=>pV _ _ _ _
 | .pair a b,_,x,it,n=>by
  unfold dv
  split
  ·rename_i s t
   obtain⟨h1,h2,h3,h4⟩:=lN a false x.1 s n
   obtain⟨k1,k2,k3,k4⟩:=lN b false x.2 t (dv a false x.1 s n).2.2.2
   refine⟨Nat.le_trans h1 k1,fun i hi=> ?_,?_,fun hn hr=> ?_⟩
   ·simp only[IT.ids,List.mem_append] at hi ⊢
    rcases hi with hi|hi
    ·rcases h2 i hi with h|h
     ·exact .inl (.inl h)
     ·exact .inr ⟨h.1,Nat.lt_of_lt_of_le h.2 k1⟩
    ·rcases k2 i hi with h|h
     ·exact .inl (.inr h)
     ·exact .inr ⟨Nat.le_trans h1 h.1,h.2⟩
   ·simp only[IT.ids,List.map_append,h3,k3]
   ·simp only[IT.ids] at hn ⊢
    obtain⟨n1,n2,n3⟩:=List.nodup_append.1 hn
    have r1:∀i∈s.ids,¬(n≤i∧i<_):=fun i hi=>hr i (by simp[IT.ids,hi])
    have r2:∀i∈t.ids,¬(n≤i∧i<_):=fun i hi=>hr i (by simp[IT.ids,hi])
    refine List.nodup_append.2 ⟨h4 n1 fun i hi hh=>r1 i hi ⟨hh.1,Nat.lt_of_lt_of_le hh.2 k1⟩,k4 n2 fun i hi hh=>r2 i hi ⟨Nat.le_trans h1 hh.1,hh.2⟩,fun i hi j hj e=> ?_⟩
    subst e
    rcases h2 i hi with h|h
    ·rcases k2 i hj with g|g
     ·exact n3 i h i g rfl
     ·exact r1 i h ⟨Nat.le_trans h1 g.1,g.2⟩
    ·rcases k2 i hj with g|g
     ·exact r2 i g ⟨h.1,Nat.lt_of_lt_of_le h.2 k1⟩
     ·omega
  ·exact pV _ _ _ _
 | .gone _,_,_,_,_=>pV _ _ _ _
 | .map _ _,top,_,it,_=>by
  unfold dv
  split
  ·exact⟨Nat.le_refl _,fun i hi=> .inl hi,rfl,fun h _=>h⟩
  ·exact pV _ _ _ _
theorem Mr:∀{o:eQ} {top:Bool} {x:o.den} {it:IT} {n:Nat} {pl gH:PT},nt E it pl→Jf o top pl gH→∀i p,(i,p)∈cV (dv o top x it n).2.2.1 gH→(n≤i∧i<(dv o top x it n).2.2.2)∨E.place i=some p:=by
 have QY:∀{o:eQ} {x:o.den} {n:Nat} {gH:PT} {i:Nat} {p:Place},(i,p)∈cV (cK o x n).2.2.1 gH→n≤i∧i<(cK o x n).2.2.2:=fun {o x n gH i p} hm=>by
  have key:∀{t:IT} {q:PT},(i,p)∈cV t q→i∈t.ids:=by
   intro t
   induction t with
   |nil=>intro q h;cases q<;>cases h
   |row m=>intro q h;cases m<;>cases q<;>simp[cV,IT.ids] at h ⊢;exact h.1
   |cells m t ih=>
    intro q h
    cases q<;>simp only[cV,IT.ids,List.mem_cons,List.not_mem_nil] at h ⊢
    rcases h with h|h
    ·cases h;exact .inl rfl
    ·exact .inr (ih h)
   |pair a b Xt Xs=>
    intro q h
    cases q<;>simp only[cV,IT.ids,List.mem_append,List.not_mem_nil] at h ⊢
    rcases h with h|h
    ·exact .inl (Xt h)
    ·exact .inr (Xs h)
  exact(me o x n).2.1 i (key hm)
 intro o
 induction o with
 |aC t=>intro top x it n pl gH _ _ i p hm;exact .inl (QY hm)
 |row e t=>
  intro top x it n pl gH hi hf i p hm
  unfold dv at hm ⊢
  split at hm
  ·rename_i m
   cases gH with
   |row p'=>
    cases pl with
    |row p0=>
     simp only[cV,List.mem_singleton] at hm
     cases hm
     have:=hf rfl
     right
     cases this
     exact hi
    |nil=>cases hi
    |cells _ _=>cases hi
    |pair _ _=>cases hi
   |nil=>cases hm
   |cells _ _=>cases hm
   |pair _ _=>cases hm
  ·exact .inl (QY hm)
 |cells fx o ih=>
  intro top x it n pl gH hi hf i p hm
  unfold dv at hm ⊢
  split at hm
  ·rename_i m t hb
   cases gH with
   |cells p' q'=>
    cases pl with
    |cells p0 q0=>
     obtain⟨e1,e2⟩:=hf hb
     simp only[cV,List.mem_cons] at hm
     rcases hm with hm|hm
     ·cases hm
      right
      rw[e1]
      exact hi.1
     ·exact ih hi.2 e2 i p hm
    |nil=>cases hi
    |row _=>cases hi
    |pair _ _=>cases hi
   |nil=>cases hm
   |row _=>cases hm
   |pair _ _=>cases hm
  ·exact .inl (QY hm)
 |iz k o ih=>intro top x it n pl gH hi hf i p hm;exact ih hi (by cases pl<;>cases gH<;>exact hf) i p hm
 |unit=>intro top x it n pl gH _ _ i p hm;exact .inl (QY hm)
 |pair a b Xt Xs=>
  intro top x it n pl gH hi hf i p hm
  unfold dv at hm ⊢
  split at hm
  ·rename_i s t
   cases gH with
   |pair p' q'=>
    cases pl with
    |pair p0 q0=>
     obtain⟨f1,f2⟩:=hf
     have i1:=lN a false x.1 s n
     have i2:=lN b false x.2 t (dv a false x.1 s n).2.2.2
     simp only[cV,List.mem_append] at hm
     rcases hm with hm|hm
     ·rcases Xt hi.1 f1 i p hm with h|h
      ·exact .inl ⟨h.1,Nat.lt_of_lt_of_le h.2 i2.le⟩
      ·exact .inr h
     ·rcases Xs hi.2 f2 i p hm with h|h
      ·exact .inl ⟨Nat.le_trans i1.le h.1,h.2⟩
      ·exact .inr h
    |nil=>cases hi
    |row _=>cases hi
    |cells _ _=>cases hi
   |nil=>cases hm
   |row _=>cases hm
   |cells _ _=>cases hm
  ·exact .inl (QY hm)
 |gone o ih=>intro top x it n pl gH _ _ i p hm;exact .inl (QY hm)
 |map a b=>
  intro top x it n pl gH hi hf i p hm
  unfold dv at hm ⊢
  split at hm
  ·rename_i m
   cases gH with
   |row p'=>
    cases pl with
    |row p0=>
     simp only[cV,List.mem_singleton] at hm
     cases hm
     have:=hf rfl
     right
     cases this
     exact hi
    |nil=>cases hi
    |cells _ _=>cases hi
    |pair _ _=>cases hi
   |nil=>cases hm
   |cells _ _=>cases hm
   |pair _ _=>cases hm
  ·exact .inl (QY hm)
theorem vP:∀{o:eQ} {top:Bool} {x:o.den} {it:IT} {n:Nat},o.xO=true→∀c∈(dv o top x it n).1,∃b,c= .ptr b 0
 | .cells _ _,top,_,it,n,h,c,hc=>by
  unfold dv at hc
  split at hc
  ·simp at hc;exact⟨_,hc⟩
  ·exact sm h c hc
 | .unit,_,_,_,_,_,c,hc=>by cases hc
 | .pair a b,_,x,it,n,h,c,hc=>by
  unfold dv at hc
  split at hc
  ·simp only[eQ.xO,Bool.and_eq_true] at h
   simp only[List.mem_append] at hc
   rcases hc with hc|hc
   ·exact vP h.1 c hc
   ·exact vP h.2 c hc
  ·exact sm h c hc
 | .aC _,_,_,_,_,h,_,_=>by cases h
 | .row _ _,_,_,_,_,h,_,_=>by cases h
 | .iz _ _,_,_,_,_,h,_,_=>by cases h
 | .gone _,_,_,_,_,h,_,_=>by cases h
 | .map _ _,_,_,_,_,h,_,_=>by cases h
theorem qK {F:Mem} (sq:E.F=F):∀{o:eQ} {top:Bool} {x:o.den} {vs:List Value} {pl:PT} {it:IT} {n:Nat},o.ok=true→lz F w o x vs pl→nt E (dv o top x it n).2.2.1 pl→
  b5 E (dv o top x it n).1 vs∧∀m B,(m,B)∈(dv o top x it n).2.1→∃p,E.place m=some p∧fX E w p B∧p∈pl.list∧B.mut=true
 | .aC _,_,_,_,_,_,_,hk,h,hi=>gD sq hk h hi
 | .row e t,top,xs,vs,pl,it,n,hk,h,hi=>by
  unfold dv at hi ⊢
  split at hi
  ·rename_i m
   obtain⟨p,v,rfl,rfl,hv,hB⟩:=h
   refine⟨⟨v,[],rfl,⟨p,hi,hv⟩,rfl⟩,fun m' B hm=> ?_⟩
   simp at hm
   obtain⟨rfl,rfl⟩:=hm
   exact⟨p,hi,hB.mono ⟨by rw[sq];exact .refl _,fun _ _ h=>by cases h⟩,by simp[PT.list],rfl⟩
  ·exact gD sq hk h hi
 | .cells fx o,top,x,vs,pl,it,n,hk,h,hi=>by
  unfold dv at hi ⊢
  split at hi
  ·rename_i m t hb
   obtain⟨p,q,us,e,rfl,hn,rfl,hw,h⟩:=h
   obtain⟨hp,hi⟩:=hi
   obtain⟨k1,k2⟩:=qK sq (o:=o) (n:=n) hk h hi
   refine⟨⟨_,[],rfl,⟨p,hp,hn,rfl⟩,rfl⟩,fun m' B hm=> ?_⟩
   simp only[List.mem_cons] at hm
   rcases hm with hm|hm
   ·cases hm
    exact⟨p,hp,⟨hn,us,e,hw,k1⟩,by simp[PT.list],rfl⟩
   ·obtain⟨p',g1,g2,g3,g4⟩:=k2 m' B hm
    exact⟨p',g1,g2,by simp[PT.list,g3],g4⟩
  ·exact gD sq hk h hi
 | .iz k o,top,x,vs,pl,it,n,hk,h,hi=>by
  obtain⟨ws,rfl,h⟩:=h
  simp only[eQ.ok,Bool.and_eq_true] at hk
  obtain⟨k1,k2⟩:=qK sq (o:=o) (top:=false) (it:=it) (n:=n) hk.2 h hi
  obtain⟨ps,g1,g2,g3⟩:=k1.WJ (vP hk.1)
  refine⟨⟨_,[],rfl,⟨ps,g1,g2,?_⟩,rfl⟩,k2⟩
  rw[←g3]
 | .unit,_,_,_,_,_,_,hk,h,hi=>gD sq hk h hi
 | .pair a b,top,x,vs,pl,it,n,hk,h,hi=>by
  unfold dv at hi ⊢
  split at hi
  ·rename_i s t
   obtain⟨us,ws,p,q,rfl,rfl,h1,h2⟩:=h
   simp only[eQ.ok,Bool.and_eq_true] at hk
   obtain⟨k1,k2⟩:=qK sq (n:=n) hk.1 h1 hi.1
   obtain⟨g1,g2⟩:=qK sq (n:=(dv a false x.1 s n).2.2.2) hk.2 h2 hi.2
   refine⟨k1.append g1,fun m B hm=> ?_⟩
   simp only[List.mem_append] at hm
   rcases hm with hm|hm
   ·obtain⟨p',e1,e2,e3,e4⟩:=k2 m B hm
    exact⟨p',e1,e2,by simp[PT.list,e3],e4⟩
   ·obtain⟨p',e1,e2,e3,e4⟩:=g2 m B hm
    exact⟨p',e1,e2,by simp[PT.list,e3],e4⟩
  ·exact gD sq hk h hi
 | .gone _,_,_,_,_,_,_,hk,h,hi=>gD sq hk h hi
 | .map a b,top,xs,vs,pl,it,n,hk,h,hi=>by
  unfold dv at hi ⊢
  split at hi
  ·rename_i m
   obtain⟨p,rfl,hn,rfl,hB⟩:=h
   refine⟨⟨_,[],rfl,⟨p,hi,hn,rfl⟩,rfl⟩,fun m' B hm=> ?_⟩
   simp at hm
   obtain⟨rfl,rfl⟩:=hm
   exact⟨p,hi,hB.mono ⟨by rw[sq];exact .refl _,fun _ _ h=>by cases h⟩,by simp[PT.list],rfl⟩
  ·exact gD sq hk h hi
end Go.Vc
end

section
set_option linter.unusedVariables false
set_option linter.unusedSimpArgs false
namespace Go.Vc
open Go
variable {P:Program} {X:Ctx} {w0:World} {foot:gF} {base:Mem} {S T:St} {E:Env} {a:Act} {w:World} {ctx:c8}
def eQ.kept:eQ→Bool
 | .aC _| .gone _=>false
 |_=>true
def u5 (F:Mem) (w:World):(os:List eQ)→(cX os).den→List Value→PT→PT→Prop
 |[],_,_,_,gH=>gH= .nil
 |o::os,y,vs,pl,gH=>∃p q p' q',pl= .pair p q∧gH= .pair p' q'∧u5 F w os y.2 (vs.drop o.size) q q'∧(match o.kept with
  |true=>lz F w o y.1 (vs.take o.size) p'∧Jf o true p p'
  |false=>p'= .nil)
def pn:(os:List eQ)→(cX os).den→IT→Nat→List (Nat×c5)×IT×Nat
 |[],_,_,n=>([],.nil,n)
 |o::os,y,it,n=>(match it with
  | .pair s t=>(match o.kept with
   |true=>
    let r:=dv o true y.1 s n
    let q:=pn os y.2 t r.2.2.2
    (r.2.1++q.1,.pair r.2.2.1 q.2.1,q.2.2)
   |false=>
    let q:=pn os y.2 t n
    (q.1,.pair .nil q.2.1,q.2.2))
  |_=>([],.nil,n))
theorem yS {F:Mem}:∀{os:List eQ} {x y:(cX os).den} {vs:List Value} {pl gH:PT} {it:IT} {n:Nat},nt E it pl→u5 F w os y vs pl gH→Fits (pn os x it n).2.1 gH
 |[],_,_,_,_,_,_,_,_,h=>by have h:_=_:=h;subst h;trivial
 |o::os,x,y,vs,pl,gH,it,n,hi,h=>by
  obtain⟨p,q,p',q',rfl,rfl,h1,h2⟩:=h
  cases it with
  |pair s t=>
   unfold pn
   simp only
   split
   ·rename_i hk
    rw[hk] at h2
    exact⟨pC h2.1,yS hi.2 h1⟩
   ·rename_i hk
    rw[hk] at h2
    have h2:p'= .nil:=h2
    subst h2
    exact⟨trivial,yS hi.2 h1⟩
  |nil=>cases hi
  |row m=>cases m<;>cases hi
  |cells _ _=>cases hi
theorem xw:∀(os:List eQ) (x:(cX os).den) (it:IT) (n:Nat),Ids (pn os x it n).1 it (pn os x it n).2.1 n (pn os x it n).2.2
 |[],_,_,n=>⟨Nat.le_refl _,fun i hi=>(by cases hi),rfl,fun _ _=>List.nodup_nil⟩
 |o::os,x,it,n=>by
  unfold pn
  split
  ·rename_i s t
   split
   ·obtain⟨h1,h2,h3,h4⟩:=lN o true x.1 s n
    obtain⟨k1,k2,k3,k4⟩:=xw os x.2 t (dv o true x.1 s n).2.2.2
    refine⟨Nat.le_trans h1 k1,fun i hi=> ?_,?_,fun hn hr=> ?_⟩
    ·simp only[IT.ids,List.mem_append] at hi ⊢
     rcases hi with hi|hi
     ·rcases h2 i hi with h|h
      ·exact .inl (.inl h)
      ·exact .inr ⟨h.1,Nat.lt_of_lt_of_le h.2 k1⟩
     ·rcases k2 i hi with h|h
      ·exact .inl (.inr h)
      ·exact .inr ⟨Nat.le_trans h1 h.1,h.2⟩
    ·simp only[IT.ids,List.map_append,h3,k3]
    ·simp only[IT.ids] at hn ⊢
     obtain⟨n1,n2,n3⟩:=List.nodup_append.1 hn
     have r1:∀i∈s.ids,¬(n≤i∧i<_):=fun i hi=>hr i (by simp[IT.ids,hi])
     have r2:∀i∈t.ids,¬(n≤i∧i<_):=fun i hi=>hr i (by simp[IT.ids,hi])
     refine List.nodup_append.2 ⟨h4 n1 fun i hi hh=>r1 i hi ⟨hh.1,Nat.lt_of_lt_of_le hh.2 k1⟩,k4 n2 fun i hi hh=>r2 i hi ⟨Nat.le_trans h1 hh.1,hh.2⟩,fun i hi j hj e=> ?_⟩
     subst e
     rcases h2 i hi with h|h
     ·rcases k2 i hj with g|g
      ·exact n3 i h i g rfl
      ·exact r1 i h ⟨Nat.le_trans h1 g.1,g.2⟩
     ·rcases k2 i hj with g|g
      ·exact r2 i g ⟨h.1,Nat.lt_of_lt_of_le h.2 k1⟩
      ·omega
   ·obtain⟨k1,k2,k3,k4⟩:=xw os x.2 t n
    refine⟨k1,fun i hi=> ?_,?_,fun hn hr=> ?_⟩
    ·simp only[IT.ids,List.mem_append,List.not_mem_nil,false_or] at hi ⊢
     rcases k2 i hi with h|h
     ·exact .inl (.inr h)
     ·exact .inr h
    ·simp only[IT.ids,List.nil_append,k3]
    ·simp only[IT.ids,List.nil_append] at hn ⊢
     exact k4 (List.nodup_append.1 hn).2.1 fun i hi=>hr i (by simp[IT.ids,hi])
  ·exact⟨Nat.le_refl _,fun i hi=>(by cases hi),rfl,fun _ _=>List.nodup_nil⟩
theorem Bv {F:Mem}:∀{os:List eQ} {x y:(cX os).den} {vs:List Value} {it:IT} {n:Nat} {pl gH:PT},nt E it pl→u5 F w os y vs pl gH→∀i p,(i,p)∈cV (pn os x it n).2.1 gH→(n≤i∧i<(pn os x it n).2.2)∨E.place i=some p
 |[],_,_,_,_,_,_,_,_,h,i,p,hm=>by have h:_=_:=h;subst h;cases hm
 |o::os,x,y,vs,it,n,pl,gH,hi,h,i,p,hm=>by
  obtain⟨p0,q0,p',q',rfl,rfl,h1,h2⟩:=h
  cases it with
  |pair s t=>
   unfold pn at hm ⊢
   simp only at hm ⊢
   split at hm
   ·rename_i hk
    rw[hk] at h2
    have i1:=lN o true x.1 s n
    have i2:=xw os x.2 t (dv o true x.1 s n).2.2.2
    simp only[cV,List.mem_append] at hm
    rcases hm with hm|hm
    ·rcases Mr hi.1 h2.2 i p hm with g|g
     ·exact .inl ⟨g.1,Nat.lt_of_lt_of_le g.2 i2.le⟩
     ·exact .inr g
    ·rcases Bv hi.2 h1 i p hm with g|g
     ·exact .inl ⟨Nat.le_trans i1.le g.1,g.2⟩
     ·exact .inr g
   ·rename_i hk
    rw[hk] at h2
    have h2:p'= .nil:=h2
    subst h2
    simp only[cV,List.nil_append] at hm
    exact Bv hi.2 h1 i p hm
  |nil=>cases hi
  |row m=>cases m<;>cases hi
  |cells _ _=>cases hi
theorem Bu {F:Mem} {E':Env} (sq:E'.F=F):∀{os:List eQ} {y:(cX os).den} {vs:List Value} {it:IT} {n:Nat} {pl gH:PT},(∀o∈os,o.ok=true)→nt E it pl→u5 F w os y vs pl gH→nt E' (pn os y it n).2.1 gH→
  ∀m B,(m,B)∈(pn os y it n).1→∃p,E'.place m=some p∧fX E' w p B∧p∈gH.list∧B.mut=true
 |[],_,_,_,_,_,_,_,_,_,_,m,B,hm=>by cases hm
 |o::os,y,vs,it,n,pl,gH,hk,hi,h,Eo,m,B,hm=>by
  obtain⟨p0,q0,p',q',rfl,rfl,h1,h2⟩:=h
  cases it with
  |pair s t=>
   unfold pn at hm Eo
   simp only at hm Eo
   split at hm
   ·rename_i AD
    rw[AD] at h2 Eo
    simp only[List.mem_append] at hm
    rcases hm with hm|hm
    ·obtain⟨p,e1,e2,e3,e4⟩:=(qK sq (hk o List.mem_cons_self) h2.1 Eo.1).2 m B hm
     exact⟨p,e1,e2,by simp[PT.list,e3],e4⟩
    ·obtain⟨p,e1,e2,e3,e4⟩:=Bu sq (fun o ho=>hk o (List.mem_cons_of_mem _ ho)) hi.2 h1 Eo.2 m B hm
     exact⟨p,e1,e2,by simp[PT.list,e3],e4⟩
   ·rename_i AD
    rw[AD] at h2 Eo
    obtain⟨p,e1,e2,e3,e4⟩:=Bu sq (fun o ho=>hk o (List.mem_cons_of_mem _ ho)) hi.2 h1 Eo.2 m B hm
    exact⟨p,e1,e2,by simp[PT.list,e3],e4⟩
  |nil=>cases hi
  |row m=>cases m<;>cases hi
  |cells _ _=>cases hi
def xz {α:Type}:Nat→α→List α→List α
 |0,v,l=>v::l
 |_+1,v,[]=>[v]
 |n+1,v,a::l=>a::xz n v l
def Ey {α:Type}:Nat→List α→List α
 |_,[]=>[]
 |0,_::l=>l
 |n+1,a::l=>a::Ey n l
theorem Pc {α:Type}:∀{n:Nat} {l:List α} {v:α},l[n]? =some v→xz n v (Ey n l)=l
 |0,[],v,h=>by simp at h
 |0,a::l,v,h=>by simp at h;subst h;rfl
 |n+1,[],v,h=>by simp at h
 |n+1,a::l,v,h=>by
  have:=Pc (n:=n) (l:=l) (v:=v) (by simpa using h)
  show a::xz n v (Ey n l)=_
  rw[this]
theorem AY {α:Type}:∀{n:Nat} {l:List α} {v:α},(xz n v l).length=l.length+1
 |0,l,v=>rfl
 |n+1,[],v=>rfl
 |n+1,a::l,v=>by simp[xz,AY]
theorem gy.del:∀{n:Nat} {ss:List SV} {vs:List Value},gy E ss vs→gy E (Ey n ss) (Ey n vs)
 |n,[],vs,h=>by
  have h:vs=[]:=h
  subst h
  cases n<;>rfl
 |0,s::ss,vs,h=>by obtain⟨v,us,rfl,_,h2⟩:=h;exact h2
 |n+1,s::ss,vs,h=>by
  obtain⟨v,us,rfl,h1,h2⟩:=h
  exact⟨v,_,rfl,h1,gy.del h2⟩
theorem gy.get:∀{n:Nat} {ss:List SV} {vs:List Value} {s:SV},gy E ss vs→ss[n]? =some s→∃v,vs[n]? =some v∧ft E s v
 |n,[],vs,s,h,hs=>by simp at hs
 |0,t::ss,vs,s,h,hs=>by
  obtain⟨v,us,rfl,h1,_⟩:=h
  simp at hs
  subst hs
  exact⟨v,rfl,h1⟩
 |n+1,t::ss,vs,s,h,hs=>by
  obtain⟨v,us,rfl,_,h2⟩:=h
  obtain⟨u,g1,g2⟩:=gy.get (n:=n) h2 (by simpa using hs)
  exact⟨u,by simpa using g1,g2⟩
theorem gy.ins:∀{n:Nat} {ss:List SV} {vs:List Value} {s:SV} {v:Value},gy E ss vs→ft E s v→gy E (xz n s ss) (xz n v vs)
 |0,ss,vs,s,v,h,hs=>⟨v,vs,rfl,hs,h⟩
 |n+1,[],vs,s,v,h,hs=>by
  have h:vs=[]:=h
  subst h
  exact⟨v,[],rfl,hs,rfl⟩
 |n+1,t::ss,vs,s,v,h,hs=>by
  obtain⟨u,us,rfl,h1,h2⟩:=h
  exact⟨u,_,rfl,h1,gy.ins h2 hs⟩
def E4:List Nat→PT→Option Place
 |[],.cells p _=>some p
 |0::l,.pair a _=>E4 l a
 |1::l,.pair _ b=>E4 l b
 |2::l,.cells _ q=>E4 l q
 |_,_=>none
def G8:List Nat→IT→Option Nat
 |[],.cells n _=>some n
 |0::l,.pair a _=>G8 l a
 |1::l,.pair _ b=>G8 l b
 |2::l,.cells _ q=>G8 l q
 |_,_=>none
theorem yv:∀{l:List Nat} {t:IT} {q:PT} {n:Nat},nt E t q→G8 l t=some n→∃p,E4 l q=some p∧E.place n=some p
 |[],.cells m t,.cells p q,n,h,hs=>by
  have hs:some m=some n:=hs
  cases hs
  exact⟨p,rfl,h.1⟩
 |0::l,.pair a b,.pair p q,n,h,hs=>yv (l:=l) h.1 hs
 |1::l,.pair a b,.pair p q,n,h,hs=>yv (l:=l) h.2 hs
 |2::l,.cells m t,.cells p q,n,h,hs=>yv (l:=l) h.2 hs
theorem xi:∀{l:List Nat} {t:IT} {q:PT} {p:Place},Fits t q→E4 l q=some p→∃n,G8 l t=some n
 |[],t,.cells p q,r,h,hs=>by
  cases t with
  |cells m u=>exact⟨m,rfl⟩
  |nil=>cases h
  |row b=>cases b<;>cases h
  |pair _ _=>cases h
 |0::l,t,.pair p q,r,h,hs=>by
  cases t with
  |pair a b=>exact xi (l:=l) h.1 hs
  |nil=>cases h
  |row b=>cases b<;>cases h
  |cells _ _=>cases h
 |1::l,t,.pair p q,r,h,hs=>by
  cases t with
  |pair a b=>exact xi (l:=l) h.2 hs
  |nil=>cases h
  |row b=>cases b<;>cases h
  |cells _ _=>cases h
 |2::l,t,.cells p q,r,h,hs=>by
  cases t with
  |cells m u=>exact xi (l:=l) (t:=u) (by first|exact h|exact h.2) hs
  |nil=>cases h
  |row b=>cases b<;>cases h
  |pair _ _=>cases h
def AX (al:Option (Nat×List Nat)) (vs:List Value) (pl:PT):List Value:=
 match al with
 |none=>vs
 |some (pos,path)=>(match E4 path pl with
  |some p=>xz pos (.pointer (some ⟨p.bc,0,none⟩)) vs
  |none=>vs)
def Xq (al:Option (Nat×List Nat)) (ss:List SV) (it:IT):List SV:=
 match al with
 |none=>ss
 |some (pos,path)=>(match G8 path it with
  |some n=>xz pos (.one (.ptr n 0)) ss
  |none=>ss)
def KG {α:Type} (al:Option (Nat×List Nat)) (ss:List α):List α:=
 match al with
 |none=>ss
 |some (pos,_)=>Ey pos ss
def YN (al:Option (Nat×List Nat)) (ss:List SV) (it:IT):Bool:=
 match al with
 |none=>true
 |some (pos,path)=>(match ss[pos]?,G8 path it with
  |some (.one (.ptr b o)),some n=>Nat.beq b n&&Nat.beq o 0
  |_,_=>false)
def Zu (al:Option (Nat×List Nat)) (pl:PT):Prop:=
 match al with
 |none=>True
 |some (_,path)=>∃p,E4 path pl=some p∧p.nil=false
def NO (al:Option (Nat×List Nat)):Nat:=
 match al with
 |none=>0
 |some _=>1
theorem VJ {al:Option (Nat×List Nat)} {ss:List SV} {vs:List Value} (h:gy E ss vs):gy E (KG al ss) (KG al vs):=by
 cases al with
 |none=>exact h
 |some a=>exact h.del
theorem Sy {E1:Env} {al:Option (Nat×List Nat)} {ss:List SV} {vs:List Value} {it:IT} {pl:PT} (hle:E.le E1) (h:gy E ss vs) (mU:nt E1 it pl) (ha:YN al ss it=true):vs=AX al (KG al vs) pl∧Zu al pl:=by
 cases al with
 |none=>exact⟨rfl,trivial⟩
 |some a=>
  obtain⟨pos,path⟩:=a
  unfold YN at ha
  simp only at ha
  split at ha
  ·rename_i b o n hs hn
   simp only[Bool.and_eq_true] at ha
   have e1:=Nat.eq_of_beq_eq_true ha.1
   have e2:=Nat.eq_of_beq_eq_true ha.2
   subst e1 e2
   obtain⟨v,g1,g2⟩:=h.get hs
   obtain⟨c,hc,p,hp,o3,hv⟩:∃c,c=C.ptr b 0∧∃p,E.place b=some p∧p.nil=false∧v= .pointer (some ⟨p.bc,0,none⟩):=⟨_,rfl,g2⟩
   obtain⟨p',k1,k2⟩:=yv mU hn
   rw[hle.place _ _ hp] at k2
   cases k2
   refine⟨?_,p,k1,o3⟩
   show vs=match E4 path pl with |some p=>_|none=>_
   rw[k1]
   simp only
   rw[←hv]
   exact(Pc g1).symm
  ·cases ha
structure fq where
 args:List eQ
 outs:List eQ
 pre:(cX args).den→Prop
 fn:(cX args).den→(cX outs).den
 fO:(cX args).den→(cX args).den:=fun x=>x
 al:Option (Nat×List Nat):=none
def Qh (outs:List eQ) (v:Value) (vs:List Value):Prop:=
 match outs with
 |[_]=>vs=[v]
 |_=>v= .tuple vs.toArray
def Wp:List eQ→List C→List (Bool×List C)
 |[],_=>[]
 |o::os,cs=>(o.isAgg,cs.take o.size)::Wp os (cs.drop o.size)
def Mn (outs:List eQ) (cs:List C):SV:=
 match outs with
 |[o]=>svO o cs
 |_=> .yb (Wp outs cs)
def nJ (l:List Place) (b:Nat):Prop:=∃p∈l,p.nil=false∧p.bc=b
structure ew (P:Program) (f:Nat) (c:fq):Prop where
 fn:∃fn code,P.funcs[f]? =some fn∧(fn.name=="runtime.NumGoroutine")=false∧fn.body=some code
 WN:∀o∈c.args,o.ok=true
 UL:(cX c.outs).ok=true
 calls:∀(F:Mem) (w:World) (x:(cX c.args).den) (vs:List Value) (pl:PT),(∀b o,F b=some o→w.heap[b]? =some o)→lz F w (cX c.args) x (gb vs) pl→Shape c.args vs→lv pl.list→
  (∀p∈pl.list,p.nil=false→F p.bc=none)→c.pre x→Zu c.al pl→
  Calls P f (AX c.al vs pl).toArray w fun e w'=>∃v F' A9 gH qs,e= .returned v∧F.le F'∧(∀b o,F' b=some o→w'.heap[b]? =some o)∧(∀b o,F' b=some o→F b=some o∨w.heap.size≤b∨nJ pl.list b)∧
   sD (nJ pl.list) w w'∧Qh c.outs v A9∧Shape c.outs A9∧lz F' w' (cX c.outs) (c.fn x) (gb A9) qs∧u5 F' w' c.args (c.fO x) (gb vs) pl gH∧
   lv (gH.list++qs.list)∧∀p∈gH.list++qs.list,p.nil=false→(nJ pl.list p.bc∨w.heap.size≤p.bc)∧F' p.bc=none
def Cw:List Nat→Bool
 |[]=>true
 |n::l=>match has l n with
  |true=>false
  |false=>Cw l
theorem xn:∀{l:List Nat},Cw l=true→l.Nodup
 |[],_=>List.nodup_nil
 |n::l,h=>by
  unfold Cw at h
  split at h
  ·cases h
  ·rename_i hb
   exact List.nodup_cons.2 ⟨fun hm=>(by rw[so.2 hm] at hb;cases hb),xn h⟩
def zA (fr:hY):List Nat→Bool
 |[]=>true
 |n::l=>match vn fr n with
  |true=>zA fr l
  |false=>false
theorem vZ {fr:hY}:∀{l:List Nat},zA fr l=true→∀n∈l,∀p∈fr,p.1≠n
 |[],_,n,hn=>by cases hn
 |m::l,h,n,hn=>by
  unfold zA at h
  split at h
  ·rename_i hb
   rcases List.mem_cons.1 hn with rfl|hn
   ·exact zX hb
   ·exact vZ h n hn
  ·cases h
def JS:Nat→Nat→List Nat
 |_,0=>[]
 |n,k+1=>n::JS (n+1) k
theorem tD:∀{k n i:Nat},i∈JS n k↔n≤i∧i<n+k
 |0,n,i=>⟨fun h=>(by cases h),fun h=>(by omega)⟩
 |k+1,n,i=>by simp only[JS,List.mem_cons,tD];omega
def fq.run (c:fq) (args:List SV) (d:Nat):RM b7:=do
 let cs ←wc c.args (KG c.al args)
 let x ←mE (cX c.args) cs
 cR (YN c.al args x.2.2&&(Cw x.2.2.ids&&zA x.2.1 x.2.2.ids))
 let n:=1000*(d+1)
 let k:=pn c.args (c.fO x.1) x.2.2 n
 let q:=cK (cX c.outs) (c.fn x.1) k.2.2
 .ret {val:=some (Mn c.outs q.1),ck:=x.2.1++(k.1++q.2.1),del:=x.2.2.ids,new:=JS n (q.2.2.2 - n),conds:=[c.pre x.1]}
def fq.dy (c:fq):SK:={run:=c.run}
theorem sE:∀{t:IT} {q:PT},nt E t q→t.ids.Nodup→(∀i∈t.ids,∀j∈t.ids,i≠j→∀p r,E.place i=some p→E.place j=some r→p.nil=false→r.nil=false→p.bc≠r.bc)→
  lv q.list∧∀p∈q.list,p.nil=true∨∃i∈t.ids,E.place i=some p
 | .nil,.nil,_,_,_=>⟨List.Pairwise.nil,fun p hp=>(by cases hp)⟩
 | .row none,.row p,h,_,_=>⟨by simp[PT.list,lv],fun r hr=>by simp[PT.list] at hr;subst hr;have h:r=zY:=h;subst h;exact .inl rfl⟩
 | .row (some n),.row p,h,_,_=>⟨by simp[PT.list,lv],fun r hr=>by simp[PT.list] at hr;subst hr;exact .inr ⟨n,by simp[IT.ids],h⟩⟩
 | .cells n t,.cells p q,h,hn,hd=>by
  simp only[IT.ids,List.nodup_cons] at hn
  obtain⟨k1,k2⟩:=sE h.2 hn.2 fun i hi j hj=>hd i (by simp[IT.ids,hi]) j (by simp[IT.ids,hj])
  refine⟨List.pairwise_cons.2 ⟨fun r hr h1 h2=> ?_,k1⟩,fun r hr=> ?_⟩
  ·rcases k2 r hr with g|⟨i,hi,g⟩
   ·rw[g] at h2;cases h2
   ·exact hd n (by simp[IT.ids]) i (by simp[IT.ids,hi]) (fun e=>hn.1 (e▸hi)) p r h.1 g h1 h2
  ·simp only[PT.list,List.mem_cons] at hr
   rcases hr with rfl|hr
   ·exact .inr ⟨n,by simp[IT.ids],h.1⟩
   ·rcases k2 r hr with g|⟨i,hi,g⟩
    ·exact .inl g
    ·exact .inr ⟨i,by simp[IT.ids,hi],g⟩
 | .pair a b,.pair p q,h,hn,hd=>by
  simp only[IT.ids] at hn
  obtain⟨n1,n2,n3⟩:=List.nodup_append.1 hn
  obtain⟨k1,k2⟩:=sE h.1 n1 fun i hi j hj=>hd i (by simp[IT.ids,hi]) j (by simp[IT.ids,hj])
  obtain⟨l1,l2⟩:=sE h.2 n2 fun i hi j hj=>hd i (by simp[IT.ids,hi]) j (by simp[IT.ids,hj])
  refine⟨List.pairwise_append.2 ⟨k1,l1,fun r hr s hs h1 h2=> ?_⟩,fun r hr=> ?_⟩
  ·rcases k2 r hr with g|⟨i,hi,g⟩
   ·rw[g] at h1;cases h1
   ·rcases l2 s hs with g'|⟨j,hj,g'⟩
    ·rw[g'] at h2;cases h2
    ·exact hd i (by simp[IT.ids,hi]) j (by simp[IT.ids,hj]) (fun e=>n3 i hi j hj e) r s g g' h1 h2
  ·simp only[PT.list,List.mem_append] at hr
   rcases hr with hr|hr
   ·rcases k2 r hr with g|⟨i,hi,g⟩
    ·exact .inl g
    ·exact .inr ⟨i,by simp[IT.ids,hi],g⟩
   ·rcases l2 r hr with g|⟨i,hi,g⟩
    ·exact .inl g
    ·exact .inr ⟨i,by simp[IT.ids,hi],g⟩
theorem wX:∀{t:IT} {q:PT},nt E t q→∀i∈t.ids,∃p∈q.list,E.place i=some p
 | .nil,_,_,i,hi=>by cases hi
 | .row none,_,_,i,hi=>by cases hi
 | .row (some n),.row p,h,i,hi=>by simp[IT.ids] at hi;subst hi;exact⟨p,by simp[PT.list],h⟩
 | .cells n t,.cells p q,h,i,hi=>by
  simp only[IT.ids,List.mem_cons] at hi
  rcases hi with rfl|hi
  ·exact⟨p,by simp[PT.list],h.1⟩
  ·obtain⟨r,h1,h2⟩:=wX h.2 i hi
   exact⟨r,by simp[PT.list,h1],h2⟩
 | .pair a b,.pair p q,h,i,hi=>by
  simp only[IT.ids,List.mem_append] at hi
  rcases hi with hi|hi
  ·obtain⟨r,h1,h2⟩:=wX h.1 i hi
   exact⟨r,by simp[PT.list,h1],h2⟩
  ·obtain⟨r,h1,h2⟩:=wX h.2 i hi
   exact⟨r,by simp[PT.list,h1],h2⟩
theorem QX {outs:List eQ} {cs:List C} {v:Value} {vs:List Value} (hv:Qh outs v vs) (hs:Shape outs vs) (hc:b5 E cs (gb vs)):ft E (Mn outs cs) v:=by
 have yb:∀{os:List eQ} {cs:List C} {vs:List Value},Shape os vs→b5 E cs (gb vs)→ft.go E (Wp os cs) vs:=by
  intro os
  induction os with
  |nil=>intro cs vs hs hc;have hs:vs=[]:=hs;subst hs;rfl
  |cons o os ih=>
   intro cs vs hs hc
   have hr:=zK hc hs
   obtain⟨v,us,rfl,h1,h2⟩:=hs
   obtain⟨v',F7,he,k1,k2⟩:=hr
   cases he
   simp only[gb,List.flatMap_cons] at hc
   have iX:v.cells.toList.length=o.size:=by
    cases hb:o.isAgg with
    |true=>rw[hb] at h1;obtain⟨ws,rfl,e⟩:=h1;simpa [Value.cells] using e
    |false=>rw[hb] at h1;rw[h1.1,h1.2];rfl
   have c2:b5 E (cs.drop o.size) (gb us):=by
    have:=hc.drop o.size
    rwa [List.drop_left' iX] at this
   refine⟨v,us,rfl,?_,ih h2 c2⟩
   have c1:b5 E (cs.take o.size) v.cells.toList:=by
    have:=hc.take o.size
    rwa [List.take_left' iX] at this
   cases hb:o.isAgg with
   |true=>rw[hb] at h1;obtain⟨ws,rfl,e⟩:=h1;exact⟨ws,rfl,c1⟩
   |false=>
    rw[hb] at h1
    have hl:=c1.length
    rw[h1.1] at c1 hl
    simp only[List.length_cons,List.length_nil] at hl
    obtain⟨c,AE⟩:=List.length_eq_one_iff.1 hl.symm
    rw[AE] at c1
    obtain⟨u,hu,c1⟩:=js c1
    cases hu
    exact⟨c,AE,c1⟩
 unfold Qh at hv
 unfold Mn
 split at hv
 ·rename_i o
  subst hv
  obtain⟨_,_,he,k,_⟩:=zK hc hs
  cases he
  have iX:o.size=cs.length:=by
   obtain⟨_,_,he,h1,_⟩:=hs
   cases he
   have:=hc.length
   simp only[gb,List.flatMap_cons,List.flatMap_nil,List.append_nil] at this
   cases hb:o.isAgg with
   |true=>rw[hb] at h1;obtain⟨ws,rfl,e⟩:=h1;simp[Value.cells] at this;omega
   |false=>rw[hb] at h1;rw[h1.1] at this;simp at this;omega
  rwa [iX,List.take_length] at k
 ·subst hv
  exact⟨vs.toArray,rfl,yb hs hc⟩
theorem ew.dy {f:Nat} {c:fq} (hc:ew P f c):mr P f c.dy where
 fn:=hc.fn
 calls:=by
  intro w0 foot base S ctx E w args vs d r hR hv hr cq ql
  unfold fq.dy fq.run at hr
  obtain⟨cs,h1,hr⟩:=RM.run_bind' hr
  obtain⟨⟨x,fr,it⟩,h2,hr⟩:=RM.run_bind' hr
  obtain⟨_,h3,hr⟩:=RM.run_bind' hr
  cases hr
  simp only at cq ql ⊢
  have hg:=bQ h3
  simp only[Bool.and_eq_true] at hg
  obtain⟨ain,hg⟩:=hg
  have hnd:=xn hg.1
  have nD:=vZ hg.2
  have aai:=hv
  have hv:=VJ (al:=c.al) hv
  obtain⟨mA,aao⟩:=w9 h1 hv
  obtain⟨k1,k2,k3⟩:=lO h2
  obtain⟨E1,l1,q1,f1,za⟩:=hR.cA k1
  have hfz:=fm.qg k1 za
  have uK:∀n∈it.ids,find (cA fr S.bl) n=find S.bl n:=fun n hn=>ig (nD n hn)
  have rm:∀n∈it.ids,∃B,find (cA fr S.bl) n=some B∧B.mut=true:=fun n hn=>by rw[uK n hn];exact k2 n hn
  obtain⟨pl,mU,jz⟩:=k3 E1 w (gb (KG c.al vs)) (mA.mono l1) hfz fun n hn B hB=>za.ck n B (by rw[uK n hn];exact hB)
  have aes:∀i∈it.ids,∀j∈it.ids,i≠j→∀p r,E1.place i=some p→E1.place j=some r→p.nil=false→r.nil=false→p.bc≠r.bc:=fun i hi j hj kS p r hp hr o3 XG=>by
   obtain⟨B,hB,_⟩:=rm i hi
   obtain⟨D,hD,_⟩:=rm j hj
   exact za.inj i j B D p r hB hD hp hr o3 XG kS
  obtain⟨Pq,FF⟩:=sE mU hnd aes
  have oF:∀b,nJ pl.list b↔zU it.ids E1 b:=fun b=>by
   constructor
   ·rintro⟨p,hp,hn,rfl⟩
    rcases FF p hp with h|⟨i,hi,h⟩
    ·rw[h] at hn;cases hn
    ·exact⟨i,hi,p,h,hn,rfl⟩
   ·rintro⟨i,hi,p,hp,hn,rfl⟩
    obtain⟨p',h1,h2⟩:=wX mU i hi
    rw[hp] at h2
    cases h2
    exact⟨p,h1,hn,rfl⟩
  have BF:∀p∈pl.list,p.nil=false→E1.F p.bc=none:=fun p hp hn=>by
   rcases FF p hp with h|⟨i,hi,h⟩
   ·rw[h] at hn;cases hn
   ·obtain⟨B,hB,hm⟩:=rm i hi
    exact(za.own i B p hB h hn).2 hm
  have od:c.pre x:=cq _ (List.mem_singleton.2 rfl)
  obtain⟨aik,C2⟩:=Sy l1 aai mU ain
  rw[aik]
  generalize KG c.al vs=vs at *
  refine(hc.calls E1.F w x vs pl za.mW jz aao Pq BF od C2).mono fun e w' hp=> ?_
  obtain⟨v,F',A9,gH,qs,rfl,hF,FH,wD,sJ,hov,hos,XJ,hk,ah9,ad8⟩:=hp
  generalize hko:pn c.args (c.fO x) it (1000*(d+1))=k at *
  have hI:=xw c.args (c.fO x) it (1000*(d+1))
  have yY:=yS (x:=c.fO x) (n:=1000*(d+1)) mU hk
  have aby:=Bv (x:=c.fO x) (n:=1000*(d+1)) mU hk
  rw[hko] at hI yY aby
  generalize XH:cK (cX c.outs) (c.fn x) k.2.2=q at *
  have hJ:=me (cX c.outs) (c.fn x) k.2.2
  have RY:=fV (x:=c.fn x) (n:=k.2.2) XJ
  rw[XH] at hJ RY
  obtain⟨j1,j2,j3,j4⟩:=hJ
  have Em:∀i∈it.ids,i∈S.used:=fun i hi=>by
   obtain⟨p,_,h⟩:=wX mU i hi
   exact za.used i p h
  have aas:∀i,1000*(d+1)≤i→i<q.2.2.2→i∉S.used:=fun i h1 h2=>ql i (tD.2 ⟨h1,by omega⟩)
  have vv:∀i∈it.ids,¬(1000*(d+1)≤i∧i<q.2.2.2):=fun i hi hh=>aas i hh.1 hh.2 (Em i hi)
  have hle:=hI.le
  have nd1:k.2.1.ids.Nodup:=hI.nodup hnd fun i hi hh=>vv i hi ⟨hh.1,by omega⟩
  have abB:Fits (.pair k.2.1 q.2.2.1) (.pair gH qs):=⟨yY,RY⟩
  obtain⟨O5,Td⟩:=nK abB
  have ndA:(IT.pair k.2.1 q.2.2.1).ids.Nodup:=by
   simp only[IT.ids]
   refine List.nodup_append.2 ⟨nd1,j3,fun i hi j hj e=> ?_⟩
   subst e
   have g:=j2 i hj
   rcases hI.k9 i hi with h|h
   ·exact vv i h ⟨by omega,g.2⟩
   ·omega
  have R7:∀i p,(i,p)∈cV (.pair k.2.1 q.2.2.1) (.pair gH qs)→find (cV (.pair k.2.1 q.2.2.1) (.pair gH qs)) i=some p:=fun i p hm=>vy (by rw[O5];exact ndA) hm
  have place:∀i p,(i,p)∈cV (.pair k.2.1 q.2.2.1) (.pair gH qs)→(E1.rebind F' (cV (.pair k.2.1 q.2.2.1) (.pair gH qs))).place i=some p:=fun i p hm=>by
   show(match find _ i with |some p=>some p|none=>E1.place i)=some p
   rw[R7 i p hm]
  have Pz:=rQ abB place
  have Tb:(k.1++q.2.1).map (·.1)=(IT.pair k.2.1 q.2.2.1).ids:=by simp only[List.map_append,IT.ids,hI.keys,j4]
  have agW:∀i B,(i,B)∈k.1++q.2.1→∃p,(E1.rebind F' (cV (.pair k.2.1 q.2.2.1) (.pair gH qs))).place i=some p∧fX (E1.rebind F' (cV (.pair k.2.1 q.2.2.1) (.pair gH qs))) w' p B∧p∈gH.list++qs.list:=fun i B hm=>by
   rcases List.mem_append.1 hm with hm|hm
   ·have:=Bu (E:=E1) (E':=E1.rebind F' (cV (.pair k.2.1 q.2.2.1) (.pair gH qs))) (n:=1000*(d+1)) rfl hc.WN mU hk (by rw[hko];exact Pz.1) i B (by rw[hko];exact hm)
    obtain⟨p,e1,e2,e3,_⟩:=this
    exact⟨p,e1,e2,List.mem_append_left _ e3⟩
   ·have:=(gD (E:=E1.rebind F' (cV (.pair k.2.1 q.2.2.1) (.pair gH qs))) (n:=k.2.2) rfl hc.UL XJ (by rw[XH];exact Pz.2)).2 i B (by rw[XH];exact hm)
    obtain⟨p,e1,e2,e3,_⟩:=this
    exact⟨p,e1,e2,List.mem_append_right _ e3⟩
  have abj:∀i B,(i,B)∈k.1++q.2.1→∃p,(i,p)∈cV (.pair k.2.1 q.2.2.1) (.pair gH qs):=fun i B hm=>by
   have:i∈(cV (.pair k.2.1 q.2.2.1) (.pair gH qs)).map (·.1):=by
    rw[O5,←Tb]
    exact List.mem_map_of_mem (f:=(·.1)) hm
   obtain⟨⟨i',p⟩,h1,h2⟩:=List.mem_map.1 this
   cases h2
   exact⟨p,h1⟩
  have hsw:=za.swap (L:=it.ids) rm (w':=w') (F':=F') (NB:=k.1++q.2.1) (fresh:=JS (1000*(d+1)) (q.2.2.2 - 1000*(d+1))) (bd:=cV (.pair k.2.1 q.2.2.1) (.pair gH qs))
   hF FH (fun b o hb=>by rcases wD b o hb with h|h|h;exact .inl h;exact .inr (.inl h);exact .inr (.inr ((oF b).1 h)))
   ⟨sJ.os,sJ.tape,sJ.output,sJ.size,fun b hb hnb=>sJ.block b hb fun h=>hnb ((oF b).1 h)⟩ ql
   (fun i p hf=>by
    have hm:=Ad hf
    simp only[cV,List.mem_append] at hm
    rcases hm with hm|hm
    ·rcases aby i p hm with h|h
     ·exact .inl (tD.2 ⟨h.1,by omega⟩)
     ·exact .inr h
    ·left
     have:i∈q.2.2.1.ids:=by
      rw[←(nK RY).1]
      exact List.mem_map_of_mem (f:=(·.1)) hm
     have:=j2 i this
     exact tD.2 ⟨by omega,by omega⟩)
   (fun i B hm=>by
    have:i∈(IT.pair k.2.1 q.2.2.1).ids:=by rw[←Tb];exact List.mem_map_of_mem (f:=(·.1)) hm
    simp only[IT.ids,List.mem_append] at this
    rcases this with h|h
    ·rcases hI.k9 i h with h|h
     ·exact .inl h
     ·exact .inr (tD.2 ⟨h.1,by omega⟩)
    ·have:=j2 i h
     exact .inr (tD.2 ⟨by omega,by omega⟩))
   (fun i B hm=>by
    obtain⟨p,e1,e2,e3⟩:=agW i B hm
    refine⟨p,e1,e2,fun hn=> ?_⟩
    obtain⟨g1,g2⟩:=ad8 p e3 hn
    exact⟨g1.imp_left (oF p.bc).1,g2⟩)
   (fun i B j D p r hi hj kS hp hr o3 XG=>by
    obtain⟨p',dj⟩:=abj i B hi
    obtain⟨r',M4⟩:=abj j D hj
    have e1:=place i p' dj
    have e2:=place j r' M4
    rw[hp] at e1
    rw[hr] at e2
    cases e1
    cases e2
    refine lv.apart (l:=cV (.pair k.2.1 q.2.2.1) (.pair gH qs)) ?_ dj M4 kS o3 XG
    rw[Td]
    exact ah9)
  obtain⟨aie,Nd⟩:=hsw
  refine⟨v,_,rfl,l1.trans aie,?_,?_⟩
  ·refine Nd.congr (fun i B hf=> ?_) (by simp only;exact fun _ h=>h)
   have hf:find (vm (k.1++q.2.1) (cA fr (it.ids.foldl rem S.bl))) i=some B:=by
    have e:gN {val:=some (Mn c.outs q.1),ck:=fr++(k.1++q.2.1),del:=it.ids,new:=JS (1000*(d+1)) (q.2.2.2 - 1000*(d+1)),conds:=[c.pre x]} S.bl=vm (k.1++q.2.1) (cA fr (it.ids.foldl rem S.bl)):=by
     simp[gN,vm,cA,List.foldl_append]
    rw[←e]
    exact hf
   have Ur:∀{i:Nat},find (cA fr (it.ids.foldl rem S.bl)) i=find (it.ids.foldl rem (cA fr S.bl)) i:=fun {i}=>by
    by_cases hi:i∈it.ids
    ·have e2:find (it.ids.foldl rem (cA fr S.bl)) i=none:=by
      cases h:find (it.ids.foldl rem (cA fr S.bl)) i with
      |none=>rfl
      |some B=>exact absurd hi (tj h).2
     have e3:find (it.ids.foldl rem S.bl) i=none:=by
      cases h:find (it.ids.foldl rem S.bl) i with
      |none=>rfl
      |some B=>exact absurd hi (tj h).2
     rw[e2,ig (nD i hi),e3]
    ·rw[qV hi]
     have gen:∀{fr:hY} {b1 b2:List (Nat×c5)},find b1 i=find b2 i→find (cA fr b1) i=find (cA fr b2) i:=by
      intro fr
      induction fr with
      |nil=>intro b1 b2 h;exact h
      |cons p fr ih=>
       intro b1 b2 h
       refine ih ?_
       by_cases e:p.1=i
       ·subst e;rw[bO,bO]
       ·rw[bk _ _ _ _ e,bk _ _ _ _ e];exact h
     exact gen (qV hi)
   have ai0:∀{l b1 b2:List (Nat×c5)},(∀{i:Nat},find b1 i=find b2 i)→∀{i:Nat},find (vm l b1) i=find (vm l b2) i:=by
    intro l
    induction l with
    |nil=>intro b1 b2 h i;exact h
    |cons p l ih=>
     intro b1 b2 h i
     refine ih fun {j}=> ?_
     by_cases e:p.1=j
     ·subst e;rw[bO,bO]
     ·rw[bk _ _ _ _ e,bk _ _ _ _ e];exact h
   rw[←ai0 Ur]
   exact hf
  ·have:=(gD (E:=E1.rebind F' (cV (.pair k.2.1 q.2.2.1) (.pair gH qs))) (n:=k.2.2) rfl hc.UL XJ (by rw[XH];exact Pz.2)).1
   rw[XH] at this
   exact QX hov hos this
end Go.Vc
end
