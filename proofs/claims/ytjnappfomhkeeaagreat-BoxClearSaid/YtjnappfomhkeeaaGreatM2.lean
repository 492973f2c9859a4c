/-
  A range over a map is sound: its beginning, its steps (whichever entry comes next), and what has come last; Literal slices, calls by contract, and all single op.
-/
import Derived.Test.YtjnappfomhkeeaaGreatM1
import Derived.Laws.BytesArg
import Derived.Deep.LoopGhost
import Derived.Scope

section
set_option linter.unusedVariables false
set_option linter.unusedSimpArgs false
namespace Go.Vc
open Go
variable {P:Program} {X:Ctx} {w0:World} {foot:gM} {base:Mem} {S:St} {E:Env} {a:Act} {w:World} {ctx:c9}
theorem hY.ajp {F:Mem} {b c:Ty} {m:List (b.den×c.den)} {es:Array MapEntry} {cl:Nat} (h:hY F b c m es cl):jl F b c m es.toList:=by
 have key:∀(m:List (b.den×c.den)) (l:List MapEntry),l.length=m.length->(∀(i:Nat) x,m[i]? =some x->∃e,l[i]? =some e/\ye F b c x e)->jl F b c m l:=by
  intro m
  induction m with
  |nil=>intro l hl _;rw[List.eq_nil_of_length_eq_zero hl];exact .nil
  |cons x m ih=>
   intro l hl mZ
   cases l with
   |nil=>cases hl
   |cons e l=>
    obtain⟨e',he,hk⟩:=mZ 0 x rfl
    cases he
    exact .cons hk (ih l (by simpa using hl) fun i y hy=>mZ (i+1) y (by simpa using hy))
 refine key m es.toList (by simpa using h.size) fun i x hx=> ?_
 obtain⟨e,us,ws,q1,q2,q3,q4,q5⟩:=h.at_ i x hx
 exact⟨e,by simpa using q1,⟨us,q2,q3⟩,ws,q4,q5⟩
theorem jl.perm {F:Mem} {b c:Ty} {m0 m:List (b.den×c.den)} (hp:m0.Perm m):∀{l:List MapEntry},jl F b c m0 l->∃l',l'.Perm l/\jl F b c m l':=by
 induction hp with
 |nil=>intro l h;exact⟨l,.refl _,h⟩
 |cons x _ ih=>
  intro l h
  cases h with
  |cons hh ht=>
   obtain⟨l',h1,h2⟩:=ih ht
   exact⟨_::l',h1.cons _,.cons hh h2⟩
 |swap x y _=>
  intro l h
  cases h with
  |cons h1 ht=>
   cases ht with
   |cons h2 ht=>exact⟨_::_::_,.swap _ _ _,.cons h2 (.cons h1 ht)⟩
 |trans _ _ ih1 ih2=>
  intro l h
  obtain⟨l1,h1,h2⟩:=ih1 h
  obtain⟨l2,h3,h4⟩:=ih2 h2
  exact⟨l2,h3.trans h1,h4⟩
theorem MW (es:Array MapEntry):leftOf es #[]=es:=by
 unfold leftOf
 exact Array.filter_eq_self.2 (fun x _=>by simp)
theorem Gd {bl:List (Nat×c7)} {used:List Nat} (h:HRel w0 foot base bl used E w) {t k e d:Nat} {b c:Ty} {m:List (b.den×c.den)} {v:Value} (hu:P.underlying t=some (.map k e)) (hd:d∉used)
  (hv:(v= .map none/\m=[])\/∃n es cl m0,v= .map (some n)/\E.F n=some (.map es cl)/\m0.Perm m/\hY E.F b c m0 es cl):
  ∃E' w',(Instr.range t v).run P w= .ok (.pointer (some ⟨w.heap.size,0,none⟩)) w'/\E.le E'/\HRel w0 foot base (put bl d (.iter b c m none)) (d::used) E' w'/\gV E' (.ptr d 0) (.pointer (some ⟨w.heap.size,0,none⟩)):=by
 have jY:E.place d=none:=by
  cases he:E.place d with
  |none=>rfl
  |some q=>exact absurd (h.used d q he) hd
 have hle:=Env.nH (p:=⟨false,w.heap.size,0,0⟩) jY
 rcases hv with ⟨rfl,rfl⟩|⟨n,es,cl,m0,rfl,hF,Gt,hM⟩
 ·exact⟨_,_,run_range_nilMap w t k e hu,hle,h.alloc hd (fun _=>rfl) ⟨rfl,_,_,_,_,qu,.inl ⟨rfl,rfl,rfl⟩⟩,⟨_,Env.fb,rfl,rfl⟩⟩
 ·obtain⟨Gr,g1,g2⟩:=jl.perm Gt hM.ajp
  refine⟨_,_,run_range_map w t k e n es cl hu (h.m7 _ _ hF),hle,h.alloc hd (fun _=>rfl) ⟨rfl,_,_,_,_,qu,.inr ⟨n,es,cl,Gr,rfl,hle.F _ _ hF,hM.stamps,rfl,rfl,?_,g2.mono hle.F,fun x hx=>by cases hx⟩⟩,⟨_,Env.fb,rfl,rfl⟩⟩
  rw[MW]
  exact g1
theorem UK (hT:dx P X.aA) (h:SRel w0 foot base S E a w) (hc:br a ctx) {o:Oper} {t d:Nat} {x:Operand} (ho:o.op= .range t x) {r:b9}
  (hr:(do
   let _ <-qR X t
   Mx d (<-lM x):RM b9).run S ctx=some r) (hn:∀i∈r.new,i∉S.used):bZ P w0 foot base S E a w o r:=by
 obtain⟨ke,h1,hr⟩:=RM.run_bind' hr
 obtain⟨c,h2,hr⟩:=RM.run_bind' hr
 have hu:=qQ hT h1
 have hv:=gu h hc h2
 have fin:∀{v w'},(Instr.range t (a.eval x)).run P w= .ok v w'->(execOp a.eval o).run P w= .ok (.value v) w':=fun {v w'} dE=>by
  simp only[execOp,ho]
  rw[Sem.run_bind,dE]
  rfl
 unfold Mx at hr
 split at hr
 ·rename_i b c m
  cases hr
  obtain⟨_,oo,h3,h4,h5⟩:=hv
  simp only[List.cons.injEq,and_true] at h3
  obtain⟨E',w',k1,k2,k3,k4⟩:=Gd (b:=b) (c:=c) (m:=m) (v:=a.eval x) h.toHRel hu (hn d (by simp)) (by
   cases oo with
   |none=>exact .inl ⟨h3,h4 rfl⟩
   |some n=>
    obtain⟨m0,es,cl,q0,q1,q2,q3,q4,q5⟩:=h5 n rfl
    exact .inr ⟨n,es,cl,m0,h3,q1,q0,q2,q3,q4,q5⟩)
  exact bZ.value (fin k1) ⟨k2,k3,k4⟩
 ·simp only[RM.run] at hr
  split at hr
  ·rename_i B hf
   split at hr
   ·rename_i n' eh je b c m cur
    cases hr
    obtain⟨E1,l1,q1,f1,hH⟩:=h.toHRel.Iw hf
    obtain⟨p,hp,qv,hv⟩:=hv
    obtain⟨p',dn,hB⟩:=hH.cn _ _ (bP _ _ _)
    rw[q1,hp] at dn
    cases dn
    obtain⟨_,es,cl,k1,k2,m0,k0,k3,_⟩:=hB
    obtain⟨E',w',k1,k2,k3,k4⟩:=Gd (b:=b) (c:=c) (m:=m) (v:=a.eval x) hH hu (hn d (by simp)) (.inr ⟨_,es,cl,m0,hv,k2 rfl,k0,k3⟩)
    exact bZ.value (fin k1) ⟨l1.trans k2,k3,k4⟩
   ·cases hr
  ·cases hr
 ·cases hr
theorem A5 {es:Array MapEntry} {cl:Nat} (h:AN es cl):(es.toList.map (·.born)).Nodup:=by
 unfold List.Nodup
 rw[List.pairwise_map]
 exact h.1.imp fun dQ=>Nat.ne_of_lt dQ
theorem VH (h:SRel w0 foot base S E a w) (hc:br a ctx) {o:Oper} {it:Operand} (ho:o.op= .entry it) {r:b9} (hr:(do NJ (<-lM it):RM b9).run S ctx=some r):bZ P w0 foot base S E a w o r:=by
 obtain⟨c,h2,hr⟩:=RM.run_bind' hr
 have hv:=gu h hc h2
 unfold NJ at hr
 split at hr
 ·rename_i d off
  simp only[RM.run] at hr
  split at hr
  ·rename_i B hf
   split at hr
   ·rename_i b c todo cur
    split at hr
    ·rename_i x XW
     have XW:=Nat.eq_of_beq_eq_true XW
     subst XW
     rw[lW hr]
     obtain⟨p,hp,hn,hv⟩:=hv
     obtain⟨p',dn,_,mo,si,se,la,k1,k2⟩:=h.cn _ _ hf
     rw[hp] at dn;cases dn
     rcases k2 with ⟨_,_,Yc⟩|⟨mb,es,cl,Gr,e1,e2,e3,e4,e5,e6,e7,e8⟩
     ·cases Yc
     ·obtain⟨e,g1,g2,g3⟩:=e8 x rfl
      subst e1 e4 e5
      have hb:=h.m7 _ _ e2
      have hf:es.find? (·.born==e.born)=some e:=by rw[<-Array.find?_toList];exact find_born e es.toList (A5 e3) g1
      refine bZ.value (v:= .tuple #[e.key,e.val]) (w':=w) ?_ (iF.pure h.toHRel ⟨_,rfl,e.key,[e.val],rfl,jK.part g3.1,e.val,[],rfl,jK.part g3.2,rfl⟩)
      simp only[execOp,ho,hv]
      rw[Sem.run_bind]
      have:(Instr.entry (.pointer (some ⟨p.bp,0,none⟩))).run P w= .ok (.tuple #[e.key,e.val]) w:=by
       simp only[Instr.entry,getObj,Sem.run_bind,Sem.run,k1,hb,Result.andThen,g2,bne_self_eq_false,Bool.false_eq_true,if_false,hf]
       rfl
      rw[this]
      rfl
    ·cases hr
   ·cases hr
  ·cases hr
 ·cases hr
structure T9 where
 d:Nat
 a:Ty
 b:Ty
 todo:List (a.den×b.den)
def M3 (S:St) (o:Oper):Option T9:=
 match o.op with
 | .next it false=>(match(lM it).run S [] with
  |some (.ptr d 0)=>(match find S.bl d with
   |some (.iter a b todo _)=>some ⟨d,a,b,todo⟩
   |_=>none)
  |_=>none)
 |_=>none
def Eb:b9:={val:=some (.yv [(false,[.aG .bool false])])}
def S6 (d:Nat) (a b:Ty) (x:a.den×b.den) (rest:List (a.den×b.den)):b9:=
 {val:=some (.yv [(false,[.aG .bool true]),(a.isAgg,flat a x.1),(b.isAgg,flat b x.2)]),cn:=[(d,.iter a b rest (some x))]}
theorem jl.split {F:Mem} {b c:Ty}:∀{pre post:List MapEntry} {e:MapEntry} {m:List (b.den×c.den)},jl F b c m (pre++e::post)->
  ∃m1 x m2,m=m1++x::m2/\jl F b c m1 pre/\ye F b c x e/\jl F b c m2 post
 |[],post,e,m,h=>by
  cases h with
  |cons hh ht=>exact⟨[],_,_,rfl,.nil,hh,ht⟩
 |y::pre,post,e,m,h=>by
  cases h with
  |cons hh ht=>
   obtain⟨m1,x,m2,rfl,k1,k2,k3⟩:=jl.split ht
   exact⟨_::m1,x,m2,rfl,.cons hh k1,k2,k3⟩
theorem jl.append {F:Mem} {b c:Ty} {m1 m2:List (b.den×c.den)} {l1 l2:List MapEntry} (h:jl F b c m1 l1) (k:jl F b c m2 l2):jl F b c (m1++m2) (l1++l2):=by
 induction h with
 |nil=>exact k
 |cons h _ ih=>exact .cons h ih
theorem RK {es:Array MapEntry} {seen:Array Nat} {cl:Nat} (hs:AN es cl) {pre post:List MapEntry} {e:MapEntry} (h:(pre++e::post).Perm (leftOf es seen).toList):(pre++post).Perm (leftOf es (seen.push e.born)).toList:=by
 have e1:(leftOf es (seen.push e.born)).toList=(leftOf es seen).toList.filter fun y=>y.born !=e.born:=by
  unfold leftOf
  rw[Array.toList_filter,Array.toList_filter,List.filter_filter]
  refine List.filter_congr fun y _=> ?_
  simp only[Array.contains_push]
  cases seen.contains y.born<;>simp[bne,Bool.beq_comm]
  try (cases hq:(y.born==e.born)<;>cases nr:(e.born==y.born)<;>simp_all)
 have hnd:((leftOf es seen).toList.map (·.born)).Nodup:=by
  unfold leftOf
  rw[Array.toList_filter]
  exact((List.filter_sublist).map _).nodup (A5 hs)
 have XX:((pre++e::post).map (·.born)).Nodup:=(h.map _).nodup_iff.2 hnd
 have kz:∀y,y∈pre\/y∈post->(y.born !=e.born)=true:=fun y hy=>by
  simp only[List.map_append,List.map_cons,List.nodup_append,List.nodup_cons] at XX
  simp only[bne_iff_ne]
  intro heq
  rcases hy with hy|hy
  ·exact XX.2.2 y.born (List.mem_map_of_mem hy) e.born (by simp) heq
  ·exact XX.2.1.1 (heq▸List.mem_map_of_mem hy)
 have e2:(pre++e::post).filter (fun y=>y.born !=e.born)=pre++post:=by
  rw[List.filter_append,List.filter_cons]
  simp only[bne_self_eq_false,Bool.false_eq_true,if_false]
  rw[List.filter_eq_self.2 fun y hy=>kz y (.inl hy),List.filter_eq_self.2 fun y hy=>kz y (.inr hy)]
 rw[e1,<-e2]
 exact h.filter _
theorem JI (h:SRel w0 foot base S E a w) {o:Oper} {i:T9} (hi:M3 S o=some i):
  (i.todo=[]/\bZ P w0 foot base S E a w o Eb)\/∃x rest,i.todo.Perm (x::rest)/\bZ P w0 foot base S E a w o (S6 i.d i.a i.b x rest):=by
 unfold M3 at hi
 split at hi
 ·rename_i it ho
  split at hi
  ·rename_i d hd
   split at hi
   ·rename_i b c todo cur hf
    cases hi
    simp only
    have hv:=gu h (fun t ht=>by cases ht) hd
    obtain⟨p,hp,hn,hv⟩:=hv
    obtain⟨p',dn,_,mo,si,se,la,k1,k2⟩:=h.cn _ _ hf
    rw[hp] at dn;cases dn
    have abl:(Instr.next (.pointer (some ⟨p.bp,0,none⟩)) false o.type).run P w= .ok (.tuple #[.bool false]) w->bZ P w0 foot base S E a w o Eb:=fun dE=>by
     refine bZ.value (v:= .tuple #[.bool false]) (w':=w) ?_ ⟨.refl _,h.toHRel,_,rfl,.bool false,[],rfl,⟨_,rfl,rfl,rfl⟩,rfl⟩
     simp only[execOp,ho,hv]
     rw[Sem.run_bind,dE]
     rfl
    rcases k2 with ⟨rfl,rfl,_⟩|⟨mb,es,cl,Gr,rfl,e2,e3,e4,e5,e6,e7,e8⟩
    ·refine .inl ⟨rfl,abl ?_⟩
     simp only[Instr.next,getObj,Sem.run_bind,Sem.run,k1,Result.andThen]
     rfl
    ·rw[e4,e5] at k1
     have hb:=h.m7 _ _ e2
     have hold:∀x∈es.toList,x.born<cl:=e3.2
     have XL:=next_test_false se es cl cl hold (Nat.le_refl _)
     have FU:∀x∈(leftOf es se).toList,x.born<cl:=fun x hx=>hold x (by unfold leftOf at hx;simp at hx ⊢;exact hx.1)
     have hL:es.filter (fun e=> !se.contains e.born)=leftOf es se:=rfl
     have f1:(leftOf es se).filter (fun x=>decide (x.born<cl))=leftOf es se:=Array.filter_eq_self.2 (fun x hx=>by simpa using FU x (by simpa using hx))
     have f2:(leftOf es se).filter (fun x=>decide (x.born>=cl))= #[]:=by
      rw[Array.filter_eq_empty_iff]
      intro x hx
      have:=FU x (by simpa using hx)
      simp
      omega
     by_cases h0:(leftOf es se).size=0
     ·have yn:leftOf es se= #[]:=Array.eq_empty_of_size_eq_zero h0
      rw[yn] at e6
      have:Gr=[]:=e6.eq_nil
      subst this
      cases e7
      refine .inl ⟨rfl,abl ?_⟩
      simp only[Instr.next,getObj,Sem.run_bind,Sem.run,k1,hb,Result.andThen,XL,Bool.false_eq_true,if_false,hL,f1,f2,yn]
      simp[choose,Sem.run,Question.forced]
     ·have kz:(leftOf es se).isEmpty=false:=by simp[Array.isEmpty,h0]
      have hch:∃(j n:Nat),j<(leftOf es se).size/\(choose (Question.mapNext (leftOf es se).size)).run P w= .ok j {w with drawn:=n}:=by
       by_cases hf:(leftOf es se).size<=1
       ·exact⟨0,w.drawn,by omega,by simp[choose,Sem.run,Question.forced,hf]⟩
       ·exact⟨_,w.drawn+1,Nat.mod_lt _ (by omega),by
         simp only[choose,Sem.run,Question.forced,decide_eq_true_eq,hf,if_false,Question.cut]
         rfl⟩
      obtain⟨j,n,hj,dE⟩:=hch
      have XZ:(leftOf es se)[j]∈Gr:=e6.mem_iff.2 (by simp)
      obtain⟨pre,post,abJ⟩:=List.append_of_mem XZ
      generalize hej:(leftOf es se)[j]=e at XZ abJ
      subst abJ
      obtain⟨m1,x,m2,rfl,g1,g2,g3⟩:=e7.split
      have aiT:e∈es.toList:=by
       have:e∈(leftOf es se).toList:=by rw[<-hej];simp
       unfold leftOf at this
       simp at this ⊢
       exact this.1
      refine .inr ⟨x,m1++m2,List.perm_middle,?_⟩
      have hw:=(h.toHRel.drew n).write (B':= .iter b c (m1++m2) (some x)) (o:= .mapIter (some mb) cl (se.push e.born) cl) hf hp hn rfl
       ⟨hn,_,_,_,_,iK (dR k1),.inr ⟨mb,es,cl,pre++post,rfl,e2,e3,rfl,rfl,RK e3 e6,g1.append g3,fun y hy=>by cases hy;exact⟨e,aiT,by simp,g2⟩⟩⟩
      refine bZ.value (v:= .tuple #[.bool true,e.key,e.val]) (w':=eu {w with drawn:=n} p.bp (.mapIter (some mb) cl (se.push e.born) cl)) ?_ ⟨.refl _,hw,_,rfl,?_⟩
      ·have wU:(((leftOf es se).map some)[j]? :Option (Option MapEntry))=some (some e):=by
        rw[Array.getElem?_map,Array.getElem?_eq_getElem hj,hej];rfl
       have zw:(setObj p.bp (.mapIter (some mb) cl (se.push e.born) cl)).run P {w with drawn:=n}= .ok () (eu {w with drawn:=n} p.bp (.mapIter (some mb) cl (se.push e.born) cl)):=by
        have:({w with drawn:=n}:World).heap[p.bp]? =some (.mapIter (some mb) cl se cl):=k1
        simp[setObj,Sem.run,this,eu]
       have BV:(Instr.next (.pointer (some ⟨p.bp,0,none⟩)) false o.type).run P w= .ok (.tuple #[.bool true,e.key,e.val]) (eu {w with drawn:=n} p.bp (.mapIter (some mb) cl (se.push e.born) cl)):=by
        simp only[Instr.next,getObj,Sem.run_bind,Sem.run,k1,hb,Result.andThen,XL,Bool.false_eq_true,if_false,hL,f1,f2,Array.append_empty,kz,Array.empty_append,Array.size_map,dE,wU,zw]
        rfl
       simp only[execOp,ho,hv]
       rw[Sem.run_bind,BV]
       rfl
      ·exact⟨.bool true,[e.key,e.val],rfl,⟨_,rfl,rfl,rfl⟩,e.key,[e.val],rfl,jK.part g2.1,e.val,[],rfl,jK.part g2.2,rfl⟩
   ·cases hi
  ·cases hi
 ·cases hi
end Go.Vc
end

section
set_option linter.unusedVariables false
set_option linter.unusedSimpArgs false
namespace Go.Vc
open Go
variable {P:Program} {X:Ctx} {w0:World} {foot:gM} {base:Mem} {S:St} {E:Env} {a:Act} {w:World} {ctx:c9}
theorem ef.set {F:Mem} {t:Ty} {xs:List t.den} {us:List Value} (h:ef F t xs us) {i:Nat} (hi:i<xs.length) {y:t.den} {ws:List Value} (hy:dj F t y ws):
  ef F t (xs.set i y) (us.take (i*t.size)++ws++us.drop (i*t.size+t.size)):=by
 have hw:=hy.length
 have hm:(i+1)*t.size<=xs.length*t.size:=Nat.mul_le_mul_right _ (by omega)
 rw[Nat.succ_mul] at hm
 have hl:=h.1
 refine⟨by simp only[List.length_append,List.length_take,List.length_drop,List.length_set];omega,fun k x hx=> ?_⟩
 by_cases hk:i=k
 ·subst hk
  rw[List.getElem?_set_self hi] at hx
  cases hx
  refine⟨ws,hy,hw,fun j u hu=> ?_⟩
  have hj:=(List.getElem?_eq_some_iff.1 hu).1
  rw[List.getElem?_append_left (by simp;omega),List.getElem?_append_right (by simp;omega),<-hu]
  congr 1
  simp only[List.length_take]
  omega
 ·rw[List.getElem?_set_ne hk] at hx
  obtain⟨vs,k1,k2,k3⟩:=h.2 k x hx
  refine⟨vs,k1,k2,fun j u hu=> ?_⟩
  have hj:=(List.getElem?_eq_some_iff.1 hu).1
  have:=k3 j u hu
  rcases Nat.lt_or_gt_of_ne hk with dQ|dQ
  ·have Vi:(i+1)*t.size<=k*t.size:=Nat.mul_le_mul_right _ (by omega)
   rw[Nat.succ_mul] at Vi
   rw[List.getElem?_append_right (by simp;omega),List.getElem?_drop,<-this]
   congr 1
   simp only[List.length_append,List.length_take]
   omega
  ·have Vi:(k+1)*t.size<=i*t.size:=Nat.mul_le_mul_right _ (by omega)
   rw[Nat.succ_mul] at Vi
   rw[List.append_assoc,List.getElem?_append_left (by simp;omega),List.getElem?_take_of_lt (by omega)]
   exact this
theorem z6 {t:Ty}:∀{ps:List (Nat×Operand)} {xs:List t.den} {r:List t.den×ij},(re t ps xs).run S ctx=some r->kV S.bl r.2
 |[],xs,r,hr=>by cases hr;exact .nil
 |(i,x)::ps,xs,r,hr=>by
  unfold re at hr
  have bw:=RM.run_bind' hr
  clear hr
  obtain⟨s,h1,hr⟩:=bw
  have bw:=RM.run_bind' hr
  clear hr
  obtain⟨v,h2,hr⟩:=bw
  have bw:=RM.run_bind' hr
  clear hr
  obtain⟨y,h3,hr⟩:=bw
  have bw:=RM.run_bind' hr
  clear hr
  obtain⟨u,h4,hr⟩:=bw
  have bw:=RM.run_bind' hr
  clear hr
  obtain⟨q,h5,hr⟩:=bw
  have bw:=RM.run_bind' hr
  clear hr
  obtain⟨_,h6,hr⟩:=bw
  cases RM.run_pure' hr
  exact(gD (x:=y.1) (fr:=y.2) h3).append (z6 h5) (bR h6)
theorem vb {t:Ty} (h:SRel w0 foot base S E a w) (hc:br a ctx) {E':Env} (hle:E.le E'):∀{ps:List (Nat×Operand)} {xs:List t.den} {r:List t.den×ij} {cells:Array Value},
  (re t ps xs).run S ctx=some r->ft S.bl E' w r.2->ef E'.F t xs cells.toList->
  ∃fC,Instr.fill (fun i=>some (i*t.size,t.size)) cells (ps.map fun(i,x)=>(i,a.eval x))=some fC/\ef E'.F t r.1 fC.toList/\r.1.length=xs.length
 |[],xs,r,cells,hr,_,hv=>by cases hr;exact⟨cells,rfl,hv,rfl⟩
 |(i,x)::ps,xs,r,cells,hr,hf,hv=>by
  unfold re at hr
  have bw:=RM.run_bind' hr
  clear hr
  obtain⟨s,h1,hr⟩:=bw
  have bw:=RM.run_bind' hr
  clear hr
  obtain⟨cs,h2,hr⟩:=bw
  have bw:=RM.run_bind' hr
  clear hr
  obtain⟨y,h3,hr⟩:=bw
  have bw:=RM.run_bind' hr
  clear hr
  obtain⟨u,h4,hr⟩:=bw
  have bw:=RM.run_bind' hr
  clear hr
  obtain⟨q,h5,hr⟩:=bw
  have bw:=RM.run_bind' hr
  clear hr
  obtain⟨_,_,hr⟩:=bw
  cases RM.run_pure' hr
  have hi:i<xs.length:=Nat.le_of_ble_eq_true (bR h4)
  have mF:=(pe h hc h1 h2).mono hle
  have hy:=jA (x:=y.1) (fr:=y.2) h3 mF hf.left
  have Vd:=hy.length
  have hm:(i+1)*t.size<=xs.length*t.size:=Nat.mul_le_mul_right _ (by omega)
  rw[Nat.succ_mul] at hm
  have mr:=hv.1
  simp only[Array.length_toList] at mr Vd
  have Ih:=zK cells (i*t.size) (a.eval x).cells.toList 0 cells (by simp only[Array.length_toList];omega)
  simp only[Nat.add_zero] at Ih
  have e:((a.eval x).cells.zipIdx.foldl (fun cs (c,j)=>cs.setIfInBounds (i*t.size+j) c) cells).toList=cells.toList.take (i*t.size)++(a.eval x).cells.toList++cells.toList.drop (i*t.size+t.size):=by
   rw[<-Array.foldl_toList,Array.toList_zipIdx]
   rw[show t.size=(a.eval x).cells.toList.length by simp[Vd]] at *
   exact Ih
  obtain⟨fC,k1,k2,k3⟩:=vb h hc hle (cells:=(a.eval x).cells.zipIdx.foldl (fun cs (c,j)=>cs.setIfInBounds (i*t.size+j) c) cells) h5 hf.right (by rw[e];exact hv.set hi hy)
  refine⟨fC,?_,k2,by rw[k3];simp⟩
  simp only[List.map_cons,Instr.fill]
  rw[if_neg (by simp;omega)]
  exact k1
theorem Jb (hT:dx P X.aA) (h:SRel w0 foot base S E a w) (hc:br a ctx) {o:Oper} {t n d:Nat} {ps:Array (Nat×Operand)} (ho:o.op= .buildSlice t n ps) {r:b9}
  (hr:(do
   let i <-ti X t
   match i.d with
   | .slice e=>(do
    let j <-ti X e
    let ty <-RM.ofOption j.ty
    cS (Nat.ble (n*j.size) 16777216)
    let z <-uk j ty
    let r <-re ty ps.toList (List.replicate n z)
    .ret {val:=some (.one (.row ty d)),cn:=r.2++[(d,.row false e ty r.1)],new:=[d]})
   |_=> .fail:RM b9).run S ctx=some r) (hn:∀i∈r.new,i∉S.used):bZ P w0 foot base S E a w o r:=by
 have bw:=RM.run_bind' hr
 clear hr
 obtain⟨i,h1,hr⟩:=bw
 obtain⟨hs,_⟩:=dh hT h1
 split at hr
 ·rename_i e hd
  rw[hd] at hs
  have bw:=RM.run_bind' hr
  clear hr
  obtain⟨j,h2,hr⟩:=bw
  have bw:=RM.run_bind' hr
  clear hr
  obtain⟨ty,h3,hr⟩:=bw
  have bw:=RM.run_bind' hr
  clear hr
  obtain⟨u,h4,hr⟩:=bw
  have bw:=RM.run_bind' hr
  clear hr
  obtain⟨z,h5,hr⟩:=bw
  have bw:=RM.run_bind' hr
  clear hr
  obtain⟨q,h6,hr⟩:=bw
  cases hr
  obtain⟨j',g1,g2,g3,g4,g5,g6,g7,g8⟩:=qx hT h2 h5
  have aaw:=Nat.le_of_ble_eq_true (bR h4)
  have Ii:=z6 h6
  obtain⟨E1,l1,q1,f1,hh⟩:=h.toHRel.cE Ii
  have hfz:=ft.qi Ii hh
  have Ie:=ef.made (n:=n) (m:=n) (g8 E1.F) (by omega) (Nat.le_refl _)
  rw[List.take_of_length_le (by simp[size_madeCells])] at Ie
  obtain⟨fC,k1,k2,k3⟩:=vb h hc l1 h6 hfz Ie
  have hlen:q.1.length=n:=by rw[k3];simp
  have iT:fC.size=n*ty.size:=by rw[<-Array.length_toList,k2.1,hlen]
  have XY:n<=aM:=by
   have:n*1<=n*j.size:=Nat.mul_le_mul_left _ (by omega)
   unfold aM
   omega
  obtain⟨m1,m2,m3⟩:=CQ (S:={S with bl:=cE q.2 S.bl}) (e:=e) (cap:=n) (rest:=[]) hh (hn d (by simp)) k2 XY (by omega) (by simp) iT
  rw[hlen] at m1 m2 m3
  refine bZ.value (v:=_) (w':=_) ?_ ⟨l1.trans m2,by rw[tE];exact m1,m3⟩
  have BT:Instr.fill (fun i=>some (i*j'.size,j'.size)) (madeCells j.zero.cells (n*j'.size)) (ps.map fun x=>(x.1,a.eval x.2)).toList=some fC:=by
   rw[Array.toList_map,g2,<-g5]
   exact k1
  have X7:¬n*j'.size>2 ^ 24:=by rw[g2];omega
  by_cases hz:n*j'.size=0
  ·rw[hz] at BT
   have hm0:madeCells j.zero.cells 0= #[]:=by simp[madeCells]
   rw[hm0] at BT
   simp only[execOp,ho,Instr.buildSlice,Sem.run_bind,run_underlying (dO hs),Result.andThen_ok,dZ g1]
   rw[if_neg X7,if_pos hz,hz]
   simp only[Sem.run_bind,Sem.run_pure,Result.andThen_ok]
   have bw:Array.map (fun x=>(#[]:Array Value)[x % (#[]:Array Value).size]!) (Array.range 0)= #[]:=by simp
   rw[bw,BT]
   rfl
  ·simp only[execOp,ho,Instr.buildSlice,Sem.run_bind,run_underlying (dO hs),Result.andThen_ok,dZ g1]
   rw[if_neg X7,if_neg hz]
   simp only[Sem.run_bind,Sem.run_pure,Result.andThen_ok,kj g1 g4]
   unfold madeCells at BT
   rw[BT]
   rfl
 ·cases hr
theorem HRel.MZ {bl:List (Nat×c7)} {used:List Nat} (h:HRel w0 foot base bl used E w) {w':World} (hk:sQ (fun _=>False) w w') {F:Mem} (hF:E.F.le F) (FW:∀b o,F b=some o->w'.heap[b]? =some o)
  (wS:∀b o,F b=some o->E.F b=some o\/w.heap.size<=b):HRel w0 foot base bl used {E with F:=F} w':=by
 have hle:E.le {E with F:=F}:=⟨hF,fun _ _ h=>h⟩
 have aeM:∀id B p,find bl id=some B->E.place id=some p->gg E w p B:=fun id B p hf hp=>by
  obtain⟨q,hq,k⟩:=h.cn id B hf
  rw[hp] at hq
  cases hq
  exact k
 refine⟨h.keep.trans ⟨hk.os,hk.tape,hk.output,hk.size,fun k vk _=>hk.block k vk (fun h=>h)⟩,FW,fun b o hb=> ?_,fun id B hf=> ?_,fun id B p hf hp hn=> ?_,h.inj,h.used⟩
 ·rcases wS b o hb with h1|h1
  ·exact h.src b o h1
  ·exact .inr (.inl (Nat.le_trans h.keep.size h1))
 ·obtain⟨p,hp,k⟩:=h.cn id B hf
  exact⟨p,hp,(k.mono hle).world fun hn=>hk.block _ (k.lt hn) (fun h=>h)⟩
 ·refine⟨(h.own id B p hf hp hn).1,fun hm=> ?_⟩
  show F p.bp=none
  cases eh:F p.bp with
  |none=>rfl
  |some o=>
   rcases wS _ _ eh with h1|h1
   ·rw[(h.own id B p hf hp hn).2 hm] at h1;cases h1
   ·have:=(aeM id B p hf hp).lt hn;omega
theorem Gy (hT:dx P X.aA) (h:SRel w0 foot base S E a w) (hc:br a ctx) {o:Oper} {t n:Nat} {ps:Array (Nat×Operand)} (ho:o.op= .buildSlice t n ps) {r:b9}
  (hr:(do
   let i <-ti X t
   match i.d with
   | .slice e=>(do
    let j <-ti X e
    let ty <-RM.ofOption j.ty
    cS (Nat.ble (n*j.size) 16777216)
    let z <-uk j ty
    let r <-re ty ps.toList (List.replicate n z)
    cS r.2.isEmpty
    kL (.one (.aG (.list ty) r.1)))
   |_=> .fail:RM b9).run S ctx=some r):bZ P w0 foot base S E a w o r:=by
 have bw:=RM.run_bind' hr
 clear hr
 obtain⟨i,h1,hr⟩:=bw
 obtain⟨hs,_⟩:=dh hT h1
 split at hr
 ·rename_i e hd
  rw[hd] at hs
  have bw:=RM.run_bind' hr
  clear hr
  obtain⟨j,h2,hr⟩:=bw
  have bw:=RM.run_bind' hr
  clear hr
  obtain⟨ty,h3,hr⟩:=bw
  have bw:=RM.run_bind' hr
  clear hr
  obtain⟨u,h4,hr⟩:=bw
  have bw:=RM.run_bind' hr
  clear hr
  obtain⟨z,h5,hr⟩:=bw
  have bw:=RM.run_bind' hr
  clear hr
  obtain⟨q,h6,hr⟩:=bw
  have bw:=RM.run_bind' hr
  clear hr
  obtain⟨_,h7,hr⟩:=bw
  rw[lW hr]
  obtain⟨j',g1,g2,g3,g4,g5,g6,g7,g8⟩:=qx hT h2 h5
  have aaw:=Nat.le_of_ble_eq_true (bR h4)
  have hq:q.2=[]:=List.isEmpty_iff.1 (bR h7)
  have hfz:ft S.bl E w q.2:=by rw[hq];exact fun _ hq=>by cases hq
  have Ie:=ef.made (n:=n) (m:=n) (g8 E.F) (by omega) (Nat.le_refl _)
  rw[List.take_of_length_le (by simp[size_madeCells])] at Ie
  obtain⟨fC,k1,k2,k3⟩:=vb h hc (.refl E) h6 hfz Ie
  have hlen:q.1.length=n:=by rw[k3];simp
  have iT:fC.size=n*ty.size:=by rw[<-Array.length_toList,k2.1,hlen]
  have XY:n<=aM:=by
   have:n*1<=n*j.size:=Nat.mul_le_mul_left _ (by omega)
   unfold aM
   omega
  have qn:E.F w.heap.size=none:=by
   cases he:E.F w.heap.size with
   |none=>rfl
   |some o'=>have:=dR (h.m7 _ _ he);omega
  have hle:E.F.le (fun b=>if b=w.heap.size then some (.cells fC e (0,0)) else E.F b):=fun b o' hb=>by
   show(if b=w.heap.size then _ else E.F b)=_
   rw[if_neg (fun e=>by rw[e,qn] at hb;cases hb)]
   exact hb
  have mZ:(fun b=>if b=w.heap.size then some (Obj.cells fC e (0,0)) else E.F b) w.heap.size=some (Obj.cells fC e (0,0)):=by simp
  have hR:=h.toHRel.MZ (w':=w.alloc (.cells fC e)) (F:=fun b=>if b=w.heap.size then some (.cells fC e (0,0)) else E.F b)
   ⟨rfl,rfl,rfl,by simp,fun k hk _=>rh hk⟩ hle (fun b o' hb=>by
    by_cases ju:b=w.heap.size
    ·have e1:some (Obj.cells fC e (0,0))=some o':=by
      have hb:(if b=w.heap.size then some (Obj.cells fC e (0,0)) else E.F b)=some o':=hb
      rw[if_pos ju] at hb
      exact hb
     cases e1
     rw[ju]
     exact qu
    ·have hb:(if b=w.heap.size then some (Obj.cells fC e (0,0)) else E.F b)=some o':=hb
     rw[if_neg ju] at hb
     have:=h.m7 _ _ hb
     rw[rh (dR this)]
     exact this) (fun b o' hb=>by
    by_cases ju:b=w.heap.size
    ·exact .inr (by omega)
    ·have hb:(if b=w.heap.size then some (Obj.cells fC e (0,0)) else E.F b)=some o':=hb
     rw[if_neg ju] at hb
     exact .inl hb)
  have k2':=k2.mono hle
  refine bZ.value (v:= .slice (some ⟨w.heap.size,0,none⟩) n n) (w':=w.alloc (.cells fC e)) (E':={E with F:=fun b=>if b=w.heap.size then some (.cells fC e (0,0)) else E.F b}) ?_ ⟨⟨hle,fun _ _ h=>h⟩,hR,?_⟩
  ·have BT:Instr.fill (fun i=>some (i*j'.size,j'.size)) (madeCells j.zero.cells (n*j'.size)) (ps.map fun x=>(x.1,a.eval x.2)).toList=some fC:=by
    rw[Array.toList_map,g2,<-g5]
    exact k1
   have X7:¬n*j'.size>2 ^ 24:=by rw[g2];omega
   by_cases hz:n*j'.size=0
   ·rw[hz] at BT
    have hm0:madeCells j.zero.cells 0= #[]:=by simp[madeCells]
    rw[hm0] at BT
    simp only[execOp,ho,Instr.buildSlice,Sem.run_bind,run_underlying (dO hs),Result.andThen_ok,dZ g1]
    rw[if_neg X7,if_pos hz,hz]
    simp only[Sem.run_bind,Sem.run_pure,Result.andThen_ok]
    have bw:Array.map (fun x=>(#[]:Array Value)[x % (#[]:Array Value).size]!) (Array.range 0)= #[]:=by simp
    rw[bw,BT]
    rfl
   ·simp only[execOp,ho,Instr.buildSlice,Sem.run_bind,run_underlying (dO hs),Result.andThen_ok,dZ g1]
    rw[if_neg X7,if_neg hz]
    simp only[Sem.run_bind,Sem.run_pure,Result.andThen_ok,kj g1 g4]
    unfold madeCells at BT
    rw[BT]
    rfl
  ·refine⟨rfl,some ⟨w.heap.size,0,none⟩,n,?_,?_,XY,fun h=>(by cases h),fun p hp i x hx=> ?_⟩
   ·show _=[Value.slice _ (q.1.length) n]
    rw[hlen]
   ·show q.1.length<=n
    omega
   ·cases hp
    obtain⟨ws,q1,q2,q3⟩:=k2'.2 i x hx
    refine⟨rfl,ws,q1,q2,fun j u hu=>⟨fC,e,(0,0),mZ,?_⟩⟩
    have:=q3 j u hu
    rw[Array.getElem?_toList] at this
    rw[Nat.zero_add]
    exact this
 ·cases hr
theorem RM.ES {α β:Type} {S:St} {ctx:c9}:∀{m:RM α} {f:α->RM β} {a:α} {b:β},m.run S ctx=some a->(f a).run S ctx=some b->(m.bind f).run S ctx=some b
 | .ret _,f,a,b,h,k=>by cases h;exact k
 | .fail,f,a,b,h,k=>by cases h
 | .slot ex n m,f,a,b,h,k=>by
  simp only[RM.bind,RM.run] at h ⊢
  split at h
  ·split at h
   ·exact RM.ES h k
   ·cases h
  ·cases h
 | .bp n m,f,a,b,h,k=>by
  simp only[RM.bind,RM.run] at h ⊢
  split at h
  ·exact RM.ES h k
  ·cases h
theorem ef.take {F:Mem} {t:Ty} {xs:List t.den} {us:List Value} (h:ef F t xs us) {n:Nat} (hn:n<=xs.length):ef F t (xs.take n) (us.take (n*t.size)):=by
 have hm:n*t.size<=xs.length*t.size:=Nat.mul_le_mul_right _ hn
 have hl:=h.1
 refine⟨by rw[List.length_take,List.length_take,hl,Nat.min_eq_left hm,Nat.min_eq_left hn],fun i x hx=> ?_⟩
 have hi:i<n:=by
  have:=(List.getElem?_eq_some_iff.1 hx).1
  rw[List.length_take] at this
  omega
 rw[List.getElem?_take_of_lt hi] at hx
 obtain⟨ws,h1,h2,h3⟩:=h.2 i x hx
 refine⟨ws,h1,h2,fun j u hu=> ?_⟩
 have hj:=(List.getElem?_eq_some_iff.1 hu).1
 have Vi:(i+1)*t.size<=n*t.size:=Nat.mul_le_mul_right _ hi
 rw[Nat.succ_mul] at Vi
 rw[List.getElem?_take_of_lt (by omega)]
 exact h3 j u hu
theorem HRel.acd {bl:List (Nat×c7)} {used:List Nat} (h:HRel w0 foot base bl used E w) {sb nb e len:Nat} {t:Ty} {xs:List t.den} {v:Value} (hf:find bl sb=some (.row false e t xs)) (hv:gV E (.sub t sb 0 len) v) (h0:0<xs.length) (hn:nb∉used):
  ∃p,HRel w0 foot base (put (rem bl sb) nb (.row false e t (xs.take len))) (nb::used) (E.new nb p) w/\E.le (E.new nb p)/\gV (E.new nb p) (.row t nb) v:=by
 have jY:E.place nb=none:=by
  cases he:E.place nb with
  |none=>rfl
  |some q=>exact absurd (h.used nb q he) hn
 obtain⟨p,hp,hlen,hk⟩:=hv
 obtain⟨p',dn,hB⟩:=h.cn _ _ hf
 rw[hp] at dn;cases dn
 have Pv:=hB.sG
 rcases hk with ⟨dB,hv,hz⟩|⟨dB,ad,hv,q1,q2,q3⟩
 ·omega
 ·rcases hB with ⟨zx,_⟩|⟨_,hB⟩
  ·rw[dB] at zx;cases zx
  ·obtain⟨_,_,cur,hw,_⟩:=id hB
   obtain⟨k1,k2,k3,k4,k5⟩:=hB.S3 hw
   have had:ad=⟨p.bp,0,none⟩:=by
    rcases q3 with q3|q3
    ·omega
    ·rw[q3,Nat.zero_mul]
   have own:=h.own sb _ p hf hp dB
   have kz:∀i B' q,find (rem bl sb) i=some B'->E.place i=some q->q.nil=false->q.bp≠p.bp:=fun i B' q eh hq Dc=>by
    obtain⟨wW,BY⟩:=EJ eh
    exact h.inj i sb B' _ q p wW hf hq hp Dc dB (Ne.symm BY)
   have zw:eu w p.bp (.cells cur e (0,0))=w:=by rw[<-xw hw,setRow_self w p.bp cur e (0,0) hw]
   have hm:len*t.size<=p.len*t.size:=Nat.mul_le_mul_right _ (by omega)
   have Nf:=k1.take (show len<=xs.length by omega)
   rw[List.take_take,Nat.min_eq_left hm] at Nf
   have Tx:=(h.drop sb).attach (p:=⟨false,p.bp,p.cap,len⟩) (B:= .row false e t (xs.take len)) (o:= .cells cur e (0,0)) hn rfl rfl (dR hw) own.1 (own.2 rfl) kz
    (Or.inr ⟨rfl,n6.mk' (p:=⟨false,p.bp,p.cap,len⟩) (Nf.mono (Env.nH jY).F) k5 (by rw[List.length_take];show min len xs.length=len;omega) (show len<=p.cap by omega) (iK (dR hw)) (List.take_append_drop _ _).symm k2⟩)
   rw[zw] at Tx
   exact⟨_,Tx,Env.nH jY,⟨_,Env.fb,.inr ⟨rfl,by rw[hv,had,Nat.sub_zero],show len<=p.cap by omega,k5⟩⟩⟩
theorem JN {cs:List C} {tt:Ty} {sb len:Nat} (h:Df cs=some (tt,sb,len)):cs=[.sub tt sb 0 len]:=by
 unfold Df at h
 split at h
 ·split at h
  ·cases h;rfl
  ·cases h
 ·cases h
theorem QR (hT:dx P X.aA) (h:SRel w0 foot base S E a w) (hc:br a ctx) {o:Oper} {t:Nat} {x v:Operand} (ho:o.op= .store t x v) {r:b9}
  {i:TI} (h1:(ti X t).run S ctx=some i) {s:SV} (h2:(ev v).run S ctx=some s) {cs:List C} (h3:(oT s).run S ctx=some cs) {tt:Ty} {sb len:Nat} (mF:Df cs=some (tt,sb,len))
  (hr:(do storeT i.size cs tt sb len (<-lM x):RM b9).run S ctx=some r) (hn:∀i∈r.new,i∉S.used) (cr:∀c∈r.conds,c):bZ P w0 foot base S E a w o r:=by
 obtain⟨c,h4,hr⟩:=RM.run_bind' hr
 have lk:(Al i.size cs c).run S ctx=some r->bZ P w0 foot base S E a w o r:=fun hr=>by
  refine J7 hT h hc ho h1 h2 h3 (r:=r) ?_
  exact RM.ES h4 hr
 unfold storeT at hr
 split at hr
 ·rename_i bb off
  simp only[RM.run] at hr
  split at hr
  ·rename_i B hf
   split at hr
   ·rename_i e t' xs
    simp only[RM.run] at hr
    split at hr
    ·rename_i B2 BY
     split at hr
     ·rename_i ahm
      split at hr
      ·rename_i hb
       cases hr
       simp only[Bool.and_eq_true,Bool.not_eq_true'] at hb
       obtain⟨yy,Dg,hb3,hb4⟩:=hb
       have ht:=Ty.beq_eq yy
       subst ht
       have Dg:=Nat.eq_of_beq_eq_true Dg
       have hb3:=Nat.le_of_ble_eq_true hb3
       have hb4:bb≠sb:=fun e=>by rw[e] at hb4;simp at hb4
       obtain⟨hs,j,hj,e1,e2,e3⟩:=dh hT h1
       have Vn:=pe h hc h2 h3
       have FT:=Vn.oK
       have hlen:=Vn.length
       have hx:=gu h hc h4
       rw[JN mF] at Vn hlen
       obtain⟨u,us,hu,BZ,Vo⟩:=Vn
       have Vo:us=[]:=Vo
       subst Vo
       obtain⟨p1,hR,hle,jJ⟩:=h.toHRel.acd (nb:=sb+7000000) hf BZ (cr _ (List.mem_singleton.2 rfl)) (hn _ (List.mem_singleton.2 rfl))
       obtain⟨p,hp,qv,De⟩:=hx
       have hbn:bb≠sb+7000000:=fun e=>hn (sb+7000000) (List.mem_singleton.2 rfl) (by rw[<-e];exact h.used _ _ hp)
       have Yb:find (put (rem S.bl sb) (sb+7000000) (.row false e tt (xs.take len))) bb=some (.cells ahm):=by
        rw[bn _ _ _ _ (Ne.symm hbn),hU _ _ _ (Ne.symm hb4)]
        exact BY
       obtain⟨p',dn,_,vs,e',k1,k2⟩:=h.cn _ _ BY
       rw[hp] at dn;cases dn
       have Nd:=k2.length
       simp only[Array.length_toList] at Nd
       have dE:=qH (P:=P) (o:=off) hj (by rw[hu];show 1=j.size;omega) k1 (by rw[hu];show off+1<=_;omega) FT
       refine bZ.skip (w':=eu w p.bp (.cells _ e' (0,0))) (E':=E.new (sb+7000000) p1) ?_ ⟨hle,hR.write Yb (hle.place _ _ hp) qv rfl ⟨qv,_,e',iK (dR k1),b7.qD (cs:=[.row tt (sb+7000000)]) ⟨u,[],rfl,jJ,rfl⟩ (k2.mono hle) off⟩,trivial⟩
       rw[hu] at dE
       simp[execOp,ho,Instr.storeAt,Instr.sureAddr,De,dE]
      ·cases hr
     ·cases hr
    ·cases hr
   ·rename_i o9
    exact lk hr
  ·cases hr
 ·exact lk hr
def gF (E:Env):List SV->List Value->Prop
 |[],vs=>vs=[]
 |s::ss,vs=>∃v us,vs=v::us/\fz E s v/\gF E ss us
theorem qa (h:SRel w0 foot base S E a w) (hc:br a ctx):∀{xs:List Operand} {ss:List SV},(sZ xs).run S ctx=some ss->gF E ss (xs.map a.eval)
 |[],ss,hr=>by cases hr;rfl
 |x::xs,ss,hr=>by
  unfold sZ at hr
  have bw:=RM.run_bind' hr
  clear hr
  obtain⟨s,h1,hr⟩:=bw
  have bw:=RM.run_bind' hr
  clear hr
  obtain⟨Z0,h2,hr⟩:=bw
  cases RM.run_pure' hr
  exact⟨_,_,rfl,gi h hc h1,qa h hc h2⟩
structure mB (P:Program) (f:Nat) (dD:SX):Prop where
 fn:∃fn c,P.funcs[f]? =some fn/\(fn.name=="runtime.NumGoroutine")=false/\fn.body=some c
 calls:∀(w0:World) (foot:gM) (base:Mem) (S:St) (ctx:c9) (E:Env) (w:World) (args:List SV) (vs:List Value) (d:Nat) (r:b9),HRel w0 foot base S.bl S.used E w->gF E args vs->
  (dD.run args d).run S ctx=some r->(∀c∈r.conds,c)->(∀i∈r.new,i∉S.used)->
  Calls P f vs.toArray w fun e w'=>∃v E',e= .returned v/\iF w0 foot base S.bl S.used E r E' w' v
theorem YF (hK:∀f dD,X.dD f=some dD->mB P f dD) (h:SRel w0 foot base S E a w) (hc:br a ctx) {o:Oper} {f d:Nat} {args:Array Operand} {yC:Array Nat} (ho:o.op= .call {callee:= .value (.func f),args:=args,argTypes:=yC}) {r:b9}
  (hr:(do
   let dD <-RM.ofOption (X.dD f)
   let vs <-sZ args.toList
   dD.run vs d:RM b9).run S ctx=some r) (hn:∀i∈r.new,i∉S.used) (cr:∀c∈r.conds,c):bZ P w0 foot base S E a w o r:=by
 have bw:=RM.run_bind' hr
 clear hr
 obtain⟨dD,h1,hr⟩:=bw
 have bw:=RM.run_bind' hr
 clear hr
 obtain⟨ss,h2,hr⟩:=bw
 have FX:=hK f dD (b0 h1)
 obtain⟨fn,c,hf,Ia,B0⟩:=FX.fn
 intro next Q BV
 unfold Oper.wp
 have dE:(execOp a.eval o).run P w= .ok (.enter f (args.map a.eval)) w:=by
  simp only[execOp,ho,resolve,Act.eval,Deferred.ofValue,Sem.run_bind,Sem.run_pure,Result.andThen_ok,invoke,callFunc,run_program,hf,Ia,B0]
  simp
 rw[dE,Oper.upon_enter]
 have vJ:=FX.calls w0 foot base S ctx E w ss (args.toList.map a.eval) d r h.toHRel (qa h hc h2) hr cr hn
 have ea:(args.toList.map a.eval).toArray=args.map a.eval:=by apply Array.ext';simp
 rw[ea] at vJ
 refine vJ.mono fun e w'=> ?_
 rintro⟨v,E',rfl,hA⟩
 exact BV _ _ _ hA
theorem gF.append {E:Env}:∀{ss ts:List SV} {vs us:List Value},gF E ss vs->gF E ts us->gF E (ss++ts) (vs++us)
 |[],_,_,_,h,k=>by have h:_=_:=h;subst h;exact k
 |_::_,_,_,_,⟨v,ws,hv,k1,k2⟩,k=>⟨v,ws++_,by rw[hv];rfl,k1,gF.append k2 k⟩
theorem Dz:∀{t:Ty} {x:t.den} {ss:List SV} {vs:List Value},DA t x=some ss->dj E.F t x vs->gF E ss vs
 | .unit,x,ss,vs,h,hv=>by
  cases h
  have hv:vs=[]:=hv
  exact hv
 | .pair a b,x,ss,vs,h,hv=>by
  unfold DA at h
  split at h
  ·rename_i c us hc hu
   cases h
   obtain⟨vs1,vs2,rfl,h1,h2⟩:=hv
   have h3:=gN (E:=E) h1
   rw[hc] at h3
   obtain⟨v,rfl,h4⟩:=jB h3
   exact⟨v,vs2,rfl,h4,Dz hu h2⟩
  ·cases h
 | .int _,_,_,_,h,_=>by cases h
 | .bool,_,_,_,h,_=>by cases h
 | .str,_,_,_,h,_=>by cases h
 | .list _,_,_,_,h,_=>by cases h
 | .ref _,_,_,_,h,_=>by cases h
 | .ptr _,_,_,_,h,_=>by cases h
 | .lN _ _,_,_,_,h,_=>by cases h
theorem qL {E:Env}:∀{ss:List SV} {cs:List C} {vs:List Value},(tO ss).run S ctx=some cs->gF E ss vs->b7 E cs vs
 |[],cs,vs,hr,h=>by cases hr;exact h
 |s::ss,cs,vs,hr,h=>by
  obtain⟨v,us,rfl,k1,k2⟩:=h
  unfold tO at hr
  obtain⟨c,h1,hr⟩:=RM.run_bind' hr
  obtain⟨ds,h2,hr⟩:=RM.run_bind' hr
  cases RM.run_pure' hr
  exact⟨v,us,rfl,Qt k1 h1,qL h2 k2⟩
theorem Fw {E:Env}:∀{cs:List C} {bs:List Nat} {vs:List Value},(CH cs).run S ctx=some bs->b7 E cs vs->
  ∃ps:List Place,ps.length=bs.length/\(∀(i:Nat) b,bs[i]? =some b->∃p,ps[i]? =some p/\E.place b=some p/\p.nil=false)/\vs=ps.map fun p=>Value.pointer (some ⟨p.bp,0,none⟩)
 |[],bs,vs,hr,h=>by
  cases hr
  have h:_=_:=h
  exact⟨[],rfl,fun i b hb=>by simp at hb,h⟩
 |c::cs,bs,vs,hr,h=>by
  unfold CH at hr
  split at hr
  ·rename_i heq
   cases heq
  ·rename_i b o YD heq
   cases heq
   split at hr
   ·rename_i ho
    have ho:=Nat.eq_of_beq_eq_true ho
    subst ho
    obtain⟨ds,h1,hr⟩:=RM.run_bind' hr
    cases RM.run_pure' hr
    obtain⟨v,us,rfl,⟨p,hp,hn,rfl⟩,k2⟩:=h
    obtain⟨ps,g1,g2,rfl⟩:=Fw h1 k2
    refine⟨p::ps,by simp[g1],fun i b' hb=> ?_,rfl⟩
    cases i with
    |zero=>simp at hb;subst hb;exact⟨p,rfl,hp,hn⟩
    |succ i=>simpa using g2 i b' (by simpa using hb)
   ·cases hr
  ·cases hr
theorem Hz {E:Env}:∀{bs:List Nat} {ps:List Place},ps.length=bs.length->(∀(i:Nat) b,bs[i]? =some b->∃p,ps[i]? =some p/\E.place b=some p/\p.nil=false)->
  gF E (bs.map fun b=> .one (.ptr b 0)) (ps.map fun p=>Value.pointer (some ⟨p.bp,0,none⟩))
 |[],[],_,_=>rfl
 |b::bs,p::ps,hl,h=>by
  obtain⟨q,h1,h2,h3⟩:=h 0 b rfl
  simp at h1
  subst h1
  exact⟨_,_,rfl,⟨p,h2,h3,rfl⟩,Hz (by simpa using hl) fun i b' hb=>h (i+1) b' (by simpa using hb)⟩
 |[],_::_,h,_=>by simp at h
 |_::_,[],h,_=>by simp at h
theorem Bn:∀{fr:ij},(AB fr).run S ctx=some true->∀q∈fr,∃t x,find S.bl q.1=some (.iA t x)
 |[],_,q,hq=>by cases hq
 |(b,D)::fr,h,q,hq=>by
  unfold AB at h
  simp only[RM.run] at h
  split at h
  ·rename_i B hB
   split at h
   ·rename_i t x
    rcases List.mem_cons.1 hq with rfl|hq
    ·exact⟨t,x,hB⟩
    ·exact Bn h q hq
   ·cases h
  ·cases h
theorem Iu {used:List Nat} {fr:ij} (h:(AB fr).run S ctx=some true) (ho:kV S.bl fr) (hR:HRel w0 foot base S.bl used E w):ft S.bl E w fr:=fun q hq=>by
 obtain⟨t,x,hB⟩:=Bn h q hq
 obtain⟨l1,l2,e⟩:=List.append_of_mem hq
 obtain⟨B,h1,h2⟩:=ho.at_ l1 q l2 e
 rw[hB] at h1
 cases h1
 rcases h2 with ⟨_,_,_,_,_,h2⟩|⟨_,_,h2,h3|⟨_,_,h3,_⟩⟩|⟨_,_,_,_,_,_,h2⟩
 ·cases h2
 ·cases h3
  rw[h2]
  exact hR.cn q.1 _ hB
 ·cases h3
 ·cases h2
theorem MR (h:SRel w0 foot base S E a w) (hc:br a ctx) {o:Oper} {k:Nat} {first pT:Array Operand} (ho:o.op= .makeFunc (.func k) first pT) {r:b9}
  (hr:(match first.toList with
  |[]=>do
   let vs <-sZ pT.toList
   let cs <-tO vs
   match has X.mclos k with
   |true=>do
    let bs <-CH cs
    cM (.iH k bs)
   |false=>do
    let ty <-RM.ofOption (find X.clos k)
    let y <-reify ty cs
    match <-AB y.2 with
    |true=>cM (.aG (.lN k ty) y.1)
    |false=> .ret {val:=some (.one (.aG (.lN k ty) y.1)),cn:=y.2}
  |_=> .fail:RM b9).run S ctx=some r):bZ P w0 foot base S E a w o r:=by
 split at hr
 ·rename_i Nn
  obtain⟨vs,h2,hr⟩:=RM.run_bind' hr
  obtain⟨cs,h3,hr⟩:=RM.run_bind' hr
  split at hr
  ·obtain⟨bs,h4,hr⟩:=RM.run_bind' hr
   have hf:first.map a.eval= #[]:=by
    apply Array.ext'
    simp[Nn]
   have mF:=qL h3 (qa h hc h2)
   obtain⟨ps,k1,k2,k3⟩:=Fw h4 mF
   refine bZ.value (v:= .func (.func k) #[] (pT.map a.eval)) (w':=w) ?_ ((fv.cM hr ⟨ps,k1,k2,?_⟩).after h.toHRel)
   ·simp only[execOp,ho,Instr.makeFunc,hf]
    rfl
   ·congr 1
    apply Array.ext'
    rw[Array.toList_map,k3]
  obtain⟨ty,h1,hr⟩:=RM.run_bind' hr
  obtain⟨⟨y,fr⟩,h4,hr⟩:=RM.run_bind' hr
  obtain⟨g,h5,hr⟩:=RM.run_bind' hr
  have hf:first.map a.eval= #[]:=by
   apply Array.ext'
   simp[Nn]
  split at hr
  ·have hfz:=Iu h5 (gD h4) h.toHRel
   have jJ:=jA h4 (qL h3 (qa h hc h2)) hfz
   refine bZ.value (v:= .func (.func k) #[] (pT.map a.eval)) (w':=w) ?_ ((fv.cM hr ⟨rfl,_,rfl,?_⟩).after h.toHRel)
   ·simp only[execOp,ho,Instr.makeFunc,hf]
    rfl
   ·rw[Array.toList_map]
    exact jJ
  cases hr
  have Ii:=gD h4
  obtain⟨E1,l1,q1,f1,nY⟩:=h.toHRel.cE Ii
  have jJ:=jA h4 ((qL h3 (qa h hc h2)).mono l1) (ft.qi Ii nY)
  have hf:first.map a.eval= #[]:=by
   apply Array.ext'
   simp[Nn]
  refine bZ.value (v:= .func (.func k) #[] (pT.map a.eval)) (w':=w) (E':=E1) ?_ ⟨l1,?_,rfl,_,rfl,?_⟩
  ·simp only[execOp,ho,Instr.makeFunc,hf]
   rfl
  ·exact nY
  ·rw[Array.toList_map]
   exact jJ
 ·cases hr
theorem Qe (hK:∀f dD,X.dD f=some dD->mB P f dD) (h:SRel w0 foot base S E a w) (hc:br a ctx) {o:Oper} {f d:Nat} {args:Array Operand} {yC:Array Nat} (ho:o.op= .call {callee:= .value (.tmp f),args:=args,argTypes:=yC}) {r:b9}
  (hr:(do
   match <-lM (.tmp f) with
   | .aG (.lN k ty) y=>(do
    let dD <-RM.ofOption (X.dD k)
    let vs <-sZ args.toList
    let us <-RM.ofOption (DA ty y)
    dD.run (vs++us) d)
   | .iH k bs=>(do
    let dD <-RM.ofOption (X.dD k)
    let vs <-sZ args.toList
    dD.run (vs++bs.map fun b=> .one (.ptr b 0)) d)
   |_=> .fail:RM b9).run S ctx=some r) (hn:∀i∈r.new,i∉S.used) (cr:∀c∈r.conds,c):bZ P w0 foot base S E a w o r:=by
 have bw:=RM.run_bind' hr
 clear hr
 obtain⟨cf,h0,hr⟩:=bw
 have hcf:=gu h hc h0
 split at hr
 ·rename_i k ty y
  have bw:=RM.run_bind' hr
  clear hr
  obtain⟨dD,h1,hr⟩:=bw
  have bw:=RM.run_bind' hr
  clear hr
  obtain⟨ss,h2,hr⟩:=bw
  have bw:=RM.run_bind' hr
  clear hr
  obtain⟨us,h3,hr⟩:=bw
  obtain⟨_,ws,hv,jJ⟩:=hcf
  simp only[List.cons.injEq,and_true] at hv
  have FX:=hK k dD (b0 h1)
  obtain⟨fn,c,hf,Ia,B0⟩:=FX.fn
  intro next Q BV
  unfold Oper.wp
  have dE:(execOp a.eval o).run P w= .ok (.enter k (args.map a.eval++ws)) w:=by
   simp only[execOp,ho,resolve,hv,Deferred.ofValue,Sem.run_bind,Sem.run_pure,Result.andThen_ok,invoke,callFunc,run_program,hf,Ia,B0]
   simp
  rw[dE,Oper.upon_enter]
  have vJ:=FX.calls w0 foot base S ctx E w (ss++us) (args.toList.map a.eval++ws.toList) d r h.toHRel ((qa h hc h2).append (Dz (b0 h3) jJ)) hr cr hn
  have ea:(args.toList.map a.eval++ws.toList).toArray=args.map a.eval++ws:=by apply Array.ext';simp
  rw[ea] at vJ
  refine vJ.mono fun e w'=> ?_
  rintro⟨v,E',rfl,hA⟩
  exact BV _ _ _ hA
 ·rename_i k bs
  have bw:=RM.run_bind' hr
  clear hr
  obtain⟨dD,h1,hr⟩:=bw
  have bw:=RM.run_bind' hr
  clear hr
  obtain⟨ss,h2,hr⟩:=bw
  obtain⟨ps,g1,g2,hv⟩:=hcf
  have FX:=hK k dD (b0 h1)
  obtain⟨fn,c,hf,Ia,B0⟩:=FX.fn
  intro next Q BV
  unfold Oper.wp
  have dE:(execOp a.eval o).run P w= .ok (.enter k (args.map a.eval++(ps.map fun p=>Value.pointer (some ⟨p.bp,0,none⟩)).toArray)) w:=by
   simp only[execOp,ho,resolve,hv,Deferred.ofValue,Sem.run_bind,Sem.run_pure,Result.andThen_ok,invoke,callFunc,run_program,hf,Ia,B0]
   simp
  rw[dE,Oper.upon_enter]
  have vJ:=FX.calls w0 foot base S ctx E w (ss++bs.map fun b=> .one (.ptr b 0)) (args.toList.map a.eval++ps.map fun p=>Value.pointer (some ⟨p.bp,0,none⟩)) d r h.toHRel ((qa h hc h2).append (Hz g1 g2)) hr cr hn
  have ea:(args.toList.map a.eval++ps.map fun p=>Value.pointer (some ⟨p.bp,0,none⟩)).toArray=args.map a.eval++(ps.map fun p=>Value.pointer (some ⟨p.bp,0,none⟩)).toArray:=by apply Array.ext';simp
  rw[ea] at vJ
  refine vJ.mono fun e w'=> ?_
  rintro⟨v,E',rfl,hA⟩
  exact BV _ _ _ hA
 ·cases hr
theorem ef.bytes {F:Mem}:∀{xs:List Int} {us:List Value},ef F (.int .u8) xs us->us=xs.map (Value.int .u8):=fun {xs us} h=>by
 obtain⟨h1,h2⟩:=h
 have h1:us.length=xs.length:=by simpa [Ty.size] using h1
 apply List.ext_getElem?
 intro i
 by_cases hi:i<xs.length
 ·obtain⟨ws,k1,k2,k3⟩:=h2 i xs[i] (List.getElem?_eq_getElem hi)
  obtain⟨k1,_⟩:=k1
  subst k1
  have:=k3 0 _ rfl
  simp only[Ty.size,Nat.mul_one,Nat.add_zero] at this
  rw[this]
  simp[List.getElem?_eq_getElem hi]
 ·rw[List.getElem?_eq_none (by omega),List.getElem?_eq_none (by simp;omega)]
theorem Qb (hT:dx P X.aA) (h:SRel w0 foot base S E a w) (hc:br a ctx) {o:Oper} {s t:Nat} {x:Operand} (ho:o.op= .convert s t x) {r:b9}
  (hr:(do
   let i' <-ti X s
   let i <-ti X t
   match i'.d,i.d,<-ev x with
   | .int _,.int k,.one (.aG (.int j) n)=>(match GM j k with
    |true=>cM (.aG (.int k) n)
    |false=>cM (.aG (.int k) (k.wrap n)))
   | .slice e,.str,.one c=>(do
    let j <-ti X e
    match j.d with
    | .int .u8=>(do
     let ys <-Ot (.int .u8) c
     cM (.aG .str (ys.map fun(n:Int)=>UInt8.ofNat n.toNat)))
    |_=> .fail)
   |_,_,_=> .fail:RM b9).run S ctx=some r):bZ P w0 foot base S E a w o r:=by
 have bw:=RM.run_bind' hr
 clear hr
 obtain⟨i',h1,hr⟩:=bw
 have bw:=RM.run_bind' hr
 clear hr
 obtain⟨i,h2,hr⟩:=bw
 have bw:=RM.run_bind' hr
 clear hr
 obtain⟨sv,h3,hr⟩:=bw
 obtain⟨nI,_⟩:=dh hT h1
 obtain⟨hs,_⟩:=dh hT h2
 have hx:=gi h hc h3
 split at hr
 ·rename_i k' k j n EF hd
  rw[hd] at hs
  rw[EF] at nI
  obtain⟨_,h4,h5⟩:=hx
  simp only[List.cons.injEq,and_true] at h4
  have dE:(execOp a.eval o).run P w= .ok (.value (.int k (k.wrap n))) w:=by
   simp[execOp,ho,convert,run_underlying (rG nI),run_underlying (rG hs),h4,Conv.intToInt]
  split at hr
  ·rename_i hle
   rw[KC (FK hle h5)] at dE
   exact bZ.value dE ((fv.cM hr ⟨rfl,rfl,FK hle h5⟩).after h.toHRel)
  ·exact bZ.value dE ((fv.cM hr ⟨rfl,rfl,qe _ _⟩).after h.toHRel)
 ·rename_i e c EF hd
  rw[hd] at hs
  rw[EF] at nI
  have bw:=RM.run_bind' hr
  clear hr
  obtain⟨j,h4,hr⟩:=bw
  obtain⟨hse,_⟩:=dh hT h4
  split at hr
  ·rename_i hdj
   rw[hdj] at hse
   have bw:=RM.run_bind' hr
   clear hr
   obtain⟨ys,h5,hr⟩:=bw
   have hx:gV E c (a.eval x):=hx
   have hu:=dO nI
   have he:=rG hse
   have hd:=qf hs
   rcases He h.toHRel (by decide) hx h5 with ⟨hv,Gs⟩|⟨ad,cap,news,hv,Db,qV⟩
   ·subst Gs
    refine bZ.value (v:= .string ⟨⟨[]⟩⟩) ?_ ((fv.cM hr ⟨rfl,rfl,by simp[aM]⟩).after h.toHRel)
    simp only[execOp,ho,hv]
    have:=run_convert_bytes_nil (P:=P) w s e hu he 0 0 t hd
    simp only[Sem.run_bind,this,Result.andThen_ok,Sem.run_pure]
    rfl
   ·have hb:=ef.bytes Db
    have hlen:ys.length<=aM:=by
     have hw:=hx
     rw[hv] at hw
     have:(ys.length<=aM):=by
      cases c with
      |aG tt z=>
       obtain⟨Gu,hw⟩:=hw
       cases tt with
       |list t=>obtain⟨a',aog,g1,g2,g3,_⟩:=hw;simp only[List.cons.injEq,Value.slice.injEq,and_true] at g1;omega
       |int _=>simp[dj] at hw
       |bool=>simp[dj] at hw
       |str=>simp[dj] at hw
       |unit=>simp[dj] at hw
       |pair _ _=>simp[Ty.isAgg] at Gu
       |ref _=>simp[dj] at hw
       |ptr _=>simp[dj] at hw
       |lN _ _=>simp[dj] at hw
       |map _ _=>obtain⟨_,g,_⟩:=hw;simp at g
      |row tt b=>
       obtain⟨p,_,⟨_,g,_⟩|⟨_,g,g1,g2⟩⟩:=hw
       ·cases g
       ·simp only[Value.slice.injEq] at g;omega
      |sub tt b lo len=>
       obtain⟨p,_,g0,⟨_,g,_⟩|⟨_,aa,g,g1,g2,_⟩⟩:=hw
       ·cases g
       ·simp only[Value.slice.injEq] at g;omega
      |ptr _ _=>obtain⟨_,_,_,g⟩:=hw;cases g
      |mD _ _ _ _=>obtain⟨_,_,_,_,g⟩:=hw;cases g
      |ta _ _ _ _=>obtain⟨_,_,_,g,_⟩:=hw;cases g
      |kq=>cases hw
      |o6=>cases hw
      |HH=>cases hw
      |iH _ _=>obtain⟨_,_,_,g⟩:=hw;cases g
      |map _ _ _=>obtain⟨_,_,_,g⟩:=hw;cases g
      |pR=>cases hw
      |xo _=>obtain⟨_,_,_,g⟩:=hw;cases g
     exact this
    refine bZ.value (v:= .string (strOfNums ys)) ?_ ((fv.cM hr ⟨rfl,?_,by simpa using hlen⟩).after h.toHRel)
    ·have hl:(loadCells ad ys.length).run P w= .ok (ys.map (Value.int .u8)).toArray w:=by
      have:=run_loadCells_list (P:=P) w ad (ys.map (Value.int .u8)) (fun j v hj=>qV j v (by rw[hb];exact hj))
      simpa using this
     have Vn:(convert s t (.slice (some ad) ys.length cap)).run P w= .ok (.string (strOfNums ys)) w:=by
      rw[run_convert_bytes_string w s t e _ ys.length cap hu he hd,run_bytesToString w _ ys.length cap ys hl,foldl_push_bytes]
      simp[strOfNums,ByteArray.empty,ByteArray.emptyWithCapacity]
      rfl
     simp only[execOp,ho,hv,Sem.run_bind,Vn,Result.andThen_ok,Sem.run_pure]
    ·simp[strOfNums]
  ·cases hr
 ·cases hr
theorem F1 (hT:dx P X.aA) (hK:∀f dD,X.dD f=some dD->mB P f dD) (h:SRel w0 foot base S E a w) (hc:br a ctx) {o:Oper} {r:b9} (hr:(fH X o).run S ctx=some r)
  (hn:∀i∈r.new,i∉S.used) (cr:∀c∈r.conds,c):bZ P w0 foot base S E a w o r:=by
 cases ho:o.op with
 |move x=>simp only[fH,ho] at hr;exact O7 h hc (.inl ho) hr
 |assign x=>simp only[fH,ho] at hr;exact O7 h hc (.inr ho) hr
 |pick c x y=>
  cases c with
  |tmp c=>simp only[fH,ho] at hr;exact WW h hc ho hr
  |_=>simp only[fH,ho] at hr;cases hr
 |alloc t=>simp only[fH,ho] at hr;exact SH hT h ho hr hn
 |box t x=>simp only[fH,ho] at hr;exact aa7 h hc ho hr hn
 |build t ps=>simp only[fH,ho] at hr;exact AH hT h hc ho hr
 |buildSlice t n ps=>
  simp only[fH,ho] at hr
  split at hr
  ·exact Jb hT h hc ho hr hn
  ·exact Gy hT h hc ho hr
 |load t x=>simp only[fH,ho] at hr;exact Xs hT h hc ho hr
 |store t x v=>
  simp only[fH,ho] at hr
  have bw:=RM.run_bind' hr
  clear hr
  obtain⟨i,h1,hr⟩:=bw
  have bw:=RM.run_bind' hr
  clear hr
  obtain⟨s,h2,hr⟩:=bw
  have bw:=RM.run_bind' hr
  clear hr
  obtain⟨cs,h3,hr⟩:=bw
  split at hr
  ·obtain⟨_,j,hj,e1,_⟩:=dh hT h1
   exact QS h hc ho hj e1 h2 h3 hr cr
  ·split at hr
   ·rename_i mF
    exact QR hT h hc ho h1 h2 h3 mF hr hn cr
   ·exact J7 hT h hc ho h1 h2 h3 hr
 |makeMap t n=>
  cases n with
  |none=>simp only[fH,ho] at hr;exact Pd hT h ho hr hn
  |some _=>simp only[fH,ho] at hr;cases hr
 |range t x=>simp only[fH,ho] at hr;exact UK hT h hc ho hr hn
 |entry it=>simp only[fH,ho] at hr;exact VH h hc ho hr
 |lookup t x ix ok=>simp only[fH,ho] at hr;exact RF hT h hc ho hr
 |mapUpdate t m k v=>simp only[fH,ho] at hr;exact JF hT h hc ho hr
 |mapEntry t m k=>simp only[fH,ho] at hr;exact MQ hT h hc ho hr hn
 |entryStore t m s v=>simp only[fH,ho] at hr;exact IJ hT h hc ho hr
 |nilCheck x=>simp only[fH,ho] at hr;exact MK h hc ho hr cr
 |makeFunc fn first pT=>
  cases fn with
  |func k=>simp only[fH,ho] at hr;exact MR h hc ho hr
  |_=>simp only[fH,ho] at hr;cases hr
 |binOp op t x y yt=>simp only[fH,ho] at hr;exact Wb hT h hc ho hr cr
 |unOp op t x=>simp only[fH,ho] at hr;exact Ww h hc ho hr cr
 |convert s t x=>simp only[fH,ho] at hr;exact Qb hT h hc ho hr
 |makeSlice t l c=>simp only[fH,ho] at hr;exact JG hT h hc ho hr hn cr
 |slice t x lo hi mx=>
  cases mx with
  |none=>simp only[fH,ho] at hr;exact UD hT h hc ho hr cr
  |some _=>simp only[fH,ho] at hr;cases hr
 |fieldAddr s x f=>simp only[fH,ho] at hr;exact JQ hT h hc ho hr
 |field s x f=>simp only[fH,ho] at hr;exact VB hT h hc ho hr
 |indexAddr t x ix=>simp only[fH,ho] at hr;exact JJ hT h hc ho hr cr
 |index t x ix=>simp only[fH,ho] at hr;exact U9 hT h hc ho hr cr
 |extract x k=>simp only[fH,ho] at hr;exact P5 h hc ho hr
 |call c=>
  obtain⟨callee,args,yC⟩:=c
  cases callee with
  |value f=>
   cases f with
   |func f=>simp only[fH,ho] at hr;exact YF hK h hc ho hr hn cr
   |tmp f=>simp only[fH,ho] at hr;exact Qe hK h hc ho hr hn cr
   |_=>simp only[fH,ho] at hr;cases hr
  |invoke _ _=>simp only[fH,ho] at hr;cases hr
  |builtin b=>
   cases b with
   |len=>
    simp only[fH,ho] at hr
    split at hr
    ·rename_i x t h1 h2
     exact aag hT h hc ho h1 h2 hr
    ·cases hr
   |max=>
    simp only[fH,ho] at hr
    split at hr
    ·rename_i x y h1
     exact HO (big:=true) h hc ho h1 hr
    ·cases hr
   |min=>
    simp only[fH,ho] at hr
    split at hr
    ·rename_i x y h1
     exact HO (big:=false) h hc ho h1 hr
    ·cases hr
   |delete=>
    simp only[fH,ho] at hr
    split at hr
    ·rename_i m k t t' h1 h2
     exact Ss hT h hc ho h1 h2 hr
    ·cases hr
   |append=>
    simp only[fH,ho] at hr
    split at hr
    ·rename_i s x t u h1 h2
     have bw:=RM.run_bind' hr
     clear hr
     obtain⟨u',h3,hr⟩:=bw
     have:=Nat.eq_of_beq_eq_true (bR h3)
     subst this
     exact SG hT h hc ho h1 h2 hr hn cr
    ·cases hr
   |_=>simp only[fH,ho] at hr;cases hr
 |_=>simp only[fH,ho] at hr;cases hr
end Go.Vc
end

section
set_option linter.unusedVariables false
set_option linter.unusedSimpArgs false
namespace Go.Vc
open Go
variable {P:Program} {X:Ctx} {w0:World} {foot:gM} {base:Mem} {S:St} {E:Env} {a:Act} {w:World} {ctx:c9}
def DL (S:St) (n:Nat):Option Bool:=
 match find S.sl n with
 |some (_,.one (.aG .bool b))=>some (Ty.B b)
 |_=>none
def xf (S:St):c9->Prop->Prop
 |[],p=>p
 |(n,want)::ts,p=>xf S ts (match DL S n with
  |some g=>g=want->p
  |none=>p)
def rS (S:St) (ops:Array Oper) (o:Oper):Option c9:=
 match o.guard with
 |none=>some []
 |some (j,want)=>match(ops[j]?).bind (·.dst) with
  |some d=>(match find S.sl d with
   |some (tags,_)=>some ((d,want)::tags)
   |none=>none)
  |none=>none
def mentions:c9->Nat->Bool
 |[],_=>false
 |(m,_)::l,n=>match Nat.beq m n with
  |true=>true
  |false=>mentions l n
theorem qO:∀{l:c9} {n:Nat},mentions l n=false->∀t∈l,t.1≠n
 |[],_,_,t,ht=>by cases ht
 |(m,b)::l,n,h,t,ht=>by
  unfold mentions at h
  split at h
  ·cases h
  ·rename_i hb
   rcases List.mem_cons.1 ht with rfl|ht
   ·intro e;simp only at e;subst e;simp at hb
   ·exact qO h t ht
structure Rec where
 o:Oper
 ctx:c9
 r:b9
 conds:List Prop
 rs:List Loc
def fS (S:St) (o:Oper) (ctx:c9) (r:b9):St:=
 {sl:=(match o.dst with
   |none=>S.sl
   |some d=>(match r.val with
    |some v=>put S.sl d (ctx,v)
    |none=>rem S.sl d))
  bl:=gU r S.bl
  used:=r.new++S.used
  n:=S.n
  oJ:=S.oJ}
def MH (d:Nat):List (Nat×(c9×SV))->Bool
 |[]=>true
 |(_,ts,_)::l=>match mentions ts d with
  |true=>false
  |false=>MH d l
def ui (used:List Nat):List Nat->Bool
 |[]=>true
 |n::l=>match has used n||has l n with
  |true=>false
  |false=>ui used l
def zY (S:St) (ctx:c9) (o:Oper):Bool:=
 match o.dst with
 |none=>true
 |some d=>Nat.blt d S.n&&(MH d S.sl&& !mentions ctx d)
def uY (ctx:c9) (r:b9):Bool:=
 match ctx with
 |[]=>true
 |_=>r.cn.isEmpty&&(r.del.isEmpty&&r.new.isEmpty)
def GA (X:Ctx) (ops:Array Oper) (S:St) (o:Oper):Option Rec:=
 match rS S ops o with
 |none=>none
 |some ctx=>match(fH X o).run S ctx with
  |none=>none
  |some r=>match zY S ctx o&&(ui S.used r.new&&uY ctx r) with
   |true=>some {o,ctx,r,conds:=r.conds.map (xf S ctx),rs:=ctx.map (fun t=> .slot t.1)++(fH X o).reads S ctx}
   |false=>none
def u4 (X:Ctx) (ops:Array Oper):List Oper->St->Option (List Rec×St)
 |[],S=>some ([],S)
 |o::l,S=>match GA X ops S o with
  |none=>none
  |some c=>match u4 X ops l (fS S o c.ctx c.r) with
   |none=>none
   |some (cs,S')=>some (c::cs,S')
def pM (cs:List Rec):List Prop:=cs.flatMap (·.conds)
structure ek (w0:World) (foot:gM) (base:Mem) (S:St) (E:Env) (a:Act) (w:World):Prop extends SRel w0 foot base S E a w where
 dY:∀n ts v,find S.sl n=some (ts,v)->¬br a ts->a.tmps.getD n undef=undef
theorem Fb (h:SRel w0 foot base S E a w):∀{ts:c9} {p:Prop},br a ts->(∀t∈ts,∀tags v,find S.sl t.1=some (tags,v)->br a tags)->xf S ts p->p
 |[],p,_,_,hp=>hp
 |(n,want)::ts,p,ht,hd,hp=>by
  have ih:=Fb h (ts:=ts) (fun t h'=>ht t (List.mem_cons_of_mem _ h')) (fun t h'=>hd t (List.mem_cons_of_mem _ h')) hp
  split at ih
  ·rename_i g hg
   refine ih ?_
   unfold DL at hg
   split at hg
   ·rename_i tags b hf
    cases hg
    have hv:=h.ib _ _ _ hf (hd (n,want) List.mem_cons_self _ _ hf)
    have hn:=ht (n,want) List.mem_cons_self
    simp only at hn
    rw[Array.getD_eq_getD_getElem?,hn] at hv
    obtain⟨_,hv⟩:=hv
    simp only[dj,Option.getD_some,List.cons.injEq,and_true] at hv
    exact(Value.bool.inj hv).symm
   ·cases hg
  ·exact ih
theorem rF {d n:Nat} {v:Value} (h:n≠d):(a.put (some d) v).tmps[n]? =a.tmps[n]? :=by
 simp[Act.put,Array.getElem?_setIfInBounds_ne (Ne.symm h)]
theorem ur {d:Nat} {v:Value} (h:d<a.tmps.size):(a.put (some d) v).tmps[d]? =some v:=by
 simp[Act.put,h]
theorem br.put {d:Nat} {v:Value} {ts:c9} (h:∀t∈ts,t.1≠d):br (a.put (some d) v) ts↔br a ts:=
 ⟨fun k t ht=>by have:=k t ht;rwa [rF (h t ht)] at this,fun k t ht=>by rw[rF (h t ht)];exact k t ht⟩
theorem FC:∀{l:List (Nat×(c9×SV))} {d:Nat},MH d l=true->∀n ts v,find l n=some (ts,v)->∀t∈ts,t.1≠d
 |[],_,_,n,ts,v,h=>by cases h
 |(m,QN,v')::l,d,h,n,ts,v,hf=>by
  unfold MH at h
  split at h
  ·cases h
  ·rename_i hm
   unfold find at hf
   split at hf
   ·cases hf
    exact qO hm
   ·exact FC h n ts v hf
theorem nj:∀{l used:List Nat},ui used l=true->∀i∈l,i∉used
 |[],_,_,i,hi=>by cases hi
 |n::l,used,h,i,hi=>by
  unfold ui at h
  split at h
  ·cases h
  ·rename_i hb
   simp only[Bool.or_eq_false_iff] at hb
   rcases List.mem_cons.1 hi with rfl|hi
   ·intro hu;rw[sJ.2 hu] at hb;cases hb.1
   ·exact nj h i hi
theorem SRel.Il {S':St} {E':Env} {w':World} (h:SRel w0 foot base S E a w) (hle:E.le E') (hh:HRel w0 foot base S'.bl S'.used E' w') (hs:S'.sl=S.sl) (hn:S'.n=S.n) (hp:S'.oJ=S.oJ):SRel w0 foot base S' E' a w':=
 {toHRel:=hh,ib:=fun n ts v hf ht=>(h.ib n ts v (hs▸hf) ht).mono hle,size:=hn▸h.size,defers:=h.defers,pins:=fun n p h1=>⟨hp▸(h.pins n p h1).1,hle.place _ _ (h.pins n p h1).2⟩}
def Jv (S:St) (ctx:c9) (o:Oper):Prop:=
 ∀d,o.dst=some d->d<S.n/\(∀n ts v,find S.sl n=some (ts,v)->∀t∈ts,t.1≠d)/\∀t∈ctx,t.1≠d
theorem nz {S:St} {ctx:c9} {o:Oper} (h:zY S ctx o=true):Jv S ctx o:=fun d hd=>by
 unfold zY at h
 rw[hd] at h
 simp only[Bool.and_eq_true,Bool.not_eq_true'] at h
 exact⟨Nat.le_of_ble_eq_true h.1,FC h.2.1,qO h.2.2⟩
theorem ek.step (h:ek w0 foot base S E a w) {o:Oper} {r:b9} {E':Env} {w':World} {v:Value} (hd:Jv S ctx o) (hc:br a ctx) (hA:iF w0 foot base S.bl S.used E r E' w' v):
  ek w0 foot base (fS S o ctx r) E' (a.put o.dst v) w':=by
 cases ho:o.dst with
 |none=>
  have hs:(fS S o ctx r).sl=S.sl:=by simp[fS,ho]
  exact {toSRel:=h.toSRel.Il hA.le hA.heap hs rfl rfl,dY:=fun n ts u hf hn=>h.dY n ts u (hs▸hf) hn}
 |some d=>
  obtain⟨dQ,o9,Ye⟩:=hd d ho
  rw[<-h.size] at dQ
  have lk:∀n ts u,n≠d->find S.sl n=some (ts,u)->(br (a.put (some d) v) ts->fz E' u ((a.put (some d) v).tmps.getD n undef))/\(¬br (a.put (some d) v) ts->(a.put (some d) v).tmps.getD n undef=undef):=fun n ts u hn hf=>by
   rw[br.put (o9 n ts u hf),Array.getD_eq_getD_getElem?,rF hn,<-Array.getD_eq_getD_getElem?]
   exact⟨fun ht=>(h.ib n ts u hf ht).mono hA.le,h.dY n ts u hf⟩
  have size:(a.put (some d) v).tmps.size=S.n:=by simp[Act.put,h.size]
  cases hv:r.val with
  |none=>
   have hs:(fS S o ctx r).sl=rem S.sl d:=by simp[fS,ho,hv]
   refine {toHRel:=hA.heap,ib:=fun n ts u hf ht=> ?_,size:=size,defers:=h.defers,pins:=fun n p h1=>⟨(h.pins n p h1).1,hA.le.place _ _ (h.pins n p h1).2⟩,dY:=fun n ts u hf ht=> ?_}
   ·rw[hs] at hf
    obtain⟨hf,hn⟩:=gp hf
    exact(lk n ts u (Ne.symm hn) hf).1 ht
   ·rw[hs] at hf
    obtain⟨hf,hn⟩:=gp hf
    exact(lk n ts u (Ne.symm hn) hf).2 ht
  |some s=>
   have hs:(fS S o ctx r).sl=put S.sl d (ctx,s):=by simp[fS,ho,hv]
   have hval:=hA.val
   rw[hv] at hval
   refine {toHRel:=hA.heap,ib:=fun n ts u hf ht=> ?_,size:=size,defers:=h.defers,pins:=fun n p h1=>⟨(h.pins n p h1).1,hA.le.place _ _ (h.pins n p h1).2⟩,dY:=fun n ts u hf ht=> ?_}
   ·rw[hs] at hf
    by_cases hn:n=d
    ·subst hn
     rw[bP] at hf
     cases hf
     rw[Array.getD_eq_getD_getElem?,ur dQ]
     exact hval
    ·rw[bn _ _ _ _ (Ne.symm hn)] at hf
     exact(lk n ts u hn hf).1 ht
   ·rw[hs] at hf
    by_cases hn:n=d
    ·subst hn
     rw[bP] at hf
     cases hf
     exact absurd ((br.put Ye).2 hc) ht
    ·rw[bn _ _ _ _ (Ne.symm hn)] at hf
     exact(lk n ts u hn hf).2 ht
theorem ek.skip (h:ek w0 foot base S E a w) {o:Oper} {r:b9} (hd:Jv S ctx o) (hg:uY ctx r=true) (hc:¬br a ctx):
  ek w0 foot base (fS S o ctx r) E (a.put o.dst undef) w:=by
 have kz:r.cn=[]/\r.del=[]/\r.new=[]:=by
  unfold uY at hg
  split at hg
  ·exact absurd (fun t ht=>by cases ht) hc
  ·simpa using hg
 have hb:gU r S.bl=S.bl:=by simp[gU,kz.1,kz.2.1]
 have jd:HRel w0 foot base (gU r S.bl) (r.new++S.used) E w:=by rw[hb,kz.2.2];exact h.toHRel
 cases ho:o.dst with
 |none=>
  have hs:(fS S o ctx r).sl=S.sl:=by simp[fS,ho]
  exact {toSRel:=h.toSRel.Il (.refl _) jd hs rfl rfl,dY:=fun n ts u hf hn=>h.dY n ts u (hs▸hf) hn}
 |some d=>
  obtain⟨dQ,o9,Ye⟩:=hd d ho
  rw[<-h.size] at dQ
  have lk:∀n ts u,n≠d->find S.sl n=some (ts,u)->(br (a.put (some d) undef) ts->fz E u ((a.put (some d) undef).tmps.getD n undef))/\(¬br (a.put (some d) undef) ts->(a.put (some d) undef).tmps.getD n undef=undef):=fun n ts u hn hf=>by
   rw[br.put (o9 n ts u hf),Array.getD_eq_getD_getElem?,rF hn,<-Array.getD_eq_getD_getElem?]
   exact⟨fun ht=>h.ib n ts u hf ht,h.dY n ts u hf⟩
  have size:(a.put (some d) undef).tmps.size=S.n:=by simp[Act.put,h.size]
  cases hv:r.val with
  |none=>
   have hs:(fS S o ctx r).sl=rem S.sl d:=by simp[fS,ho,hv]
   refine {toHRel:=jd,ib:=fun n ts u hf ht=> ?_,size:=size,defers:=h.defers,pins:=h.pins,dY:=fun n ts u hf ht=> ?_}
   ·rw[hs] at hf
    obtain⟨hf,hn⟩:=gp hf
    exact(lk n ts u (Ne.symm hn) hf).1 ht
   ·rw[hs] at hf
    obtain⟨hf,hn⟩:=gp hf
    exact(lk n ts u (Ne.symm hn) hf).2 ht
  |some s=>
   have hs:(fS S o ctx r).sl=put S.sl d (ctx,s):=by simp[fS,ho,hv]
   refine {toHRel:=jd,ib:=fun n ts u hf ht=> ?_,size:=size,defers:=h.defers,pins:=h.pins,dY:=fun n ts u hf ht=> ?_}
   ·rw[hs] at hf
    by_cases hn:n=d
    ·subst hn
     rw[bP] at hf
     cases hf
     exact absurd ((br.put Ye).1 ht) hc
    ·rw[bn _ _ _ _ (Ne.symm hn)] at hf
     exact(lk n ts u hn hf).1 ht
   ·rw[hs] at hf
    by_cases hn:n=d
    ·subst hn
     rw[Array.getD_eq_getD_getElem?,ur dQ]
     rfl
    ·rw[bn _ _ _ _ (Ne.symm hn)] at hf
     exact(lk n ts u hn hf).2 ht
theorem oX {ops:Array Oper} {o:Oper} {c:Rec} (h:GA X ops S o=some c):
  rS S ops o=some c.ctx/\(fH X o).run S c.ctx=some c.r/\zY S c.ctx o=true/\ui S.used c.r.new=true/\uY c.ctx c.r=true/\c.conds=c.r.conds.map (xf S c.ctx)/\c.o=o/\
   c.rs=c.ctx.map (fun t=> .slot t.1)++(fH X o).reads S c.ctx:=by
 unfold GA at h
 split at h
 ·cases h
 ·rename_i ctx hg
  split at h
  ·cases h
  ·rename_i r hr
   split at h
   ·rename_i hb
    cases h
    simp only[Bool.and_eq_true] at hb
    exact⟨hg,hr,hb.1,hb.2.1,hb.2.2,rfl,rfl,rfl⟩
   ·cases h
theorem Fc (hT:dx P X.aA) (hK:∀f dD,X.dD f=some dD->mB P f dD) (h:ek w0 foot base S E a w) {ops:Array Oper} {i:Nat} {o:Oper} {r:b9} (hi:ops[i]? =some o)
  (hg:rS S ops o=some ctx) (hr:(fH X o).run S ctx=some r) (hd:Jv S ctx o) (hn:∀i∈r.new,i∉S.used) (R6:uY ctx r=true) (cr:∀c∈r.conds,xf S ctx c)
  {Q:Exit->Act->World->Prop} {K:Act->World->Prop} (Ip:∀E' a' w',ek w0 foot base (fS S o ctx r) E' a' w'->K a' w'):wpOp P ops Q i K a w:=by
 unfold wpOp
 simp only[hi]
 have Tp:Region.wanted o (yielded ops a.tmps)=true->br a ctx/\∀t∈ctx,∀tags v,find S.sl t.1=some (tags,v)->br a tags:=fun hw=>by
  have gen:∀n b tags v,a.tmps[n]? =some (.bool b)->find S.sl n=some (tags,v)->br a tags:=fun n b tags v hv hf=>by
   refine Classical.byContradiction fun hn=> ?_
   have:=h.dY n tags v hf hn
   rw[Array.getD_eq_getD_getElem?,hv] at this
   simp[undef] at this
  have all:br a ctx:=by
   unfold rS at hg
   cases PD:o.guard with
   |none=>rw[PD] at hg;cases hg;intro t ht;cases ht
   |some jw=>
    obtain⟨j,want⟩:=jw
    rw[PD] at hg
    simp only at hg
    split at hg
    ·rename_i d EF
     split at hg
     ·rename_i tags v hf
      cases hg
      have hv:a.tmps[d]? =some (.bool want):=by
       unfold Region.wanted at hw
       rw[PD] at hw
       simp only[yielded,EF,Option.bind_some,beq_iff_eq] at hw
       split at hw
       ·rename_i b hb
        cases hw
        exact hb
       ·cases hw
      intro t ht
      rcases List.mem_cons.1 ht with rfl|ht
      ·exact hv
      ·exact gen d want tags v hv hf t ht
     ·cases hg
    ·cases hg
  exact⟨all,fun t ht tags v hf=>gen t.1 t.2 tags v (all t ht) hf⟩
 split
 ·rename_i hw
  obtain⟨ht,AV⟩:=Tp hw
  refine .inl (F1 hT hK h.toSRel ht hr hn (fun c hc=>Fb h.toSRel ht AV (cr c hc)) K Q fun E' w' v hA=>Ip E' _ _ (h.step hd ht hA))
 ·rename_i hw
  refine Ip E _ _ (h.skip hd R6 fun ht=>hw ?_)
  unfold Region.wanted
  unfold rS at hg
  cases PD:o.guard with
  |none=>rfl
  |some jw=>
   obtain⟨j,want⟩:=jw
   rw[PD] at hg
   simp only at hg ⊢
   split at hg
   ·rename_i d EF
    split at hg
    ·cases hg
     have:=ht (d,want) List.mem_cons_self
     simp only at this
     simp[yielded,EF,this]
    ·cases hg
   ·cases hg
end Go.Vc
end

section
set_option linter.unusedVariables false
set_option linter.unusedSimpArgs false
namespace Go.Vc
open Go
variable {P:Program} {X:Ctx} {w0:World} {foot:gM} {base:Mem} {S:St} {E:Env} {a:Act} {w:World} {ctx:c9}
theorem JS {c:Rec} {cs:List Rec} (h:∀p∈pM (c::cs),p):(∀p∈c.conds,p)/\∀p∈pM cs,p:=by
 simp only[pM,List.flatMap_cons,List.mem_append] at h
 exact⟨fun p hp=>h p (.inl hp),fun p hp=>h p (.inr hp)⟩
theorem Dr (hT:dx P X.aA) (hK:∀f dD,X.dD f=some dD->mB P f dD) {ops:Array Oper} {Q:Exit->Act->World->Prop}:
  ∀{l:List Oper} {k:Nat} {S:St} {E:Env} {a:Act} {w:World} {cs:List Rec} {S':St},(∀j,l[j]? =ops[k+j]?)->u4 X ops l S=some (cs,S')->ek w0 foot base S E a w->(∀p∈pM cs,p)->
  (∀E' a' w',ek w0 foot base S' E' a' w'->Q .normal a' w')->wpOps P ops Q (List.range' k l.length) a w
 |[],k,S,E,a,w,cs,S',_,hr,h,_,hQ=>by
  cases hr
  exact hQ _ _ _ h
 |o::l,k,S,E,a,w,cs,S',hl,hr,h,hc,hQ=>by
  unfold u4 at hr
  split at hr
  ·cases hr
  ·rename_i c hs
   split at hr
   ·cases hr
   ·rename_i YD Cl Nj
    cases hr
    obtain⟨h1,h2,h3,h4,h5,h6,_,_⟩:=oX hs
    obtain⟨c1,c2⟩:=JS hc
    have hk:ops[k]? =some o:=by have:=hl 0;simpa using this.symm
    simp only[List.length_cons,List.range'_succ]
    rw[wpOps_cons]
    refine Fc hT hK h hk h1 h2 (nz h3) (nj h4) h5 (fun p hp=>c1 _ (by rw[h6];exact List.mem_map_of_mem hp)) fun E' a' w' h'=> ?_
    exact Dr hT hK (fun j=>by have:=hl (j+1);simpa [Nat.add_assoc,Nat.add_comm 1 j] using this) Nj h' c2 hQ
def b9.ws (o:Oper) (r:b9):List Loc:=
 (match o.dst with
  |none=>[]
  |some d=>[.slot d])++(r.cn.map (fun p=> .bp p.1)++r.del.map .bp)
def pr:List Loc->Loc->Bool
 |[],_=>false
 |m::l,n=>match m.beq n with
  |true=>true
  |false=>pr l n
def meet:List Loc->List Loc->Bool
 |[],_=>false
 |m::l,k=>match pr k m with
  |true=>true
  |false=>meet l k
theorem vB:∀{l:List Loc} {n:Loc},pr l n=true↔n∈l
 |[],n=>by simp[pr]
 |m::l,n=>by
  unfold pr
  split
  ·rename_i h
   rw[Loc.beq_eq h]
   simp
  ·rename_i h
   have:n≠m:=fun e=>by rw[e,Loc.beq_refl] at h;cases h
   rw[vB]
   simp[this]
theorem BP:∀{l k:List Loc},meet l k=false->∀n∈l,n∉k
 |[],_,_,n,hn=>by cases hn
 |m::l,k,h,n,hn=>by
  unfold meet at h
  split at h
  ·cases h
  ·rename_i hm
   rcases List.mem_cons.1 hn with rfl|hn
   ·intro hk;rw[vB.2 hk] at hm;cases hm
   ·exact BP h n hn
def rM (o:Oper):List Nat:=(o.after.toList.filter (Region.binds .any ·)).map (·.on)
def dd:List Nat->List Nat->List Nat
 |[],acc=>acc
 |n::l,acc=>match has acc n with
  |true=>dd l acc
  |false=>dd l (n::acc)
theorem GU:∀{l acc:List Nat} {p:Nat},p∈dd l acc->p∈l\/p∈acc
 |[],acc,p,h=> .inr h
 |n::l,acc,p,h=>by
  unfold dd at h
  split at h
  ·exact(GU h).imp_left (List.mem_cons_of_mem _)
  ·rcases GU h with h|h
   ·exact .inl (List.mem_cons_of_mem _ h)
   ·rcases List.mem_cons.1 h with rfl|h
    ·exact .inl List.mem_cons_self
    ·exact .inr h
def w9:List Oper->List (List Nat)->List (List Nat)
 |[],acc=>acc
 |o::l,acc=>w9 l (acc++[dd ((rM o).flatMap fun p=>p::acc.getD p []) []])
def w8 (recs:List Rec) (an:List (List Nat)):Nat->Bool
 |0=>true
 |j+1=>w8 recs an j&&(List.range j).all fun i=>
  has (an.getD j []) i||match recs[i]?,recs[j]? with
   |some c,some d=> !(meet (b9.ws c.o c.r) (d.rs++b9.ws d.o d.r))&& !(meet (b9.ws d.o d.r) c.rs)
   |_,_=>true
def uu (recs:List Rec):Nat->Bool
 |0=>true
 |j+1=>uu recs j&&(List.range j).all fun i=>match recs[i]?,recs[j]? with
   |some c,some d=>(match d.o.dst with
    |none=>true
    |some t=> !mentions c.ctx t)
   |_,_=>true
def uF (ops:List Oper):Nat->Bool
 |0=>true
 |i+1=>uF ops i&&match ops[i]? with
  |some o=>(rM o).all (Nat.blt · i)
  |none=>true
def clean:List (Nat×(c9×SV))->Bool
 |[]=>true
 |(_,[],_)::l=>clean l
 |_=>false
def GS (X:Ctx) (ops:Array Oper) (S:St):Option (List Rec×St):=
 match u4 X ops ops.toList S with
 |none=>none
 |some (recs,S')=>match uF ops.toList ops.size&&(clean S.sl&&(uu recs ops.size&&w8 recs (w9 ops.toList []) ops.size)) with
  |true=>some (recs,S')
  |false=>none
def k9 (L:Nat->Bool):List Rec->St->St
 |[],S=>S
 |c::cs,S=>k9 (fun j=>L (j+1)) cs (match L 0 with
  |true=>fS S c.o c.ctx c.r
  |false=>S)
theorem gW.refl (S:St) (l:Loc):gW S S l:=by cases l<;>rfl
theorem gW.symm {S S':St} {l:Loc} (h:gW S S' l):gW S' S l:=by cases l<;>exact Eq.symm h
theorem gW.trans {S S' Cl:St} {l:Loc} (h:gW S S' l) (k:gW S' Cl l):gW S Cl l:=by cases l<;>exact Eq.trans k h
theorem Jm {r:b9} {b:Nat} (h: .bp b∉r.cn.map (fun p=>Loc.bp p.1)++r.del.map Loc.bp) (bl:List (Nat×c7)):find (gU r bl) b=find bl b:=by
 simp only[List.mem_append,List.mem_map,not_or,not_exists,not_and,Loc.bp.injEq] at h
 have h1:∀(l:List (Nat×c7)) (bl:List (Nat×c7)),(∀p∈l,p.1≠b)->find (l.foldl (fun l p=>put l p.1 p.2) bl) b=find bl b:=by
  intro l
  induction l with
  |nil=>intro bl _;rfl
  |cons p l ih=>
   intro bl hp
   simp only[List.foldl_cons]
   rw[ih _ fun q hq=>hp q (List.mem_cons_of_mem _ hq),bn _ _ _ _ (hp p List.mem_cons_self)]
 have h2:∀(l:List Nat) (bl:List (Nat×c7)),(∀p∈l,p≠b)->find (l.foldl rem bl) b=find bl b:=by
  intro l
  induction l with
  |nil=>intro bl _;rfl
  |cons p l ih=>
   intro bl hp
   simp only[List.foldl_cons]
   rw[ih _ fun q hq=>hp q (List.mem_cons_of_mem _ hq),hU _ _ _ (hp p List.mem_cons_self)]
 unfold gU
 rw[h1 _ _ fun p hp=>h.1 p hp,h2 _ _ fun p hp=>h.2 p hp]
theorem JX {r:b9} {b:Nat} (h: .bp b∈r.cn.map (fun p=>Loc.bp p.1)++r.del.map Loc.bp) (bl NX:List (Nat×c7)):find (gU r bl) b=find (gU r NX) b:=by
 have h1:∀(l:List (Nat×c7)) (bl NX:List (Nat×c7)),(find bl b=find NX b\/∃p∈l,p.1=b)->find (l.foldl (fun l p=>put l p.1 p.2) bl) b=find (l.foldl (fun l p=>put l p.1 p.2) NX) b:=by
  intro l
  induction l with
  |nil=>intro bl NX hp;rcases hp with hp|⟨p,hp,_⟩;exact hp;cases hp
  |cons p l ih=>
   intro bl NX hp
   simp only[List.foldl_cons]
   refine ih _ _ ?_
   by_cases hb:p.1=b
   ·exact .inl (by rw[<-hb,bP,bP])
   ·rcases hp with hp|⟨q,hq,JK⟩
    ·exact .inl (by rw[bn _ _ _ _ hb,bn _ _ _ _ hb,hp])
    ·rcases List.mem_cons.1 hq with rfl|hq
     ·exact absurd JK hb
     ·exact .inr ⟨q,hq,JK⟩
 have h2:∀(l:List Nat) (bl:List (Nat×c7)),(find bl b=none\/b∈l)->find (l.foldl rem bl) b=none:=by
  intro l
  induction l with
  |nil=>intro bl hp;rcases hp with hp|hp;exact hp;cases hp
  |cons p l ih=>
   intro bl hp
   simp only[List.foldl_cons]
   refine ih _ ?_
   by_cases hb:p=b
   ·exact .inl (by rw[<-hb,m8])
   ·rcases hp with hp|hp
    ·exact .inl (by rw[hU _ _ _ hb];exact hp)
    ·rcases List.mem_cons.1 hp with rfl|hp
     ·exact absurd rfl hb
     ·exact .inr hp
 unfold gU
 refine h1 _ _ _ ?_
 by_cases hm:∃p∈r.cn,p.1=b
 ·exact .inr hm
 ·refine .inl ?_
  rcases List.mem_append.1 h with h|h
  ·obtain⟨p,hp,he⟩:=List.mem_map.1 h
   exact absurd ⟨p,hp,by simpa using he⟩ hm
  ·have:b∈r.del:=by
    obtain⟨p,hp,he⟩:=List.mem_map.1 h
    simp only[Loc.bp.injEq] at he
    exact he▸hp
   rw[h2 _ _ (.inr this),h2 _ _ (.inr this)]
theorem xj {o:Oper} {r:b9} {l:Loc} (h:l∉b9.ws o r):gW S (fS S o ctx r) l:=by
 cases l with
 |slot n=>
  show find (fS S o ctx r).sl n=find S.sl n
  unfold fS
  simp only
  cases ho:o.dst with
  |none=>rfl
  |some d=>
   have hn:d≠n:=fun e=>h (by simp[b9.ws,ho,e])
   simp only
   split
   ·exact bn _ _ _ _ hn
   ·exact hU _ _ _ hn
 |bp b=>
  show find (gU r S.bl) b=find S.bl b
  exact Jm (fun hm=>h (by unfold b9.ws;exact List.mem_append_right _ hm)) _
theorem J2 {S':St} {o:Oper} {r:b9} {l:Loc} (h:l∈b9.ws o r):gW (fS S o ctx r) (fS S' o ctx r) l:=by
 cases l with
 |slot n=>
  show find (fS S' o ctx r).sl n=find (fS S o ctx r).sl n
  unfold b9.ws at h
  unfold fS
  simp only
  cases ho:o.dst with
  |none=>rw[ho] at h;simp at h
  |some d=>
   rw[ho] at h
   have hn:n=d:=by simpa using h
   subst hn
   simp only
   split
   ·rw[bP,bP]
   ·rw[m8,m8]
 |bp b=>
  refine JX ?_ _ _
  unfold b9.ws at h
  rcases List.mem_append.1 h with h|h
  ·split at h
   ·cases h
   ·simp at h
  ·exact h
theorem uw:∀{recs:List Rec} {L M:Nat->Bool} {S S':St} {l:Loc},gW S S' l->(∀i c,recs[i]? =some c->l∈b9.ws c.o c.r->L i=M i)->gW (k9 L recs S) (k9 M recs S') l
 |[],_,_,_,_,_,h,_=>h
 |c::cs,L,M,S,S',l,h,hw=>by
  refine uw (recs:=cs) ?_ fun i d hi hl=>hw (i+1) d (by simpa using hi) hl
  by_cases hl:l∈b9.ws c.o c.r
  ·rw[<-hw 0 c rfl hl]
   split
   ·exact J2 hl
   ·exact h
  ·have h1:∀(b:Bool) (S:St),gW S (match b with |true=>fS S c.o c.ctx c.r|false=>S) l:=fun b S=>by
    cases b
    ·exact .refl _ _
    ·exact xj hl
   exact((h1 (L 0) S).symm.trans h).trans (h1 (M 0) S')
theorem J8:∀{recs:List Rec} {L:Nat->Bool} {S S':St} {l:Loc} {i:Nat} {c:Rec},recs[i]? =some c->L i=true->l∈b9.ws c.o c.r->(∀j d,i<j->recs[j]? =some d->l∈b9.ws d.o d.r->L j=false)->
  gW (fS S' c.o c.ctx c.r) (k9 L recs S) l
 |[],_,_,_,_,i,_,h,_,_,_=>by simp at h
 |d::cs,L,S,S',l,0,c,h,hL,hl,hj=>by
  simp only[List.getElem?_cons_zero,Option.some.injEq] at h
  subst h
  unfold k9
  rw[hL]
  have h1:gW (k9 (fun _=>false) cs (fS S d.o d.ctx d.r)) (k9 (fun j=>L (j+1)) cs (fS S d.o d.ctx d.r)) l:=
   uw (.refl _ _) fun i e hi PF=>(hj (i+1) e (by omega) (by simpa using hi) PF).symm
  have h2:∀(cs:List Rec) (S:St),k9 (fun _=>false) cs S=S:=by
   intro cs
   induction cs with
   |nil=>intro S;rfl
   |cons c cs ih=>intro S;exact ih S
  rw[h2] at h1
  exact(J2 hl).trans h1
 |d::cs,L,S,S',l,i+1,c,h,hL,hl,hj=>
  J8 (recs:=cs) (L:=fun j=>L (j+1)) (by simpa using h) hL hl fun j e k6 he PF=>hj (j+1) e (by omega) (by simpa using he) PF
theorem lP:∀{recs:List Rec} {L:Nat->Bool} {S:St} {id:Nat},id∈(k9 L recs S).used↔id∈S.used\/∃i c,recs[i]? =some c/\L i=true/\id∈c.r.new
 |[],L,S,id=>by simp[k9]
 |c::cs,L,S,id=>by
  unfold k9
  rw[lP]
  constructor
  ·rintro(h|⟨i,d,h1,h2,h3⟩)
   ·split at h
    ·rename_i hL
     rcases List.mem_append.1 h with h|h
     ·exact .inr ⟨0,c,rfl,hL,h⟩
     ·exact .inl h
    ·exact .inl h
   ·exact .inr ⟨i+1,d,by simpa using h1,h2,h3⟩
  ·rintro(h|⟨i,d,h1,h2,h3⟩)
   ·refine .inl ?_
    split
    ·exact List.mem_append_right _ h
    ·exact h
   ·cases i with
    |zero=>
     simp only[List.getElem?_cons_zero,Option.some.injEq] at h1
     subst h1
     refine .inl ?_
     rw[h2]
     exact List.mem_append_left _ h3
    |succ i=>exact .inr ⟨i,d,by simpa using h1,h2,h3⟩
theorem Ec:∀{recs:List Rec} {L:Nat->Bool} {S:St},(k9 L recs S).n=S.n
 |[],_,_=>rfl
 |c::cs,L,S=>by unfold k9;rw[Ec];split<;>rfl
theorem yO:∀{recs:List Rec} {L:Nat->Bool} {S:St},(k9 L recs S).oJ=S.oJ
 |[],_,_=>rfl
 |c::cs,L,S=>by unfold k9;rw[yO];split<;>rfl
theorem Hd:∀{recs:List Rec} {L:Nat->Bool} {S:St} {n:Nat} {ts:c9} {v:SV},find (k9 L recs S).sl n=some (ts,v)->find S.sl n=some (ts,v)\/∃i c,recs[i]? =some c/\L i=true/\ts=c.ctx
 |[],L,S,n,ts,v,h=> .inl h
 |c::cs,L,S,n,ts,v,h=>by
  unfold k9 at h
  rcases Hd h with h|⟨i,d,h1,h2,h3⟩
  ·split at h
   ·rename_i hL
    by_cases hn:Loc.slot n∈b9.ws c.o c.r
    ·unfold fS at h
     simp only at h
     unfold b9.ws at hn
     cases ho:c.o.dst with
     |none=>rw[ho] at h;exact .inl h
     |some d=>
      rw[ho] at h
      simp only at h
      split at h
      ·by_cases hnd:n=d
       ·subst hnd
        rw[bP] at h
        cases h
        exact .inr ⟨0,c,rfl,hL,rfl⟩
       ·rw[bn _ _ _ _ (Ne.symm hnd)] at h
        exact .inl h
      ·exact .inl (gp h).1
    ·have:=xj (S:=S) (ctx:=c.ctx) hn
     have:find (fS S c.o c.ctx c.r).sl n=find S.sl n:=this
     rw[this] at h
     exact .inl h
   ·exact .inl h
  ·exact .inr ⟨i+1,d,by simpa using h1,h2,h3⟩
theorem EK {ops:Array Oper}:∀{l:List Oper} {S:St} {recs:List Rec} {S':St},u4 X ops l S=some (recs,S')->
  recs.length=l.length/\S'=k9 (fun _=>true) recs S/\∀i o,l[i]? =some o->∃c,recs[i]? =some c/\GA X ops (k9 (fun j=>decide (j<i)) recs S) o=some c
 |[],S,recs,S',h=>by
  cases h
  exact⟨rfl,rfl,fun i o hi=>by simp at hi⟩
 |o::l,S,recs,S',h=>by
  unfold u4 at h
  split at h
  ·cases h
  ·rename_i c hc
   split at h
   ·cases h
   ·rename_i cs Cl mF
    cases h
    obtain⟨h1,h2,h3⟩:=EK mF
    have hco:=(oX hc).2.2.2.2.2.2.1
    refine⟨by simp[h1],?_,fun i o' hi=> ?_⟩
    ·rw[h2,<-hco]
     rfl
    ·cases i with
     |zero=>
      simp only[List.getElem?_cons_zero,Option.some.injEq] at hi
      subst hi
      have h2:∀(cs:List Rec) (S:St),k9 (fun j=>decide (j<0)) cs S=S:=by
       intro cs S
       have:(fun j=>decide (j<0))=fun _=>false:=by funext j;simp
       rw[this]
       induction cs generalizing S with
       |nil=>rfl
       |cons c cs ih=>exact ih S
      exact⟨c,rfl,by rw[h2];exact hc⟩
     |succ i=>
      obtain⟨d,h4,h5⟩:=h3 i o' (by simpa using hi)
      refine⟨d,by simpa using h4,?_⟩
      have e:k9 (fun j=>decide (j<i+1)) (c::cs) S=k9 (fun j=>decide (j<i)) cs (fS S o c.ctx c.r):=by
       show k9 (fun j=>decide (j+1<i+1)) cs (fS S c.o c.ctx c.r)=_
       rw[hco]
       congr 1
       funext j
       simp
      rw[e]
      exact h5
end Go.Vc
end

section
set_option linter.unusedVariables false
set_option linter.unusedSimpArgs false
namespace Go.Vc
open Go
variable {P:Program} {X:Ctx} {w0:World} {foot:gM} {base:Mem} {S:St} {E:Env} {a:Act} {w:World} {ctx:c9}
theorem ek.congr {S':St} (h:ek w0 foot base S E a w) (hs:∀n,find S'.sl n=find S.sl n) (hb:∀b,find S'.bl b=find S.bl b) (hu:∀i,i∈S.used->i∈S'.used) (hn:S'.n=S.n) (hp:S'.oJ=S.oJ):ek w0 foot base S' E a w:=
 {toHRel:=h.toHRel.congr (fun id B hf=>by rwa [hb] at hf) hu
  ib:=fun n ts v hf ht=>h.ib n ts v (by rwa [hs] at hf) ht
  size:=hn▸h.size
  defers:=h.defers
  pins:=fun n p h1=>⟨hp▸(h.pins n p h1).1,(h.pins n p h1).2⟩
  dY:=fun n ts v hf ht=>h.dY n ts v (by rwa [hs] at hf) ht}
theorem oU {recs:List Rec} {an:List (List Nat)}:∀{n:Nat},w8 recs an n=true->∀i j c d,i<j->j<n->recs[i]? =some c->recs[j]? =some d->
  i∈an.getD j []\/((∀l∈b9.ws c.o c.r,l∉d.rs++b9.ws d.o d.r)/\∀l∈b9.ws d.o d.r,l∉c.rs)
 |0,_,i,j,c,d,k6,hj,_,_=>by omega
 |n+1,h,i,j,c,d,k6,hj,hc,hd=>by
  simp only[w8,Bool.and_eq_true,List.all_eq_true] at h
  by_cases hn:j=n
  ·subst hn
   have:=h.2 i (List.mem_range.2 k6)
   rw[hc,hd] at this
   simp only[Bool.or_eq_true,Bool.and_eq_true,Bool.not_eq_true'] at this
   rcases this with h1|⟨h1,h2⟩
   ·exact .inl (sJ.1 h1)
   ·exact .inr ⟨BP h1,BP h2⟩
  ·exact oU h.1 i j c d k6 (by omega) hc hd
theorem yf {recs:List Rec}:∀{n:Nat},uu recs n=true->∀i j c d t,i<j->j<n->recs[i]? =some c->recs[j]? =some d->d.o.dst=some t->∀x∈c.ctx,x.1≠t
 |0,_,i,j,c,d,t,k6,hj,_,_,_=>by omega
 |n+1,h,i,j,c,d,t,k6,hj,hc,hd,ht=>by
  simp only[uu,Bool.and_eq_true,List.all_eq_true] at h
  by_cases hn:j=n
  ·subst hn
   have:=h.2 i (List.mem_range.2 k6)
   rw[hc,hd] at this
   simp only[ht,Bool.not_eq_true'] at this
   exact qO this
  ·exact yf h.1 i j c d t k6 (by omega) hc hd ht
theorem sd {ops:List Oper}:∀{n:Nat},uF ops n=true->∀i o,i<n->ops[i]? =some o->∀p∈rM o,p<i
 |0,_,i,o,hi,_=>by omega
 |n+1,h,i,o,hi,ho=>by
  simp only[uF,Bool.and_eq_true] at h
  by_cases hn:i=n
  ·subst hn
   rw[ho] at h
   intro p hp
   have:=List.all_eq_true.1 h.2 p hp
   exact Nat.le_of_ble_eq_true this
  ·exact sd h.1 i o (by omega) ho
theorem vP:∀{l:List (Nat×(c9×SV))},clean l=true->∀n ts v,find l n=some (ts,v)->ts=[]
 |[],_,n,ts,v,h=>by cases h
 |(m,QN,v')::l,h,n,ts,v,hf=>by
  unfold clean at h
  split at h
  ·rename_i heq;cases heq
  ·rename_i l' heq
   cases heq
   unfold find at hf
   split at hf
   ·cases hf;rfl
   ·exact vP h n ts v hf
  ·cases h
theorem EU:∀{l:List Oper} {acc:List (List Nat)} (j:Nat),(w9 l acc).getD j []=if j<acc.length then acc.getD j [] else
  match l[j - acc.length]? with
  |some o=>dd ((rM o).flatMap fun p=>p::((w9 l acc).take j).getD p []) []
  |none=>[]
 |[],acc,j=>by
  simp only[w9]
  split
  ·rfl
  ·rename_i h
   rw[List.getD_eq_getElem?_getD,List.getElem?_eq_none (by omega)]
   simp
 |o::l,acc,j=>by
  simp only[w9]
  rw[EU (l:=l)]
  simp only[List.length_append,List.length_singleton]
  have pj:∀(l:List Oper) (acc:List (List Nat)),(w9 l acc).take acc.length=acc:=by
   intro l
   induction l with
   |nil=>intro acc;simp[w9]
   |cons o l ih=>
    intro acc
    have:=ih (acc++[dd ((rM o).flatMap fun p=>p::acc.getD p []) []])
    simp only[List.length_append,List.length_singleton] at this
    simp only[w9]
    have h2:=congrArg (List.take acc.length) this
    rw[List.take_take,Nat.min_eq_left (by omega)] at h2
    rw[h2]
    simp
  split
  ·rename_i hj
   by_cases h2:j<acc.length
   ·rw[if_pos h2,List.getD_eq_getElem?_getD,List.getElem?_append_left h2,<-List.getD_eq_getElem?_getD]
   ·have Nl:j=acc.length:=by omega
    subst Nl
    rw[if_neg h2]
    simp only[Nat.sub_self,List.getElem?_cons_zero]
    rw[List.getD_eq_getElem?_getD,List.getElem?_append_right (by omega)]
    simp only[Nat.sub_self,List.getElem?_cons_zero,Option.getD_some]
    have:=pj (o::l) acc
    simp only[w9] at this
    rw[this]
  ·rename_i hj
   rw[if_neg (by omega)]
   have e:j - acc.length=(j - (acc.length+1))+1:=by omega
   rw[e,List.getElem?_cons_succ]
theorem N0 {ops:List Oper} {L:Nat->Bool} (hp:uF ops ops.length=true) (mr:∀i o,ops[i]? =some o->L i=true->∀p∈rM o,L p=true):
  ∀(i:Nat),L i=true->∀p∈(w9 ops []).getD i [],L p=true:=by
 intro i
 induction i using Nat.strongRecOn with
 |_ i ih=>
  intro hL p hm
  rw[EU] at hm
  simp only[List.length_nil,Nat.not_lt_zero,if_false,Nat.sub_zero] at hm
  split at hm
  ·rename_i o ho
   obtain⟨q,hq,hm⟩:=List.mem_flatMap.1 ((GU hm).resolve_right (by simp))
   have Yj:=mr i o ho hL q hq
   have hi:=(List.getElem?_eq_some_iff.1 ho).1
   have hqi:=sd hp i o hi ho q hq
   rcases List.mem_cons.1 hm with rfl|hm
   ·exact Yj
   ·rw[List.getD_eq_getElem?_getD,List.getElem?_take_of_lt hqi,<-List.getD_eq_getElem?_getD] at hm
    exact ih q hqi Yj p hm
  ·cases hm
def pU (L:Nat->Bool) (i:Nat):Nat->Bool:=fun j=>L j||decide (j=i)
theorem Sr (hT:dx P X.aA) (hK:∀f dD,X.dD f=some dD->mB P f dD) {ops:Array Oper} {recs:List Rec} {S':St} (Tq:u4 X ops ops.toList S=some (recs,S')) (hp:uF ops.toList ops.size=true) (mr:clean S.sl=true)
  (htg:uu recs ops.size=true) (PO:w8 recs (w9 ops.toList []) ops.size=true) (cr:∀p∈pM recs,p) {L:Nat->Bool} (hL:∀i o,ops[i]? =some o->L i=true->∀p∈rM o,L p=true)
  {i:Nat} (hi:i<ops.size) (PQ:L i=false) (pj:∀o,ops[i]? =some o->∀p∈rM o,L p=true) (h:ek w0 foot base (k9 L recs S) E a w) {Q:Exit->Act->World->Prop} {K:Act->World->Prop}
  (Ip:∀E' a' w',ek w0 foot base (k9 (pU L i) recs S) E' a' w'->K a' w'):wpOp P ops Q i K a w:=by
 obtain⟨hlen,Yh,mZ⟩:=EK Tq
 have ho:ops[i]? =some ops[i]:=Array.getElem?_eq_getElem hi
 have ED:∀{j:Nat} (hj:j<ops.size),ops.toList[j]? =some ops[j]:=fun hj=>by simp
 obtain⟨c,hc,zt⟩:=mZ i ops[i] (ED hi)
 obtain⟨h1,h2,h3,h4,h5,h6,h7,h8⟩:=oX zt
 have dn:uF ops.toList ops.toList.length=true:=by simpa using hp
 have hLl:∀i o,ops.toList[i]? =some o->L i=true->∀p∈rM o,L p=true:=fun i o ho=>hL i o (by simpa using ho)
 have TA:=N0 dn hLl
 have aeO:∀p∈(w9 ops.toList []).getD i [],L p=true:=by
  intro p hm
  rw[EU] at hm
  simp only[List.length_nil,Nat.not_lt_zero,if_false,Nat.sub_zero] at hm
  split at hm
  ·rename_i o rQ
   obtain⟨q,hq,hm⟩:=List.mem_flatMap.1 ((GU hm).resolve_right (by simp))
   have Yj:=pj o (by simpa using rQ) q hq
   have hqi:=sd hp i o hi rQ q hq
   rcases List.mem_cons.1 hm with rfl|hm
   ·exact Yj
   ·rw[List.getD_eq_getElem?_getD,List.getElem?_take_of_lt hqi,<-List.getD_eq_getElem?_getD] at hm
    exact TA q Yj p hm
  ·cases hm
 have PG:∀{j:Nat} {d:Rec},recs[j]? =some d->j<ops.size:=fun {j d} hd=>by
  have:=(List.getElem?_eq_some_iff.1 hd).1
  rw[hlen] at this
  simpa using this
 have hwr:∀l∈c.rs,∀j d,recs[j]? =some d->l∈b9.ws d.o d.r->L j=decide (j<i):=fun l hl j d hd JL=>by
  rcases Nat.lt_trichotomy j i with uT|uT|uT
  ·rw[decide_eq_true uT]
   rcases oU PO j i d c uT hi hd hc with hm|⟨hm,_⟩
   ·exact aeO j hm
   ·exact absurd (List.mem_append_left _ hl) (hm l JL)
  ·subst uT;rw[PQ];simp
  ·rw[decide_eq_false (by omega)]
   rcases oU PO i j c d uT (PG hd) hc hd with hm|⟨_,hm⟩
   ·cases A0:L j with
    |false=>rfl
    |true=>have:=TA j A0 i hm;rw[PQ] at this;cases this
   ·exact absurd hl (hm l JL)
 have TB:∀l∈c.rs,gW (k9 (fun j=>decide (j<i)) recs S) (k9 L recs S) l:=fun l hl=>
  uw (.refl _ _) fun j d hd JL=>(hwr l hl j d hd JL).symm
 have Yd:∀t∈c.ctx,find (k9 L recs S).sl t.1=find (k9 (fun j=>decide (j<i)) recs S).sl t.1:=fun t ht=>
  TB (.slot t.1) (by rw[h8];exact List.mem_append_left _ (List.mem_map_of_mem ht))
 have hg:rS (k9 L recs S) ops ops[i]=some c.ctx:=by
  unfold rS at h1 ⊢
  cases PD:ops[i].guard with
  |none=>rw[PD] at h1;exact h1
  |some jw=>
   obtain⟨j,want⟩:=jw
   rw[PD] at h1
   simp only at h1 ⊢
   cases hd:(ops[j]?).bind (·.dst) with
   |none=>rw[hd] at h1;cases h1
   |some d=>
    rw[hd] at h1
    simp only at h1 ⊢
    cases hf:find (k9 (fun j=>decide (j<i)) recs S).sl d with
    |none=>rw[hf] at h1;cases h1
    |some tv=>
     obtain⟨tags,v⟩:=tv
     rw[hf] at h1
     have hcc:c.ctx=(d,want)::tags:=(Option.some.inj h1).symm
     have:=Yd (d,want) (by rw[hcc];exact List.mem_cons_self)
     simp only at this
     rw[this,hf,hcc]
 have dE:(fH X ops[i]).run (k9 L recs S) c.ctx=some c.r:=by
  rw[<-h2]
  exact RM.BE fun l hl=>TB l (by rw[h8];exact List.mem_append_right _ hl)
 have ad5:∀(ts:c9) (p:Prop),(∀t∈ts,t∈c.ctx)->xf (k9 L recs S) ts p=xf (k9 (fun j=>decide (j<i)) recs S) ts p:=by
  intro ts
  induction ts with
  |nil=>intro p _;rfl
  |cons t ts ih=>
   intro p hts
   obtain⟨n,want⟩:=t
   have e:DL (k9 L recs S) n=DL (k9 (fun j=>decide (j<i)) recs S) n:=by
    unfold DL
    rw[Yd (n,want) (hts _ List.mem_cons_self)]
   unfold xf
   rw[e]
   exact ih _ fun t ht=>hts t (List.mem_cons_of_mem _ ht)
 have aeu:c∈recs:=List.mem_of_getElem? hc
 have aaN:∀q∈c.r.conds,xf (k9 L recs S) c.ctx q:=fun q hq=>by
  rw[ad5 _ _ fun t ht=>ht]
  refine cr _ ?_
  exact List.mem_flatMap.2 ⟨c,aeu,by rw[h6];exact List.mem_map_of_mem hq⟩
 have qn:∀id∈c.r.new,id∉(k9 L recs S).used:=fun id uU hu=>by
  rcases lP.1 hu with hu|⟨j,d,hd,A0,KJ⟩
  ·exact nj h4 id uU (lP.2 (.inl hu))
  ·rcases Nat.lt_trichotomy j i with uT|uT|uT
   ·exact nj h4 id uU (lP.2 (.inr ⟨j,d,hd,by simpa using uT,KJ⟩))
   ·subst uT;rw[PQ] at A0;cases A0
   ·have hjs:=PG hd
    obtain⟨d',EF,Nh⟩:=mZ j ops[j] (ED hjs)
    rw[hd] at EF
    cases EF
    have:=(oX Nh).2.2.2.1
    exact nj this id KJ (lP.2 (.inr ⟨i,c,hc,by simpa using uT,uU⟩))
 have aiV:Jv (k9 L recs S) c.ctx ops[i]:=fun t ht=>by
  obtain⟨g1,g2,g3⟩:=nz h3 t ht
  refine⟨by rw[Ec] at g1 ⊢;exact g1,fun n ts v hf x hx=> ?_,g3⟩
  rcases Hd hf with hf|⟨j,d,hd,A0,rfl⟩
  ·rw[vP mr n ts v hf] at hx;cases hx
  ·rcases Nat.lt_trichotomy j i with uT|uT|uT
   ·exact yf htg j i d c t uT hi hd hc (by rw[h7];exact ht) x hx
   ·subst uT;rw[PQ] at A0;cases A0
   ·intro e
    have JL:Loc.slot t∈d.rs:=by
     have hjs:=PG hd
     obtain⟨d',EF,Nh⟩:=mZ j ops[j] (ED hjs)
     rw[hd] at EF
     cases EF
     rw[(oX Nh).2.2.2.2.2.2.2]
     exact List.mem_append_left _ (List.mem_map.2 ⟨x,hx,by rw[e]⟩)
    have R2:Loc.slot t∈b9.ws c.o c.r:=by
     rw[h7];unfold b9.ws;rw[ht];simp
    rcases oU PO i j c d uT (PG hd) hc hd with hm|⟨hm,_⟩
    ·have:=TA j A0 i hm;rw[PQ] at this;cases this
    ·exact hm _ R2 (List.mem_append_left _ JL)
 refine Fc hT hK h ho hg dE aiV qn h5 aaN fun E' a' w' h'=>Ip E' a' w' ?_
 have wX:∀l,gW (fS (k9 L recs S) ops[i] c.ctx c.r) (k9 (pU L i) recs S) l:=fun l=>by
  rw[<-h7]
  by_cases hl:l∈b9.ws c.o c.r
  ·refine J8 hc (by simp[pU]) hl fun j d uT hd JL=> ?_
   have kz:j≠i:=by omega
   simp only[pU,kz,decide_false,Bool.or_false]
   rcases oU PO i j c d uT (PG hd) hc hd with hm|⟨hm,_⟩
   ·cases A0:L j with
    |false=>rfl
    |true=>have:=TA j A0 i hm;rw[PQ] at this;cases this
   ·exact absurd (List.mem_append_right _ JL) (hm l hl)
  ·refine(xj hl).symm.trans (uw (.refl _ _) fun j d hd JL=> ?_)
   have kz:j≠i:=fun e=>by subst e;rw[hc] at hd;cases hd;exact hl JL
   simp[pU,kz]
 refine h'.congr (fun n=>wX (.slot n)) (fun b=>wX (.bp b)) (fun id uU=> ?_) (by rw[Ec];show S.n=(k9 L recs S).n;rw[Ec]) (by rw[yO];show S.oJ=(k9 L recs S).oJ;rw[yO])
 rcases List.mem_append.1 uU with uU|uU
 ·exact lP.2 (.inr ⟨i,c,hc,by simp[pU],uU⟩)
 ·rcases lP.1 uU with hu|⟨j,d,hd,A0,KJ⟩
  ·exact lP.2 (.inl hu)
  ·exact lP.2 (.inr ⟨j,d,hd,by simp[pU,A0],KJ⟩)
theorem rU {eI:Array Bool} {i j:Nat} (hi:i<eI.size):(eI.setIfInBounds i true).getD j false=pU (fun k=>eI.getD k false) i j:=by
 unfold pU
 simp only[Array.getD_eq_getD_getElem?,Array.getElem?_setIfInBounds]
 by_cases hj:i=j
 ·subst hj;simp[hi]
 ·simp[hj,Ne.symm hj]
theorem mem_ready {ops:Array Oper} {eI:Array Bool} (hs:eI.size=ops.size) {i:Nat}:i∈Region.ready .any ops eI↔∃o,ops[i]? =some o/\eI.getD i false=false/\∀p∈rM o,eI.getD p false=true:=by
 unfold Region.ready
 simp only[List.mem_filter,List.mem_range,Bool.and_eq_true,Bool.not_eq_true']
 constructor
 ·rintro⟨hi,h1,h2⟩
  refine⟨ops[i],Array.getElem?_eq_getElem hi,?_,?_⟩
  ·rw[Array.getD_eq_getD_getElem?] at h1 ⊢
   rw[Array.getElem?_eq_getElem (by omega)] at h1 ⊢
   exact h1
  ·rw[Array.getElem?_eq_getElem hi] at h2
   simp only[Option.map_some,Option.getD_some] at h2
   intro p hp
   unfold rM at hp
   obtain⟨e,he,rfl⟩:=List.mem_map.1 hp
   obtain⟨he1,he2⟩:=List.mem_filter.1 he
   have:=Array.all_eq_true_iff_forall_mem.1 h2 e (by simpa using he1)
   rw[he2] at this
   simpa using this
 ·rintro⟨o,ho,h1,h2⟩
  have hi:=(Array.getElem?_eq_some_iff.1 ho).1
  refine⟨hi,?_,?_⟩
  ·rw[Array.getD_eq_getD_getElem?] at h1 ⊢
   rw[Array.getElem?_eq_getElem (by omega)] at h1 ⊢
   exact h1
  ·rw[ho]
   simp only[Option.map_some,Option.getD_some]
   refine Array.all_eq_true_iff_forall_mem.2 fun e he=> ?_
   cases hb:Region.binds .any e with
   |false=>simp
   |true=>
    have:=h2 e.on (by
     unfold rM
     exact List.mem_map_of_mem (List.mem_filter.2 ⟨by simpa using he,hb⟩))
    simpa using this
theorem JR (hT:dx P X.aA) (hK:∀f dD,X.dD f=some dD->mB P f dD) {ops:Array Oper} {recs:List Rec} {S':St} (hr:GS X ops S=some (recs,S')) (h:ek w0 foot base S E a w) (cr:∀p∈pM recs,p)
  {Q:Exit->Act->World->Prop} (hQ:∀E' a' w',ek w0 foot base S' E' a' w'->Q .normal a' w'):wpAny P .any ops Q ops.size (Array.replicate ops.size false) a w:=by
 unfold GS at hr
 split at hr
 ·cases hr
 ·rename_i Q0 Cl Tq
  split at hr
  ·rename_i hb
   cases hr
   simp only[Bool.and_eq_true] at hb
   obtain⟨hp,mr,htg,PO⟩:=hb
   obtain⟨hlen,Yh,mZ⟩:=EK Tq
   have aew:recs.length=ops.size:=by simpa using hlen
   have least:∀(L:Nat->Bool),(∃i,i<ops.size/\L i=false)->∃i,i<ops.size/\L i=false/\∀j,j<i->L j=true:=fun L ⟨i,hi,hL⟩=>by
    induction i using Nat.strongRecOn with
    |_ i ih=>
     by_cases hex:∃j,j<i/\L j=false
     ·obtain⟨j,hj,A0⟩:=hex
      exact ih j hj (by omega) A0
     ·refine⟨i,hi,hL,fun j hj=> ?_⟩
      cases A0:L j with
      |true=>rfl
      |false=>exact absurd ⟨j,hj,A0⟩ hex
   have all:∀(fuel:Nat) (eI:Array Bool) (E:Env) (a:Act) (w:World),eI.size=ops.size->((List.range ops.size).filter fun i=> !eI.getD i false).length=fuel->
     (∀i o,ops[i]? =some o->eI.getD i false=true->∀p∈rM o,eI.getD p false=true)->ek w0 foot base (k9 (fun i=>eI.getD i false) recs S) E a w->wpAny P .any ops Q fuel eI a w:=by
    intro fuel
    have fin:∀(eI:Array Bool) (E:Env) (a:Act) (w:World),eI.size=ops.size->ek w0 foot base (k9 (fun i=>eI.getD i false) recs S) E a w->Region.ready .any ops eI=[]->Q .normal a w:=fun eI E a w hs h GP=>by
     refine hQ E a w ?_
     have aeF:∀i,i<ops.size->eI.getD i false=true:=fun i hi=>by
      cases PQ:eI.getD i false with
      |true=>rfl
      |false=>
       obtain⟨k,hk,hLk,aaQ⟩:=least (fun i=>eI.getD i false) ⟨i,hi,PQ⟩
       have:k∈Region.ready .any ops eI:=(mem_ready hs).2 ⟨ops[k],Array.getElem?_eq_getElem hk,hLk,fun p Vh=>aaQ p (sd hp k ops[k] hk (by simp) p Vh)⟩
       rw[GP] at this
       cases this
     have Gu:∀l,gW (k9 (fun i=>eI.getD i false) recs S) S' l:=fun l=>by
      rw[Yh]
      exact uw (.refl _ _) fun i c hc _=>aeF i (by rw[<-aew];exact(List.getElem?_eq_some_iff.1 hc).1)
     refine h.congr (fun n=>Gu (.slot n)) (fun b=>Gu (.bp b)) (fun id uU=> ?_) (by rw[Yh,Ec,Ec]) (by rw[Yh,yO,yO])
     rw[Yh]
     rcases lP.1 uU with hu|⟨j,d,hd,_,KJ⟩
     ·exact lP.2 (.inl hu)
     ·exact lP.2 (.inr ⟨j,d,hd,rfl,KJ⟩)
    induction fuel with
    |zero=>
     intro eI E a w hs Tw Io h
     have GP:Region.ready .any ops eI=[]:=by
      refine List.eq_nil_iff_forall_not_mem.2 fun i hi=> ?_
      obtain⟨o,ho,hL,_⟩:=(mem_ready hs).1 hi
      have EE:=(Array.getElem?_eq_some_iff.1 ho).1
      have:i∈(List.range ops.size).filter fun i=> !eI.getD i false:=List.mem_filter.2 ⟨List.mem_range.2 EE,by simp[hL]⟩
      rw[List.eq_nil_of_length_eq_zero Tw] at this
      cases this
     exact⟨GP,fin eI E a w hs h GP⟩
    |succ fuel ih=>
     intro eI E a w hs Tw Io h
     refine⟨fin eI E a w hs h,fun i hi=> ?_⟩
     obtain⟨o,ho,hL,pj⟩:=(mem_ready hs).1 hi
     have EE:=(Array.getElem?_eq_some_iff.1 ho).1
     have aiJ:(fun j=>(eI.setIfInBounds i true).getD j false)=pU (fun k=>eI.getD k false) i:=by
      funext j;exact rU (by omega)
     refine Sr hT hK Tq hp mr htg PO cr (L:=fun i=>eI.getD i false) Io EE hL (fun o' rQ p Vh=>pj p (by rw[ho] at rQ;cases rQ;exact Vh)) h fun E' a' w' h'=> ?_
     refine ih _ E' a' w' (by simpa using hs) ?_ (fun j o' rQ hj p Vh=> ?_) (by rw[aiJ];exact h')
     ·have amb:((List.range ops.size).filter fun j=> !(eI.setIfInBounds i true).getD j false).length+1=((List.range ops.size).filter fun j=> !eI.getD j false).length:=by
       have e1:((List.range ops.size).filter fun j=> !(eI.setIfInBounds i true).getD j false)=((List.range ops.size).filter fun j=> !eI.getD j false).erase i:=by
        rw[List.Nodup.erase_eq_filter (List.nodup_range.filter _),List.filter_filter]
        refine List.filter_congr fun j _=> ?_
        rw[rU (by omega)]
        unfold pU
        by_cases uT:j=i
        ·simp[uT]
        ·simp[uT]
       rw[e1,List.length_erase_of_mem (List.mem_filter.2 ⟨List.mem_range.2 EE,by simp[hL]⟩)]
       omega
      omega
     ·rw[rU (by omega)] at hj ⊢
      unfold pU at hj ⊢
      simp only[Bool.or_eq_true,decide_eq_true_eq] at hj ⊢
      rcases hj with hj|rfl
      ·exact .inl (Io j o' rQ hj p Vh)
      ·rw[ho] at rQ
       cases rQ
       exact .inl (pj p Vh)
   refine all ops.size _ E a w (by simp) ?_ (fun i o ho hi=> ?_) ?_
   ·have:((List.range ops.size).filter fun i=> !(Array.replicate ops.size false).getD i false)=List.range ops.size:=by
     refine List.filter_eq_self.2 fun i _=> ?_
     simp only[Array.getD_eq_getD_getElem?,Array.getElem?_replicate]
     split<;>rfl
    rw[this,List.length_range]
   ·have:(Array.replicate ops.size false).getD i false=false:=by
     simp only[Array.getD_eq_getD_getElem?,Array.getElem?_replicate]
     split<;>rfl
    rw[this] at hi
    cases hi
   ·have e:(fun i=>(Array.replicate ops.size false).getD i false)=fun _=>false:=by
     funext i
     simp only[Array.getD_eq_getD_getElem?,Array.getElem?_replicate]
     split<;>rfl
    have h2:∀(cs:List Rec) (S:St),k9 (fun _=>false) cs S=S:=by
     intro cs
     induction cs with
     |nil=>intro S;rfl
     |cons c cs ih=>intro S;exact ih S
    rw[e,h2]
    exact h
  ·cases hr
end Go.Vc
end

section
set_option linter.unusedVariables false
set_option linter.unusedSimpArgs false
namespace Go.Vc
open Go
variable {P:Program} {X:Ctx} {w0:World} {foot:gM} {base:Mem} {S:St} {E:Env} {a:Act} {w:World} {ctx:c9}
def ni:List (Nat×(c9×SV))->List (Nat×(c9×SV))
 |[]=>[]
 |(n,[],v)::l=>(n,[],v)::ni l
 |(_,_::_,_)::l=>ni l
def lS:List (Nat×(c9×SV))->Bool
 |[]=>true
 |(n,_)::l=>(match find l n with
  |some _=>false
  |none=>true)&&lS l
theorem oO:∀{l:List (Nat×(c9×SV))} {n:Nat} {ts:c9} {v:SV},lS l=true->find (ni l) n=some (ts,v)->find l n=some (ts,v)/\ts=[]
 |[],_,_,_,_,h=>by cases h
 |(m,[],u)::l,n,ts,v,hk,h=>by
  simp only[lS,Bool.and_eq_true] at hk
  unfold ni find at h
  unfold find
  split at h
  ·rename_i hb;cases h;simp[hb]
  ·exact oO hk.2 h
 |(m,t::QN,u)::l,n,ts,v,hk,h=>by
  simp only[lS,Bool.and_eq_true] at hk
  unfold ni at h
  obtain⟨h1,h2⟩:=oO hk.2 h
  refine⟨?_,h2⟩
  unfold find
  split
  ·rename_i hb
   have:=Nat.eq_of_beq_eq_true hb
   subst this
   rw[h1] at hk
   cases hk.1
  ·exact h1
def u6 (S:St):St:={S with sl:=ni S.sl}
theorem ek.u6 (h:ek w0 foot base S E a w) (hk:lS S.sl=true):ek w0 foot base (u6 S) E a w:=
 {toHRel:=h.toHRel
  ib:=fun n ts v hf ht=>h.ib n ts v (oO hk hf).1 ht
  size:=h.size
  defers:=h.defers
  pins:=h.pins
  dY:=fun n ts v hf ht=>h.dY n ts v (oO hk hf).1 ht}
def region (X:Ctx) (ops:Array Oper) (draw:Bool) (S:St):Option (List Rec×St):=
 match(match draw with
  |true=>GS X ops S
  |false=>u4 X ops ops.toList S) with
 |none=>none
 |some (recs,S')=>match lS S'.sl&&clean S.sl with
  |true=>some (recs,u6 S')
  |false=>none
theorem vU (hT:dx P X.aA) (hK:∀f dD,X.dD f=some dD->mB P f dD) {id:Nat} {ops:Array Oper} {draw:Bool} {recs:List Rec} {S':St} (hr:region X ops draw S=some (recs,S')) (h:ek w0 foot base S E a w)
  (hc:∀p∈pM recs,p) {Q:Exit->Act->World->Prop} (hQ:∀E' a' w',ek w0 foot base S' E' a' w'->Q .normal a' w'):(Code.region id ops draw).wp P Q a w:=by
 unfold region at hr
 cases draw with
 |false=>
  simp only at hr
  split at hr
  ·cases hr
  ·rename_i Q0 Cl hs
   split at hr
   ·rename_i hk
    cases hr
    simp only[Bool.and_eq_true] at hk
    replace hk:=hk.1
    refine wp_region ?_
    rw[List.range_eq_range']
    have:=Dr (Q:=Q) hT hK (k:=0) (fun j=>by simp) hs h hc fun E' a' w' h'=>hQ E' a' w' (h'.u6 hk)
    simpa using this
   ·cases hr
 |true=>
  simp only at hr
  split at hr
  ·cases hr
  ·rename_i Q0 Cl hs
   split at hr
   ·rename_i hk
    cases hr
    simp only[Bool.and_eq_true] at hk
    replace hk:=hk.1
    refine wp_region_any hT.mixed ?_
    refine JR (E:=E) hT hK hs ?_ hc fun E' a' w' h'=>hQ E' a' w' (h'.u6 hk)
    exact {toHRel:=h.toHRel.drew _,ib:=h.ib,size:=h.size,defers:=h.defers,pins:=h.pins,dY:=h.dY}
   ·cases hr
def H3 (b:Bool):C->C->Option C
 | .aG t x,.aG t' y=>(Ty.as t y).map fun y'=> .aG t (bif b then x else y')
 | .row t i,.row t' j=>(match t.beq t'&&Nat.beq i j with
  |true=>some (.row t i)
  |false=>none)
 | .ptr i o,.ptr j o'=>(match Nat.beq i j&&Nat.beq o o' with
  |true=>some (.ptr i o)
  |false=>none)
 | .kq,.kq=>some .kq
 | .o6,.o6=>some .o6
 | .map a b n,.map _ _ m=>(match Nat.beq n m with
  |true=>some (.map a b n)
  |false=>none)
 | .pR,.pR=>some .pR
 | .aG (.list t) xs,.kq=>some (.aG (.list t) (lit (bif b then Ty.L xs else[])))
 | .kq,.aG (.list t) xs=>some (.aG (.list t) (lit (bif b then[] else Ty.L xs)))
 |_,_=>none
def qU (b:Bool):List C->List C->Option (List C)
 |[],[]=>some []
 |c::cs,d::ds=>match H3 b c d,qU b cs ds with
  |some e,some es=>some (e::es)
  |_,_=>none
 |_,_=>none
def C2 (b:Bool):List (Bool×List C)->List (Bool×List C)->Option (List (Bool×List C))
 |[],[]=>some []
 |(g,cs)::l,(h,ds)::k=>match g==h,qU b cs ds,C2 b l k with
  |true,some es,some r=>some ((g,es)::r)
  |_,_,_=>none
 |_,_=>none
def C4 (b:Bool):SV->SV->Option SV
 | .one c,.one d=>(H3 b c d).map .one
 | .agg cs,.agg ds=>(qU b cs ds).map .agg
 | .yv l,.yv k=>(C2 b l k).map .yv
 |_,_=>none
def zp (b:Bool):c7->c7->Option c7
 | .cells cs,.cells ds=>(qU b cs ds).map .cells
 | .row je e t xs,.row Iv e' t' ys=>(match je==Iv&&(Nat.beq e e') with
  |true=>(Ty.as (a:= .list t') (.list t) (lit ys)).map fun QE=> .row je e t (bif b then xs else Ty.L QE)
  |false=>none)
 | .map je k v m _,.map Iv k' v' m' _=>(match je==Iv with
  |true=>(Ty.as (a:= .map k' v') (.map k v) m').map fun n=> .map je k v (bif b then m else Ty.M n) none
  |false=>none)
 |_,_=>none
def qT (b:Bool) (ch:List Loc) (s2:List (Nat×(c9×SV))):List (Nat×(c9×SV))->List (Nat×(c9×SV))
 |[]=>[]
 |(n,ts,v)::l=>match pr ch (.slot n) with
  |false=>(n,ts,v)::qT b ch s2 l
  |true=>match ts,find s2 n with
   |[],some ([],v')=>(match C4 b v v' with
    |some u=>(n,[],u)::qT b ch s2 l
    |none=>qT b ch s2 l)
   |_,_=>qT b ch s2 l
def Az (b:Bool) (ch:List Loc) (b2:List (Nat×c7)):List (Nat×c7)->Option (List (Nat×c7))
 |[]=>some []
 |(n,B)::l=>match Az b ch b2 l with
  |none=>none
  |some r=>match pr ch (.bp n) with
   |false=>some ((n,B)::r)
   |true=>match find b2 n with
    |none=>some r
    |some B'=>(match zp b B B' with
     |some D=>some ((n,D)::r)
     |none=>none)
def DN:List (Nat×c7)->Bool
 |[]=>true
 |(n,_)::l=>(match find l n with
  |some _=>false
  |none=>true)&&DN l
def join (b:Bool) (ch:List Loc) (S1 S2:St):Option St:=
 match lS S1.sl&&(DN S1.bl&&(lS S2.sl&&(DN S2.bl&&CR S1.oJ S2.oJ))),Az b ch S2.bl S1.bl with
 |true,some bl=>some {sl:=qT b ch S2.sl S1.sl,bl:=bl,used:=S1.used++S2.used,n:=S1.n,oJ:=S1.oJ}
 |_,_=>none
def Z3 (b want:Bool) (p:Prop):Prop:=b=want->p
def ex (X:Ctx):Code->St->Option (List Prop×List Loc×St)
 | .skip,S=>some ([],[],S)
 | .region _ ops draw,S=>match region X ops draw S with
  |some (recs,S')=>some (pM recs,recs.flatMap (fun c=>b9.ws c.o c.r),S')
  |none=>none
 | .seq a b,S=>match ex X a S with
  |some (c1,h1,S1)=>(match ex X b S1 with
   |some (c2,h2,S2)=>some (c1++c2,h1++h2,S2)
   |none=>none)
  |none=>none
 | .cond c x y,S=>match(do JW (<-ev c):RM Bool).run S [] with
  |some b=>(match ex X x S,ex X y S with
   |some (c1,h1,S1),some (c2,h2,S2)=>(match join b (h1++h2) S1 S2 with
    |some S'=>some (c1.map (Z3 b true)++c2.map (Z3 b false),h1++h2,S')
    |none=>none)
   |_,_=>none)
  |none=>none
 | .block _ c,S=>ex X c S
 | .scope c,S=>ex X c S
 | .label _,S=>some ([],[],S)
 |_,_=>none
theorem uS {b:Bool} {c d e:C} {v:Value} (h:H3 b c d=some e) (hv:gV E (bif b then c else d) v):gV E e v:=by
 unfold H3 at h
 split at h
 ·obtain⟨y',h1,rfl⟩:=Option.map_eq_some_iff.1 h
  obtain⟨ee,rfl⟩:=Ty.iQ h1
  subst ee
  cases b<;>exact hv
 ·split at h
  ·rename_i hb
   simp only[Bool.and_eq_true] at hb
   cases h
   have h1:=Ty.beq_eq hb.1
   have h2:=Nat.eq_of_beq_eq_true hb.2
   subst h1 h2
   cases b<;>exact hv
  ·cases h
 ·split at h
  ·rename_i hb
   simp only[Bool.and_eq_true] at hb
   cases h
   have h1:=Nat.eq_of_beq_eq_true hb.1
   have h2:=Nat.eq_of_beq_eq_true hb.2
   subst h1 h2
   cases b<;>exact hv
  ·cases h
 ·cases h;cases b<;>exact hv
 ·cases h;cases b<;>exact hv
 ·split at h
  ·rename_i hb
   cases h
   have h1:=Nat.eq_of_beq_eq_true hb
   subst h1
   cases b<;>exact hv
  ·cases h
 ·cases h;cases b<;>exact hv
 ·cases h
  cases b
  ·have hv:v=_:=hv
   subst hv
   exact⟨rfl,none,0,rfl,Nat.le_refl _,by simp[aM],fun _=>rfl,fun p hp=>by cases hp⟩
  ·exact hv
 ·cases h
  cases b
  ·exact hv
  ·have hv:v=_:=hv
   subst hv
   exact⟨rfl,none,0,rfl,Nat.le_refl _,by simp[aM],fun _=>rfl,fun p hp=>by cases hp⟩
 ·cases h
theorem oM {b:Bool}:∀{cs ds es:List C} {vs:List Value},qU b cs ds=some es->b7 E (bif b then cs else ds) vs->b7 E es vs
 |[],[],es,vs,h,hv=>by cases h;cases b<;>exact hv
 |c::cs,d::ds,es,vs,h,hv=>by
  unfold qU at h
  split at h
  ·rename_i e wg h1 h2
   cases h
   cases b
   ·obtain⟨v,us,rfl,k1,k2⟩:=hv
    exact⟨v,us,rfl,uS h1 k1,oM h2 k2⟩
   ·obtain⟨v,us,rfl,k1,k2⟩:=hv
    exact⟨v,us,rfl,uS h1 k1,oM h2 k2⟩
  ·cases h
 |[],_::_,es,vs,h,hv=>by cases h
 |_::_,[],es,vs,h,hv=>by cases h
theorem FO {b:Bool} {c d:C} {es:List C} (h:qU b [c] [d]=some es):∃e,es=[e]/\H3 b c d=some e:=by
 unfold qU at h
 split at h
 ·rename_i e wg h1 h2
  cases h
  cases h2
  exact⟨e,rfl,h1⟩
 ·cases h
theorem FP {b:Bool}:∀{cs ds es:List C},qU b cs ds=some es->cs.length=ds.length
 |[],[],es,h=>rfl
 |c::cs,d::ds,es,h=>by
  unfold qU at h
  split at h
  ·rename_i e wg h1 h2
   simp[FP h2]
  ·cases h
 |[],_::_,es,h=>by cases h
 |_::_,[],es,h=>by cases h
theorem Bi {g:Bool} {cs ds es:List C} {b:Bool} (h1:qU b cs ds=some es) {v:Value} (hp:match(generalizing:=false) g with |true=>∃ws,v= .agg ws/\b7 E (bif b then cs else ds) ws.toList|false=>∃c,(bif b then cs else ds)=[c]/\gV E c v):
  (match(generalizing:=false) g with |true=>∃ws,v=Value.agg ws/\b7 E es ws.toList|false=>∃c,es=[c]/\gV E c v):=by
 cases g with
 |true=>obtain⟨ws,rfl,hp⟩:=hp;exact⟨ws,rfl,oM h1 hp⟩
 |false=>
  obtain⟨c,hc,hp⟩:=hp
  have hl:=FP h1
  cases b with
  |true=>
   simp only[cond_true] at hc
   subst hc
   obtain⟨d,rfl⟩:∃d,ds=[d]:=by
    cases ds with
    |nil=>simp at hl
    |cons d ds'=>cases ds' with
     |nil=>exact⟨d,rfl⟩
     |cons _ _=>simp at hl
   obtain⟨e,rfl,he⟩:=FO h1
   exact⟨e,rfl,uS he hp⟩
  |false=>
   simp only[cond_false] at hc
   subst hc
   obtain⟨d,rfl⟩:∃d,cs=[d]:=by
    cases cs with
    |nil=>simp at hl
    |cons d ds'=>cases ds' with
     |nil=>exact⟨d,rfl⟩
     |cons _ _=>simp at hl
   obtain⟨e,rfl,he⟩:=FO h1
   exact⟨e,rfl,uS he hp⟩
theorem tr {b:Bool}:∀{l k r:List (Bool×List C)} {vs:List Value},C2 b l k=some r->fz.go E (bif b then l else k) vs->fz.go E r vs
 |[],[],r,vs,h,hv=>by cases h;cases b<;>exact hv
 |(g,cs)::l,(g',ds)::k,r,vs,h,hv=>by
  unfold C2 at h
  split at h
  ·rename_i es r' hg h1 h2
   cases h
   have hg:g=g':=by simpa using hg
   subst hg
   cases b with
   |true=>
    obtain⟨v,us,rfl,k1,k2⟩:=hv
    exact⟨v,us,rfl,Bi h1 k1,tr (b:=true) h2 k2⟩
   |false=>
    obtain⟨v,us,rfl,k1,k2⟩:=hv
    exact⟨v,us,rfl,Bi h1 k1,tr (b:=false) h2 k2⟩
  ·cases h
 |[],_::_,r,vs,h,hv=>by cases h
 |_::_,[],r,vs,h,hv=>by cases h
theorem Pm {b:Bool} {s t u:SV} {v:Value} (h:C4 b s t=some u) (hv:fz E (bif b then s else t) v):fz E u v:=by
 unfold C4 at h
 split at h
 ·obtain⟨c,h1,rfl⟩:=Option.map_eq_some_iff.1 h
  exact uS h1 (by cases b<;>exact hv)
 ·obtain⟨c,h1,rfl⟩:=Option.map_eq_some_iff.1 h
  cases b
  ·obtain⟨vs,rfl,k⟩:=hv;exact⟨vs,rfl,oM h1 k⟩
  ·obtain⟨vs,rfl,k⟩:=hv;exact⟨vs,rfl,oM h1 k⟩
 ·obtain⟨c,h1,rfl⟩:=Option.map_eq_some_iff.1 h
  cases b
  ·obtain⟨vs,rfl,k⟩:=hv;exact⟨vs,rfl,tr h1 k⟩
  ·obtain⟨vs,rfl,k⟩:=hv;exact⟨vs,rfl,tr h1 k⟩
 ·cases h
theorem M1 {b:Bool} {B B' D:c7} {p:Place} (h:zp b B B'=some D) (hv:gg E w p (bif b then B else B')):gg E w p D/\D.mut=(bif b then B else B').mut:=by
 unfold zp at h
 split at h
 ·obtain⟨c,h1,rfl⟩:=Option.map_eq_some_iff.1 h
  cases b
  ·obtain⟨h0,vs,e,k1,k2⟩:=hv;exact⟨⟨h0,vs,e,k1,oM h1 k2⟩,rfl⟩
  ·obtain⟨h0,vs,e,k1,k2⟩:=hv;exact⟨⟨h0,vs,e,k1,oM h1 k2⟩,rfl⟩
 ·split at h
  ·rename_i hb
   simp only[Bool.and_eq_true,beq_iff_eq] at hb
   obtain⟨QE,h1,rfl⟩:=Option.map_eq_some_iff.1 h
   obtain⟨h2,h3⟩:=hb
   have h3:=Nat.eq_of_beq_eq_true h3
   subst h2 h3
   obtain⟨ee,rfl⟩:=Ty.iQ h1
   cases ee
   cases b
   ·exact⟨hv,rfl⟩
   ·exact⟨hv,rfl⟩
  ·cases h
 ·split at h
  ·rename_i hb
   simp only[beq_iff_eq] at hb
   obtain⟨n,h1,rfl⟩:=Option.map_eq_some_iff.1 h
   subst hb
   obtain⟨ee,rfl⟩:=Ty.iQ h1
   cases ee
   cases b
   ·obtain⟨h0,es,cl,k1,k2,k3⟩:=hv;exact⟨⟨h0,es,cl,k1,k2,k3.none⟩,rfl⟩
   ·obtain⟨h0,es,cl,k1,k2,k3⟩:=hv;exact⟨⟨h0,es,cl,k1,k2,k3.none⟩,rfl⟩
  ·cases h
 ·cases h
theorem C3 {b:Bool} {ch:List Loc} {s2:List (Nat×(c9×SV))}:∀{l:List (Nat×(c9×SV))} {n:Nat} {ts:c9} {u:SV},lS l=true->find (qT b ch s2 l) n=some (ts,u)->
  (find l n=some (ts,u)/\pr ch (.slot n)=false)\/∃v v',find l n=some ([],v)/\find s2 n=some ([],v')/\C4 b v v'=some u/\ts=[]
 |[],_,_,_,_,h=>by cases h
 |(m,QN,v)::l,n,ts,u,hk,h=>by
  simp only[lS,Bool.and_eq_true] at hk
  have step:find (qT b ch s2 l) n=some (ts,u)->(find ((m,QN,v)::l) n=some (ts,u)/\pr ch (.slot n)=false)\/∃v1 v',find ((m,QN,v)::l) n=some ([],v1)/\find s2 n=some ([],v')/\C4 b v1 v'=some u/\ts=[]:=fun h=>by
   have R0:∀x,find l n=some x->find ((m,QN,v)::l) n=some x:=fun x hx=>by
    unfold find
    split
    ·rename_i hb
     have:=Nat.eq_of_beq_eq_true hb
     subst this
     rw[hx] at hk
     cases hk.1
    ·exact hx
   rcases C3 hk.2 h with ⟨h1,h2⟩|⟨v1,v',h1,h2⟩
   ·exact .inl ⟨R0 _ h1,h2⟩
   ·exact .inr ⟨v1,v',R0 _ h1,h2⟩
  unfold qT at h
  split at h
  ·rename_i hc
   unfold find at h
   split at h
   ·rename_i hb
    cases h
    have:=Nat.eq_of_beq_eq_true hb
    subst this
    exact .inl ⟨by simp[find],hc⟩
   ·exact step h
  ·split at h
   ·rename_i v' hf
    split at h
    ·rename_i u' hu
     unfold find at h
     split at h
     ·rename_i hb
      cases h
      have:=Nat.eq_of_beq_eq_true hb
      subst this
      exact .inr ⟨v,v',by simp[find],hf,hu,rfl⟩
     ·exact step h
    ·exact step h
   ·exact step h
theorem C5 {b:Bool} {ch:List Loc} {b2:List (Nat×c7)}:∀{l r:List (Nat×c7)} {n:Nat} {D:c7},DN l=true->Az b ch b2 l=some r->find r n=some D->
  (find l n=some D/\pr ch (.bp n)=false)\/∃B B',find l n=some B/\find b2 n=some B'/\zp b B B'=some D
 |[],r,n,D,_,h,hf=>by cases h;cases hf
 |(m,B)::l,r,n,D,hk,h,hf=>by
  simp only[DN,Bool.and_eq_true] at hk
  unfold Az at h
  split at h
  ·cases h
  ·rename_i r' Nj
   have step:find r' n=some D->(find ((m,B)::l) n=some D/\pr ch (.bp n)=false)\/∃B1 B',find ((m,B)::l) n=some B1/\find b2 n=some B'/\zp b B1 B'=some D:=fun hf=>by
    have R0:∀x,find l n=some x->find ((m,B)::l) n=some x:=fun x hx=>by
     unfold find
     split
     ·rename_i hb
      have:=Nat.eq_of_beq_eq_true hb
      subst this
      rw[hx] at hk
      cases hk.1
     ·exact hx
    rcases C5 hk.2 Nj hf with ⟨h1,h2⟩|⟨v1,v',h1,h2⟩
    ·exact .inl ⟨R0 _ h1,h2⟩
    ·exact .inr ⟨v1,v',R0 _ h1,h2⟩
   split at h
   ·rename_i hc
    cases h
    unfold find at hf
    split at hf
    ·rename_i hb
     cases hf
     have:=Nat.eq_of_beq_eq_true hb
     subst this
     exact .inl ⟨by simp[find],hc⟩
    ·exact step hf
   ·split at h
    ·cases h;exact step hf
    ·rename_i B' zD
     split at h
     ·rename_i D' Vr
      cases h
      unfold find at hf
      split at hf
      ·rename_i hb
       cases hf
       have:=Nat.eq_of_beq_eq_true hb
       subst this
       exact .inr ⟨B,B',by simp[find],zD,Vr⟩
      ·exact step hf
     ·cases h
theorem FM {b:Bool} {ch:List Loc} {S1 S2 S':St} (hj:join b ch S1 S2=some S') (H7:∀l,l∉ch->gW S1 S2 l) (hn:S1.n=S2.n) (h:ek w0 foot base (bif b then S1 else S2) E a w):ek w0 foot base S' E a w:=by
 unfold join at hj
 split at hj
 ·rename_i bl hk pI
  cases hj
  simp only[Bool.and_eq_true] at hk
  have XR:=BO hk.2.2.2.2
  obtain⟨k1,k2,k3,k4⟩:=hk
  have Tt:∀l,pr ch l=false->l∉ch:=fun l hl hm=>by rw[vB.2 hm] at hl;cases hl
  have oN:∀n D,find bl n=some D->∃B,find (bif b then S1 else S2).bl n=some B/\(∀p,gg E w p B->gg E w p D/\D.mut=B.mut):=fun n D hf=>by
   rcases C5 k2 pI hf with ⟨h1,h2⟩|⟨B,B',h1,h2,h3⟩
   ·have Gu:=H7 (.bp n) (Tt _ h2)
    have Gu:find S2.bl n=find S1.bl n:=Gu
    refine⟨D,?_,fun p hp=>⟨hp,rfl⟩⟩
    cases b
    ·show find S2.bl n=_;rw[Gu];exact h1
    ·exact h1
   ·refine⟨bif b then B else B',?_,fun p hp=>M1 h3 hp⟩
    cases b
    ·exact h2
    ·exact h1
  have XM:∀n ts u,find (qT b ch S2.sl S1.sl) n=some (ts,u)->∃v,find (bif b then S1 else S2).sl n=some (ts,v)/\(∀x,fz E v x->fz E u x):=fun n ts u hf=>by
   rcases C3 k1 hf with ⟨h1,h2⟩|⟨v,v',h1,h2,h3,rfl⟩
   ·have Gu:=H7 (.slot n) (Tt _ h2)
    have Gu:find S2.sl n=find S1.sl n:=Gu
    refine⟨u,?_,fun x hx=>hx⟩
    cases b
    ·show find S2.sl n=_;rw[Gu];exact h1
    ·exact h1
   ·refine⟨bif b then v else v',?_,fun x hx=>Pm h3 hx⟩
    cases b
    ·exact h2
    ·exact h1
  refine {keep:=h.keep,m7:=h.m7,src:=h.src,cn:=fun id D hf=> ?_,own:=fun id D p hf hp qv=> ?_,inj:=fun id Na D D' p p' hf eh hp dn qv KI kz=> ?_,used:=fun id p hp=> ?_,ib:=fun n ts u hf ht=> ?_,size:= ?_,defers:=h.defers,pins:=fun n p h1=> ?_,dY:=fun n ts u hf ht=> ?_}
  ·obtain⟨B,hB,ED⟩:=oN id D hf
   obtain⟨p,hp,k⟩:=h.cn id B hB
   exact⟨p,hp,(ED p k).1⟩
  ·obtain⟨B,hB,ED⟩:=oN id D hf
   obtain⟨q,hq,k⟩:=h.cn id B hB
   rw[hp] at hq
   cases hq
   have:=h.own id B p hB hp qv
   exact⟨this.1,fun hm=>this.2 (by rw[<-(ED p k).2];exact hm)⟩
  ·obtain⟨B,hB,_⟩:=oN id D hf
   obtain⟨B',zD,_⟩:=oN Na D' eh
   exact h.inj id Na B B' p p' hB zD hp dn qv KI kz
  ·have:=h.used id p hp
   cases b
   ·exact List.mem_append_right _ this
   ·exact List.mem_append_left _ this
  ·obtain⟨v,hv,ED⟩:=XM n ts u hf
   exact ED _ (h.ib n ts v hv ht)
  ·have:=h.size
   cases b
   ·rw[this];exact hn.symm
   ·exact this
  ·have:=h.pins n p h1
   cases b
   ·exact⟨by show n∈S1.oJ;rw[XR];exact this.1,this.2⟩
   ·exact this
  ·obtain⟨v,hv,_⟩:=XM n ts u hf
   exact h.dY n ts v hv ht
 ·cases hj
theorem ei {α:Type} {m n:Nat} {x:α} {l:List (Nat×α)} (h:m≠n):find ((m,x)::l) n=find l n:=by
 have:Nat.beq m n=false:=by
  cases hb:Nat.beq m n with
  |false=>rfl
  |true=>exact absurd (Nat.eq_of_beq_eq_true hb) h
 simp only[find,this]
theorem w2 {α:Type} {m n:Nat} {x:α} {l k:List (Nat×α)} (h:find l n=find k n):find ((m,x)::l) n=find ((m,x)::k) n:=by
 simp only[find,h]
theorem Bh {b:Bool} {ch:List Loc} {s2:List (Nat×(c9×SV))}:∀{l:List (Nat×(c9×SV))} {n:Nat},pr ch (.slot n)=false->find (qT b ch s2 l) n=find l n
 |[],_,_=>rfl
 |(m,ts,v)::l,n,h=>by
  have ih:=Bh (b:=b) (s2:=s2) (l:=l) h
  unfold qT
  split
  ·exact w2 ih
  ·rename_i hm
   have kz:m≠n:=fun e=>by subst e;rw[h] at hm;cases hm
   rw[ei kz]
   split
   ·split
    ·rw[ei kz];exact ih
    ·exact ih
   ·exact ih
theorem Bj {b:Bool} {ch:List Loc} {b2:List (Nat×c7)}:∀{l r:List (Nat×c7)} {n:Nat},pr ch (.bp n)=false->Az b ch b2 l=some r->find r n=find l n
 |[],r,_,_,h=>by cases h;rfl
 |(m,B)::l,r,n,hn,h=>by
  unfold Az at h
  split at h
  ·cases h
  ·rename_i r' Nj
   have ih:=Bj hn Nj
   split at h
   ·cases h;exact w2 ih
   ·rename_i hm
    have kz:m≠n:=fun e=>by subst e;rw[hn] at hm;cases hm
    rw[ei kz]
    split at h
    ·cases h;exact ih
    ·split at h
     ·cases h
      rw[ei kz];exact ih
     ·cases h
theorem Pl {b:Bool} {ch:List Loc} {S1 S2 S':St} (hj:join b ch S1 S2=some S') {l:Loc} (hl:l∉ch):gW S1 S' l:=by
 have hl:pr ch l=false:=by
  cases h:pr ch l with
  |false=>rfl
  |true=>exact absurd (vB.1 h) hl
 unfold join at hj
 split at hj
 ·rename_i bl hk pI
  cases hj
  cases l with
  |slot n=>exact Bh hl
  |bp n=>exact Bj hl pI
 ·cases hj
theorem aaj {b:Bool} {ch:List Loc} {S1 S2 S':St} (hj:join b ch S1 S2=some S'):S'.n=S1.n:=by
 unfold join at hj
 split at hj
 ·cases hj;rfl
 ·cases hj
theorem px:∀{l:List (Nat×(c9×SV))} {n:Nat} {v:SV},find l n=some ([],v)->find (ni l) n=some ([],v)
 |[],_,_,h=>by cases h
 |(m,[],u)::l,n,v,h=>by
  unfold ni
  by_cases e:m=n
  ·subst e
   simpa [find] using h
  ·rw[ei e] at h ⊢
   exact px h
 |(m,t::QN,u)::l,n,v,h=>by
  unfold ni
  unfold find at h
  split at h
  ·cases h
  ·exact px h
theorem IW {S S':St} (hk:lS S'.sl=true) (mr:Go.Vc.clean S.sl=true) {l:Loc} (h:gW S S' l):gW S (u6 S') l:=by
 cases l with
 |bp n=>exact h
 |slot n=>
  have h:find S'.sl n=find S.sl n:=h
  show find (ni S'.sl) n=find S.sl n
  rw[<-h]
  cases hf:find S'.sl n with
  |none=>
   cases hd:find (ni S'.sl) n with
   |none=>rfl
   |some x=>
    obtain⟨ts,v⟩:=x
    rw[(oO hk hd).1] at hf
    cases hf
  |some x=>
   obtain⟨ts,v⟩:=x
   have:=vP mr n ts v (h▸hf)
   subst this
   exact px hf
theorem Ds {ops:Array Oper}:∀{l:List Oper} {S:St} {recs:List Rec} {S':St},u4 X ops l S=some (recs,S')->(∀loc,loc∉recs.flatMap (fun c=>b9.ws c.o c.r)->gW S S' loc)/\S'.n=S.n
 |[],S,recs,S',h=>by
  cases h
  exact⟨fun loc _=>gW.refl _ _,rfl⟩
 |o::l,S,recs,S',h=>by
  unfold u4 at h
  split at h
  ·cases h
  ·rename_i c hc
   split at h
   ·cases h
   ·rename_i cs Cl hs
    cases h
    obtain⟨h1,h2⟩:=Ds hs
    obtain⟨_,_,_,_,_,_,ho,_⟩:=oX hc
    refine⟨fun loc hl=> ?_,h2⟩
    simp only[List.flatMap_cons,List.mem_append,not_or] at hl
    rw[ho] at hl
    exact(xj hl.1).trans (h1 loc hl.2)
theorem JB {ops:Array Oper} {draw:Bool} {recs:List Rec} {S S':St} (hr:region X ops draw S=some (recs,S')):(∀loc,loc∉recs.flatMap (fun c=>b9.ws c.o c.r)->gW S S' loc)/\S'.n=S.n:=by
 unfold region at hr
 have key:∀Cl,u4 X ops ops.toList S=some (recs,Cl)->lS Cl.sl=true->Go.Vc.clean S.sl=true->u6 Cl=S'->(∀loc,loc∉recs.flatMap (fun c=>b9.ws c.o c.r)->gW S S' loc)/\S'.n=S.n:=fun Cl hs hk mr e=>by
  subst e
  obtain⟨h1,h2⟩:=Ds hs
  exact⟨fun loc hl=>IW hk mr (h1 loc hl),h2⟩
 split at hr
 ·cases hr
 ·rename_i Q0 Cl hs
  split at hr
  ·rename_i hk
   cases hr
   simp only[Bool.and_eq_true] at hk
   cases draw with
   |false=>exact key _ hs hk.1 hk.2 rfl
   |true=>
    simp only at hs
    unfold GS at hs
    split at hs
    ·cases hs
    ·rename_i r1 S1 BU
     split at hs
     ·cases hs
      exact key _ BU hk.1 hk.2 rfl
     ·cases hs
  ·cases hr
theorem rY (hT:dx P X.aA) (hK:∀f dD,X.dD f=some dD->mB P f dD):∀{c:Code} {S S':St} {cs:List Prop} {ch:List Loc},ex X c S=some (cs,ch,S')->
  ((∀l,l∉ch->gW S S' l)/\S'.n=S.n)/\∀{E:Env} {a:Act} {w:World},ek w0 foot base S E a w->(∀p∈cs,p)->∀{Q:Exit->Act->World->Prop},(∀E' a' w',ek w0 foot base S' E' a' w'->Q .normal a' w')->c.wp P Q a w
 | .skip,S,S',cs,ch,h=>by
  cases h
  exact⟨⟨fun l _=>gW.refl _ _,rfl⟩,fun hR _ Q hQ=>wp_skip (hQ _ _ _ hR)⟩
 | .region id ops draw,S,S',cs,ch,h=>by
  unfold ex at h
  split at h
  ·rename_i recs Cl hr
   cases h
   exact⟨JB hr,fun hR hc Q hQ=>vU hT hK hr hR hc hQ⟩
  ·cases h
 | .seq x y,S,S',cs,ch,h=>by
  unfold ex at h
  split at h
  ·rename_i c1 h1 S1 hx
   split at h
   ·rename_i c2 h2 S2 hy
    cases h
    obtain⟨⟨fx,nx⟩,sx⟩:=rY hT hK hx
    obtain⟨⟨fy,ny⟩,sy⟩:=rY hT hK hy
    refine⟨⟨fun l hl=> ?_,ny.trans nx⟩,fun hR hc Q hQ=> ?_⟩
    ·simp only[List.mem_append,not_or] at hl
     exact(fx l hl.1).trans (fy l hl.2)
    ·refine wp_seq (sx hR (fun p hp=>hc p (List.mem_append_left _ hp)) fun E' a' w' h'=> ?_)
     exact sy h' (fun p hp=>hc p (List.mem_append_right _ hp)) hQ
   ·cases h
  ·cases h
 | .cond c x y,S,S',cs,ch,h=>by
  unfold ex at h
  split at h
  ·rename_i b hb
   split at h
   ·rename_i c1 h1 S1 c2 h2 S2 hx hy
    split at h
    ·rename_i Sj hj
     cases h
     obtain⟨⟨fx,nx⟩,sx⟩:=rY hT hK hx
     obtain⟨⟨fy,ny⟩,sy⟩:=rY hT hK hy
     have H7:∀l,l∉h1++h2->gW S1 S2 l:=fun l hl=>by
      simp only[List.mem_append,not_or] at hl
      exact(fx l hl.1).symm.trans (fy l hl.2)
     have wT:S1.n=S2.n:=nx.trans ny.symm
     refine⟨⟨fun l hl=> ?_,?_⟩,fun {E a w} hR hc Q hQ=> ?_⟩
     ·exact(fx l (fun hm=>hl (List.mem_append_left _ hm))).trans (Pl hj hl)
     ·exact(aaj hj).trans nx
     ·obtain⟨s,e1,e2⟩:=RM.run_bind' hb
      have hv:=z8 (gi hR.toSRel (fun t ht=>by cases ht) e1) e2
      refine wp_cond_split hv (fun ht=> ?_) (fun ht=> ?_)
      ·refine sx hR (fun p hp=> ?_) fun E' a' w' h'=> ?_
       ·exact hc (Z3 b true p) (List.mem_append_left _ (List.mem_map_of_mem hp)) ht
       ·exact hQ E' a' w' (FM hj H7 wT (by rw[ht];exact h'))
      ·refine sy hR (fun p hp=> ?_) fun E' a' w' h'=> ?_
       ·exact hc (Z3 b false p) (List.mem_append_right _ (List.mem_map_of_mem hp)) ht
       ·exact hQ E' a' w' (FM hj H7 wT (by rw[ht];exact h'))
    ·cases h
   ·cases h
  ·cases h
 | .block id c,S,S',cs,ch,h=>by
  unfold ex at h
  obtain⟨f,s⟩:=rY hT hK h
  exact⟨f,fun hR hc Q hQ=>wp_block (s hR hc fun E' a' w' h'=>hQ E' a' w' h')⟩
 | .loop _,_,_,_,_,h=>by cases h
 | .rangeFunc _ _ _ _,_,_,_,_,h=>by cases h
 | .exit _,_,_,_,_,h=>by cases h
 | .scope c,S,S',cs,ch,h=>by
  unfold ex at h
  obtain⟨f,s⟩:=rY hT hK h
  exact⟨f,fun hR hc Q hQ=>wp_scope_straight (s hR hc fun E' a' w' h'=>hQ E' a' w' h')⟩
 | .label _,S,S',cs,ch,h=>by
  cases h
  exact⟨⟨fun l _=>gW.refl _ _,rfl⟩,fun hR _ Q hQ=>wp_label (hQ _ _ _ hR)⟩
 | .goto _,_,_,_,_,h=>by cases h
 | .ret,_,_,_,_,h=>by cases h
end Go.Vc
end

section
set_option linter.unusedVariables false
set_option linter.unusedSimpArgs false
namespace Go.Vc
open Go
variable {P:Program} {X:Ctx} {w0:World} {foot:gM} {base:Mem} {S:St} {E:Env} {a:Act} {w:World} {ctx:c9}
def u5:List Prop->Prop->Prop
 |[],q=>q
 |p::ps,q=>p/\u5 ps q
theorem iW:∀{ps:List Prop} {q:Prop},u5 ps q->(∀p∈ps,p)/\q
 |[],q,h=>⟨fun p hp=>(by cases hp),h⟩
 |p::ps,q,h=>⟨fun r hr=>by
   rcases List.mem_cons.1 hr with rfl|hr
   ·exact h.1
   ·exact(iW h.2).1 r hr,(iW h.2).2⟩
abbrev kU:=List (Nat×Bool)
def nn (D:kU) (a:Act):Prop:=∀t v,find D t=some v->a.tmps[t]? =some (.bool v)
def vC (D:kU):Operand->Option Bool
 | .tmp t=>find D t
 | .const (.bool v)=>some v
 |_=>none
def Fo (D:kU) (dst:Option Nat) (v:Option Bool):kU:=
 match dst with
 |none=>D
 |some d=>match v with
  |some b=>put D d b
  |none=>rem D d
def rD (X:Ctx) (D:kU) (o:Oper):RM b9×Option Bool:=
 match o.op with
 | .pick (.tmp c) x y=>(match find D c with
  |some true=>(do kL (<-ev x),vC D x)
  |some false=>(do kL (<-ev y),vC D y)
  |none=>(fH X o,none))
 | .move x=>(do kL (<-ev x),vC D x)
 | .assign x=>(do kL (<-ev x),vC D x)
 |_=>(fH X o,none)
def zq:Operand->Bool
 | .const (.slice none 0 0)=>true
 |_=>false
def CO (S:St):SV->Option Prop
 | .one (.aG (.list _) xs)=>some (Ty.L xs=[])
 | .one (.row _ b)=>(match find S.bl b with
  |some (.row _ _ _ xs)=>some (xs=[])
  |_=>none)
 |_=>none
def MJ (X:Ctx) (S:St) (o:Oper):Option (Bool×Prop):=
 match o.op with
 | .binOp op t x y _=>(match zq y,op with
  |true,.eql=>(match(do let i <-ti X t;let s <-ev x;return (i.d,s):RM (TD×SV)).run S [] with
   |some (.slice _,s)=>(match CO S s with
    |some p=>some (false,p)
    |none=>none)
   |_=>none)
  |true,.neq=>(match(do let i <-ti X t;let s <-ev x;return (i.d,s):RM (TD×SV)).run S [] with
   |some (.slice _,s)=>(match CO S s with
    |some p=>some (true,p)
    |none=>none)
   |_=>none)
  |_,_=>none)
 |_=>none
def Xn (neg b:Bool):Bool:=
 match neg with
 |true=> !b
 |false=>b
def G6 (X:Ctx) (o:Oper) (S:St) (D:kU) (next:St->kU->Prop):Prop:=
 match MJ X S o with
 |some (neg,p)=>(match zY S [] o with
  |true=>∀b:Bool,(b=true->p)->next (fS S o [] {val:=some (.one (.aG .bool (Xn neg b)))}) (Fo D o.dst none)
  |false=>False)
 |none=>match(rD X D o).1.run S [] with
  |none=>False
  |some r=>(match zY S [] o&&ui S.used r.new with
   |true=>u5 r.conds (next (fS S o [] r) (Fo D o.dst (rD X D o).2))
   |false=>False)
def Ah (X:Ctx) (o:Oper) (S:St) (D:kU) (next:St->kU->Prop):Prop:=
 match M3 S o with
 |some i=>(match zY S [] o with
  |true=>(i.todo=[]->next (fS S o [] Eb) (Fo D o.dst none))/\
    ∀(x:i.a.den×i.b.den) (rest:List (i.a.den×i.b.den)),i.todo.Perm (x::rest)->next (fS S o [] (S6 i.d i.a i.b x rest)) (Fo D o.dst none)
  |false=>False)
 |none=>G6 X o S D next
def Qp (S:St) (n:Nat):Option Bool:=
 match find S.sl n with
 |some ([],.one (.aG .bool b))=>some (Ty.B b)
 |_=>none
def IM (S:St) (dst:Option Nat):St:=
 match dst with
 |none=>S
 |some d=>{S with sl:=rem S.sl d}
def vT (X:Ctx) (ops:Array Oper):List Oper->St->kU->(St->Prop)->Prop
 |[],S,D,k=>k S
 |o::l,S,D,k=>match o.guard with
  |none=>Ah X o S D (fun S D=>vT X ops l S D k)
  |some (j,want)=>match(ops[j]?).bind (·.dst) with
   |none=>False
   |some d=>match find D d with
    |some v=>(match v==want with
     |true=>Ah X o S D (fun S D=>vT X ops l S D k)
     |false=>vT X ops l (IM S o.dst) (Fo D o.dst none) k)
    |none=>match Qp S d with
     |some b=>(b=want->Ah X o S (put D d want) (fun S D=>vT X ops l S D k))/\(b= !want->vT X ops l (IM S o.dst) (Fo (put D d (!want)) o.dst none) k)
     |none=>False
theorem CZ {D:kU} (hD:nn D a) {x:Operand} {b:Bool} (h:vC D x=some b):a.eval x= .bool b:=by
 unfold vC at h
 split at h
 ·rename_i t
  have:=hD t b h
  show a.tmps.getD t undef=_
  rw[Array.getD_eq_getD_getElem?,this]
  rfl
 ·cases h;rfl
 ·cases h
theorem nn.put {D:kU} (hD:nn D a) {d:Nat} {v:Bool} (h:a.tmps[d]? =some (.bool v)):nn (Go.Vc.put D d v) a:=fun t u hf=>by
 by_cases e:d=t
 ·subst e
  rw[bP] at hf
  cases hf
  exact h
 ·rw[bn _ _ _ _ e] at hf
  exact hD t u hf
theorem nn.set {D:kU} (hD:nn D a) {dst:Option Nat} {kn:Option Bool} {v:Value} (hk:∀b,kn=some b->v= .bool b) (dQ:∀d,dst=some d->d<a.tmps.size):nn (Fo D dst kn) (a.put dst v):=by
 cases dst with
 |none=>exact hD
 |some d=>
  have lk:∀t u,t≠d->find D t=some u->(a.put (some d) v).tmps[t]? =some (.bool u):=fun t u hn hf=>by
   rw[rF hn];exact hD t u hf
  cases kn with
  |none=>
   intro t u hf
   obtain⟨h1,h2⟩:=gp (l:=D) hf
   exact lk t u (Ne.symm h2) h1
  |some b=>
   have hv:=hk b rfl
   subst hv
   intro t u hf
   have hf:find (Go.Vc.put D d b) t=some u:=hf
   by_cases e:d=t
   ·subst e
    rw[bP] at hf
    cases hf
    exact ur (dQ d rfl)
   ·rw[bn _ _ _ _ e] at hf
    exact lk t u (Ne.symm e) hf
theorem sg (a:Act):br a []:=fun t ht=>by cases ht
def SN (P:Program) (w0:World) (foot:gM) (base:Mem) (S:St) (E:Env) (a:Act) (w:World) (o:Oper) (r:b9) (kn:Option Bool):Prop:=
 ∀(next:Act->World->Prop) (Q:Exit->Act->World->Prop),(∀E' w' v,iF w0 foot base S.bl S.used E r E' w' v->(∀b,kn=some b->v= .bool b)->next (a.put o.dst v) w')->o.wp P a w next Q
theorem bZ.none {o:Oper} {r:b9} (h:bZ P w0 foot base S E a w o r):SN P w0 foot base S E a w o r none:=
 fun next Q hn=>h next Q fun E' w' v hA=>hn E' w' v hA fun b hb=>by cases hb
theorem O8 (h:SRel w0 foot base S E a w) {D:kU} (hD:nn D a) {o:Oper} {x:Operand} (dE:(execOp a.eval o).run P w= .ok (.value (a.eval x)) w) {r:b9}
  (hr:(do kL (<-ev x):RM b9).run S []=some r):SN P w0 foot base S E a w o r (vC D x):=by
 obtain⟨s,h1,hr⟩:=RM.run_bind' hr
 rw[lW hr]
 intro next Q hn
 unfold Oper.wp
 rw[dE]
 exact hn _ _ _ (iF.pure h.toHRel (gi h (sg a) h1)) fun b hb=>CZ hD hb
theorem FJ {D:kU} (hD:nn D a) {c:Nat} {v:Bool} (h:find D c=some v):a.eval (.tmp c)= .bool v:=CZ hD (x:= .tmp c) h
theorem Mi {D:kU} (hD:nn D a) (o:Oper):(∃x,(execOp a.eval o).run P w= .ok (.value (a.eval x)) w/\rD X D o=(do kL (<-ev x),vC D x))\/rD X D o=(fH X o,none):=by
 cases ho:o.op with
 |pick c x y=>
  cases c with
  |tmp c=>
   cases hc:find D c with
   |none=>right;simp[rD,ho,hc]
   |some v=>
    left
    cases v with
    |true=>exact⟨x,by simp[execOp,ho,FJ hD hc,asBool],by simp only[rD,ho,hc]⟩
    |false=>exact⟨y,by simp[execOp,ho,FJ hD hc,asBool],by simp only[rD,ho,hc]⟩
  |_=>right;simp[rD,ho]
 |move x=>left;exact⟨x,by simp[execOp,ho],by simp only[rD,ho]⟩
 |assign x=>left;exact⟨x,by simp[execOp,ho],by simp only[rD,ho]⟩
 |_=>right;simp[rD,ho]
theorem Mh (hT:dx P X.aA) (hK:∀f dD,X.dD f=some dD->mB P f dD) (h:SRel w0 foot base S E a w) {D:kU} (hD:nn D a) {o:Oper} {r:b9} (hr:(rD X D o).1.run S []=some r)
  (hn:∀i∈r.new,i∉S.used) (cr:∀c∈r.conds,c):SN P w0 foot base S E a w o r (rD X D o).2:=by
 rcases Mi (P:=P) (X:=X) (w:=w) hD o with ⟨x,dE,e⟩|e
 ·rw[e] at hr ⊢
  exact O8 h hD dE hr
 ·rw[e] at hr ⊢
  exact(F1 hT hK h (sg a) hr hn cr).none
theorem wD {t e:Nat} (hu:P.underlying t=some (.slice e)) (d:Nat) (p:Option Addr) (n c:Nat):(Op.equalIn (d+1) t (.slice p n c) (.slice none 0 0)).run P w= .ok p.isNone w:=by
 cases p with
 |none=>simp only[Op.equalIn,Sem.run_bind,run_underlying hu,Result.andThen_ok];rfl
 |some q=>simp only[Op.equalIn,Sem.run_bind,run_underlying hu,Result.andThen_ok];rfl
theorem uB (op:BinOp) (t:Nat) (x y:Operand) (p:Option Addr) (n c:Nat):(eqGuard op t x y (.slice p n c) (.slice none 0 0)).run P w= .ok () w:=by
 unfold eqGuard
 split<;>rfl
theorem OF {t e:Nat} (hu:P.underlying t=some (.slice e)) (x y:Operand) (p:Option Addr) (n c:Nat):
  (do eqGuard .eql t x y (.slice p n c) (.slice none 0 0);binOp .eql t (.slice p n c) (.slice none 0 0):Sem Value).run P w= .ok (.bool p.isNone) w:=by
 rw[Sem.run_bind,uB,Result.andThen_ok]
 show(do pure (.bool (<-Op.equal t (.slice p n c) (.slice none 0 0))):Sem Value).run P w=_
 rw[Sem.run_bind,show Op.equal t (.slice p n c) (.slice none 0 0)=Op.equalIn (9999+1) t (.slice p n c) (.slice none 0 0) from rfl,wD hu]
 rfl
theorem OE {t e:Nat} (hu:P.underlying t=some (.slice e)) (x y:Operand) (p:Option Addr) (n c:Nat):
  (do eqGuard .neq t x y (.slice p n c) (.slice none 0 0);binOp .neq t (.slice p n c) (.slice none 0 0):Sem Value).run P w= .ok (.bool (!p.isNone)) w:=by
 rw[Sem.run_bind,uB,Result.andThen_ok]
 show(do pure (.bool (!(<-Op.equal t (.slice p n c) (.slice none 0 0)))):Sem Value).run P w=_
 rw[Sem.run_bind,show Op.equal t (.slice p n c) (.slice none 0 0)=Op.equalIn (9999+1) t (.slice p n c) (.slice none 0 0) from rfl,wD hu]
 rfl
theorem JD (hT:dx P X.aA) (h:SRel w0 foot base S E a w) {o:Oper} {neg:Bool} {p:Prop} (hc:MJ X S o=some (neg,p)):
  ∃b:Bool,(b=true->p)/\bZ P w0 foot base S E a w o {val:=some (.one (.aG .bool (Xn neg b)))}:=by
 have nil:∀{op:BinOp} {t yt:Nat} {x y:Operand} {e:Nat} {sv:SV} {pp:Prop},o.op= .binOp op t x y yt->zq y=true->(do let i <-ti X t;let s <-ev x;return (i.d,s):RM (TD×SV)).run S []=some (.slice e,sv)->CO S sv=some pp->
   ∃q n c,a.eval x= .slice q n c/\a.eval y= .slice none 0 0/\P.underlying t=some (.slice e)/\(q.isNone=true->pp):=fun {op t yt x y e sv pp} ho hy hx Im=>by
  obtain⟨i,h1,hx⟩:=RM.run_bind' hx
  obtain⟨s,h2,hx⟩:=RM.run_bind' hx
  have hx:=RM.run_pure' hx
  obtain⟨hs,_⟩:=dh hT h1
  have hv:=gi h (sg a) h2
  obtain⟨hd,hse⟩:=Prod.mk.injEq .. ▸hx
  rw[hse] at hv
  have hyn:a.eval y= .slice none 0 0:=by
   unfold zq at hy
   split at hy
   ·rfl
   ·cases hy
  unfold CO at Im
  split at Im
  ·cases Im
   obtain⟨_,q,cap,h3,h4,h5,h6,_⟩:=hv
   simp only[List.cons.injEq,and_true] at h3
   refine⟨q,_,cap,h3,hyn,dO (hs.trans hd),fun hq=> ?_⟩
   have:q=none:=by simpa using hq
   have:=h6 this
   exact List.length_eq_zero_iff.1 (by omega)
  ·split at Im
   ·rename_i b fr e' t' xs hb
    cases Im
    obtain⟨p,hp,hv⟩:=hv
    obtain⟨p',dn,hB⟩:=h.cn _ _ hb
    rw[hp] at dn;cases dn
    rcases hv with ⟨hn,hv,_⟩|⟨hn,hv,_⟩
    ·refine⟨_,_,_,hv,hyn,dO (hs.trans hd),fun _=> ?_⟩
     rcases hB with ⟨_,h0,_⟩|⟨h0,_⟩
     ·exact h0
     ·rw[hn] at h0;cases h0
    ·exact⟨_,_,_,hv,hyn,dO (hs.trans hd),fun hq=>by cases hq⟩
   ·cases Im
  ·cases Im
 unfold MJ at hc
 split at hc
 ·rename_i op t x y yt ho
  split at hc
  ·rename_i hy
   split at hc
   ·rename_i e sv hx
    split at hc
    rotate_left
    ·cases hc
    rename_i pp Im
    cases hc
    obtain⟨q,n,c,h1,h2,h3,h4⟩:=nil ho hy hx Im
    refine⟨q.isNone,h4,bZ.value (v:= .bool q.isNone) (w':=w) ?_ (iF.pure h.toHRel ⟨rfl,rfl⟩)⟩
    simp only[execOp,ho,h1,h2]
    rw[Sem.run_bind,OF h3]
    rfl
   ·cases hc
  ·rename_i hy
   split at hc
   ·rename_i e sv hx
    split at hc
    rotate_left
    ·cases hc
    rename_i pp Im
    cases hc
    obtain⟨q,n,c,h1,h2,h3,h4⟩:=nil ho hy hx Im
    refine⟨q.isNone,h4,bZ.value (v:= .bool (!q.isNone)) (w':=w) ?_ (iF.pure h.toHRel ⟨rfl,rfl⟩)⟩
    simp only[execOp,ho,h1,h2]
    rw[Sem.run_bind,OE h3]
    rfl
   ·cases hc
  ·cases hc
 ·cases hc
def sw (S:St):Prop:=∀n ts v,find S.sl n=some (ts,v)->ts=[]
theorem sw.fS (h:sw S) (o:Oper) (r:b9):sw (Go.Vc.fS S o [] r):=fun n ts v hf=>by
 unfold Go.Vc.fS at hf
 simp only at hf
 split at hf
 ·exact h n ts v hf
 ·rename_i d _
  split at hf
  ·by_cases e:d=n
   ·subst e;rw[bP] at hf;cases hf;rfl
   ·rw[bn _ _ _ _ e] at hf;exact h n ts v hf
  ·exact h n ts v (gp hf).1
theorem G5 (hT:dx P X.aA) (hK:∀f dD,X.dD f=some dD->mB P f dD) {o:Oper} {D:kU} {next:St->kU->Prop} (hv:G6 X o S D next) (h:ek w0 foot base S E a w) (hD:nn D a)
  (mr:sw S) {Q:Exit->Act->World->Prop} {K:Act->World->Prop} (Ip:∀S' D' E' a' w',next S' D'->sw S'->ek w0 foot base S' E' a' w'->nn D' a'->K a' w'):o.wp P a w K Q:=by
 have iT:∀{r:b9},zY S [] o=true->∀d,o.dst=some d->d<a.tmps.size:=fun hd d hdd=>by
  rw[h.size];exact(nz hd d hdd).1
 unfold G6 at hv
 split at hv
 ·rename_i neg p hc
  split at hv
  ·rename_i hd
   obtain⟨b,hb,mY⟩:=JD (P:=P) hT h.toSRel hc
   refine mY _ _ fun E' w' v hA=> ?_
   exact Ip _ _ _ _ _ (hv b hb) (mr.fS _ _) (h.step (nz hd) (sg a) hA) (hD.set (fun b hb=>by cases hb) (iT (r:={}) hd))
  ·cases hv
 ·split at hv
  ·cases hv
  ·rename_i r hr
   split at hv
   ·rename_i hd
    simp only[Bool.and_eq_true] at hd
    obtain⟨h1,h2⟩:=iW hv
    refine Mh hT hK h.toSRel hD hr (nj hd.2) h1 _ _ fun E' w' v hA hk=> ?_
    exact Ip _ _ _ _ _ h2 (mr.fS _ _) (h.step (nz hd.1) (sg a) hA) (hD.set hk (iT (r:={}) hd.1))
   ·cases hv
theorem Jw (hT:dx P X.aA) (hK:∀f dD,X.dD f=some dD->mB P f dD) {o:Oper} {D:kU} {next:St->kU->Prop} (hv:Ah X o S D next) (h:ek w0 foot base S E a w) (hD:nn D a)
  (mr:sw S) {Q:Exit->Act->World->Prop} {K:Act->World->Prop} (Ip:∀S' D' E' a' w',next S' D'->sw S'->ek w0 foot base S' E' a' w'->nn D' a'->K a' w'):o.wp P a w K Q:=by
 unfold Ah at hv
 split at hv
 ·rename_i i hi
  split at hv
  ·rename_i hd
   have iT:∀d,o.dst=some d->d<a.tmps.size:=fun d hdd=>by
    rw[h.size];exact(nz hd d hdd).1
   rcases JI (P:=P) h.toSRel hi with ⟨ht,mY⟩|⟨x,rest,ht,mY⟩
   ·refine mY _ _ fun E' w' v hA=> ?_
    exact Ip _ _ _ _ _ (hv.1 ht) (mr.fS _ _) (h.step (nz hd) (sg a) hA) (hD.set (fun b hb=>by cases hb) iT)
   ·refine mY _ _ fun E' w' v hA=> ?_
    exact Ip _ _ _ _ _ (hv.2 x rest ht) (mr.fS _ _) (h.step (nz hd) (sg a) hA) (hD.set (fun b hb=>by cases hb) iT)
  ·cases hv
 ·exact G5 hT hK hv h hD mr Ip
theorem x6 (mr:sw S) (h:ek w0 foot base S E a w) {dst:Option Nat}:ek w0 foot base (IM S dst) E (a.put dst undef) w/\sw (IM S dst):=by
 cases dst with
 |none=>exact⟨h,mr⟩
 |some d=>
  have hf:∀n ts v,find (rem S.sl d) n=some (ts,v)->ts=[]/\n≠d/\find S.sl n=some (ts,v):=fun n ts v hf=>by
   obtain⟨h1,h2⟩:=gp hf
   exact⟨mr n ts v h1,Ne.symm h2,h1⟩
  refine⟨{toHRel:=h.toHRel,ib:=fun n ts v Ya ht=> ?_,size:=by simp[Act.put,h.size,IM],defers:=h.defers,pins:=h.pins,dY:=fun n ts v Ya ht=> ?_},fun n ts v Ya=>(hf n ts v Ya).1⟩
  ·obtain⟨rfl,hn,h1⟩:=hf n ts v Ya
   rw[Array.getD_eq_getD_getElem?,rF hn,<-Array.getD_eq_getD_getElem?]
   exact h.ib n [] v h1 (sg a)
  ·obtain⟨rfl,_⟩:=hf n ts v Ya
   exact absurd (sg _) ht
theorem nn.drop {D:kU} (hD:nn D a) {dst:Option Nat}:nn (Fo D dst none) (a.put dst undef):=by
 cases dst with
 |none=>exact hD
 |some d=>
  intro t u hf
  obtain⟨h1,h2⟩:=gp (l:=D) hf
  rw[rF (Ne.symm h2)]
  exact hD t u h1
theorem tk (hT:dx P X.aA) (hK:∀f dD,X.dD f=some dD->mB P f dD) {ops:Array Oper} {Q:Exit->Act->World->Prop} {k:St->Prop}:
  ∀{l:List Oper} {i:Nat} {S:St} {D:kU} {E:Env} {a:Act} {w:World},(∀j,l[j]? =ops[i+j]?)->vT X ops l S D k->sw S->ek w0 foot base S E a w->nn D a->
  (∀S' E' a' w',k S'->ek w0 foot base S' E' a' w'->Q .normal a' w')->wpOps P ops Q (List.range' i l.length) a w
 |[],i,S,D,E,a,w,_,hv,_,h,_,hQ=>hQ _ _ _ _ hv h
 |o::l,i,S,D,E,a,w,hl,hv,mr,h,hD,hQ=>by
  have hi:ops[i]? =some o:=by have:=hl 0;simpa using this.symm
  have PF:∀j,l[j]? =ops[i+1+j]? :=fun j=>by have:=hl (j+1);simpa [Nat.add_assoc,Nat.add_comm 1 j] using this
  simp only[List.length_cons,List.range'_succ]
  rw[wpOps_cons]
  unfold wpOp
  simp only[hi]
  have go:∀{D:kU},nn D a->Ah X o S D (fun S D=>vT X ops l S D k)->o.wp P a w (wpOps P ops Q (List.range' (i+1) l.length)) Q:=fun hD hw=>
   Jw hT hK hw h hD mr fun S' D' E' a' w' hv' aiY h' Vr=>tk hT hK PF hv' aiY h' Vr hQ
  unfold vT at hv
  split at hv
  ·rename_i hg
   have hw:Region.wanted o (yielded ops a.tmps)=true:=by unfold Region.wanted;rw[hg]
   rw[if_pos hw]
   exact .inl (go hD hv)
  ·rename_i j want hg
   split at hv
   ·cases hv
   ·rename_i d hd
    have wanted:∀v:Bool,a.tmps[d]? =some (.bool v)->Region.wanted o (yielded ops a.tmps)=(v==want):=fun v ht=>by
     unfold Region.wanted
     rw[hg]
     simp only[yielded,hd,Option.bind_some,ht]
     cases v<;>cases want<;>rfl
    split at hv
    ·rename_i v hf
     have hw:=wanted v (hD d v hf)
     split at hv
     ·rename_i he
      rw[he] at hw
      rw[if_pos hw]
      exact .inl (go hD hv)
     ·rename_i he
      rw[he] at hw
      rw[if_neg (by rw[hw];simp)]
      exact tk hT hK PF hv (x6 mr h).2 (x6 mr h).1 hD.drop hQ
    ·split at hv
     ·rename_i b hb
      have hval:a.tmps[d]? =some (.bool b):=by
       unfold Qp at hb
       split at hb
       ·rename_i b' hf
        cases hb
        have hs:=h.ib d [] _ hf (sg a)
        obtain⟨_,hs⟩:=hs
        have hs:[a.tmps.getD d undef]=[Value.bool b']:=hs
        simp only[List.cons.injEq,and_true] at hs
        rw[Array.getD_eq_getD_getElem?] at hs
        cases hh:a.tmps[d]? with
        |none=>rw[hh] at hs;simp[undef] at hs
        |some v=>rw[hh] at hs;simpa using hs
       ·cases hb
      have hw:=wanted b hval
      by_cases e:b=want
      ·subst e
       rw[if_pos (by rw[hw];simp)]
       exact .inl (go (hD.put hval) (hv.1 rfl))
      ·have e':b= !want:=by cases b<;>cases want<;>simp at e ⊢
       rw[if_neg (by rw[hw];simp[e])]
       exact tk hT hK PF (hv.2 e') (x6 mr h).2 (x6 mr h).1 (hD.put (e'▸hval)).drop hQ
     ·cases hv
theorem Gm (hT:dx P X.aA) (hK:∀f dD,X.dD f=some dD->mB P f dD) {id:Nat} {ops:Array Oper} {Q:Exit->Act->World->Prop} {k:St->Prop} (hv:vT X ops ops.toList S [] k) (mr:Go.Vc.clean S.sl=true) (h:ek w0 foot base S E a w)
  (hQ:∀S' E' a' w',k S'->ek w0 foot base S' E' a' w'->Q .normal a' w'):(Code.region id ops false).wp P Q a w:=by
 refine wp_region ?_
 rw[List.range_eq_range']
 have:=tk (Q:=Q) hT hK (i:=0) (fun j=>by simp) hv (vP mr) h (fun t v hf=>by cases hf) hQ
 simpa using this
end Go.Vc
end

section
set_option linter.unusedVariables false
set_option linter.unusedSimpArgs false
namespace Go.Vc
open Go
variable {P:Program} {X:Ctx} {w0:World} {foot:gM} {base:Mem} {S T:St} {E:Env} {a:Act} {w:World} {ctx:c9}
abbrev Ren:=List (Nat×Option Nat)
def Ren.place (r:Ren) (E:Env) (b:Nat):Option Place:=
 match find r b with
 |none=>none
 |some none=>some ⟨true,0,0,0⟩
 |some (some m)=>E.place m
def Ren.env (r:Ren) (E:Env):Env:={E with place:=r.place E}
def vQ (r:Ren) (b:Nat) (n:Nat):Option Ren:=
 match find r b with
 |none=>some ((b,some n)::r)
 |some (some m)=>(match Nat.beq m n with
  |true=>some r
  |false=>none)
 |some none=>none
def Jf (r:Ren) (b:Nat):Option Ren:=
 match find r b with
 |none=>some ((b,none)::r)
 |_=>none
def Ren.Ext (r s:Ren):Prop:=∀b u,find r b=some u->find s b=some u
theorem Ren.Ext.refl (r:Ren):r.Ext r:=fun _ _ h=>h
theorem Ren.Ext.trans {r s t:Ren} (h:r.Ext s) (k:s.Ext t):r.Ext t:=fun b u e=>k b u (h b u e)
theorem iP {r s:Ren} {b n:Nat} (h:vQ r b n=some s):r.Ext s/\find s b=some (some n):=by
 unfold vQ at h
 split at h
 ·rename_i hf
  cases h
  refine⟨fun c u hc=> ?_,by simp[find]⟩
  rw[ei]
  ·exact hc
  ·rintro rfl;rw[hf] at hc;cases hc
 ·rename_i m hf
  split at h
  ·rename_i hb
   cases h
   have:=Nat.eq_of_beq_eq_true hb
   subst this
   exact⟨.refl _,hf⟩
  ·cases h
 ·cases h
theorem Bs {r s:Ren} {b:Nat} (h:Jf r b=some s):r.Ext s/\find s b=some none:=by
 unfold Jf at h
 split at h
 ·rename_i hf
  cases h
  refine⟨fun c u hc=> ?_,by simp[find]⟩
  rw[ei]
  ·exact hc
  ·rintro rfl;rw[hf] at hc;cases hc
 ·cases h
def DO (r:Ren):List Nat->List Nat->Option Ren
 |[],[]=>some r
 |b::bs,n::ns=>match vQ r b n with
  |some s=>DO s bs ns
  |none=>none
 |_,_=>none
theorem wk:∀{bs ns:List Nat} {r s:Ren},DO r bs ns=some s->r.Ext s/\bs.length=ns.length/\∀(i:Nat) b,bs[i]? =some b->∃n,ns[i]? =some n/\find s b=some (some n)
 |[],[],r,s,h=>by cases h;exact⟨.refl _,rfl,fun i b hb=>by simp at hb⟩
 |b::bs,n::ns,r,s,h=>by
  unfold DO at h
  split at h
  ·rename_i s1 h1
   obtain⟨g1,g2,g3⟩:=wk h
   obtain⟨k1,k2⟩:=iP h1
   refine⟨k1.trans g1,by simp[g2],fun i b' hb=> ?_⟩
   cases i with
   |zero=>simp at hb;subst hb;exact⟨n,rfl,g1 _ _ k2⟩
   |succ i=>simpa using g3 i b' (by simpa using hb)
  ·cases h
 |[],_::_,_,_,h=>by cases h
 |_::_,[],_,_,h=>by cases h
@[reducible] def Ty.R {t:Ty} (x:(Ty.ref t).den):t.den:=x
def Ax (r:Ren):C->C->Option (Ren×List Prop)
 | .aG t x,.aG t' y=>(Ty.as t y).map fun y'=>(r,[x=y'])
 | .aG (.list t) xs,.kq=>some (r,[Ty.L xs=[]])
 | .row t b,.row t' b'=>(match t.beq t' with
  |true=>(vQ r b b').map fun s=>(s,[])
  |false=>none)
 | .row t b,.kq=>(Jf r b).map fun s=>(s,[])
 | .ptr b o,.ptr b' o'=>(match Nat.beq o o' with
  |true=>(vQ r b b').map fun s=>(s,[])
  |false=>none)
 | .sub t b lo len,.sub t' b' Xt ah2=>(match t.beq t' with
  |true=>(vQ r b b').map fun s=>(s,[lo=Xt,len=ah2])
  |false=>none)
 | .mD t b i o,.mD t' b' i' o'=>(match t.beq t'&&Nat.beq o o' with
  |true=>(vQ r b b').map fun s=>(s,[i=i'])
  |false=>none)
 | .ta t xs i o,.ta t' ys j o'=>(match Nat.beq o o' with
  |true=>(Ty.as (a:= .list t') (.list t) (lit ys)).map fun QE=>(r,[xs=Ty.L QE,i=j])
  |false=>none)
 | .kq,.kq=>some (r,[])
 | .o6,.o6=>some (r,[])
 | .map _ _ b,.map _ _ b'=>(vQ r b b').map fun s=>(s,[])
 | .pR,.pR=>some (r,[])
 | .aG (.map _ _) m,.pR=>some (r,[Ty.M m=[]])
 | .iH k bs,.iH k' bs'=>(match Nat.beq k k' with
  |true=>(DO r bs bs').map fun s=>(s,[])
  |false=>none)
 | .aG (.ref t) x,.ta t' ys j o'=>(match Nat.beq o' 0 with
  |true=>(Ty.as (a:=t') t (DQ ys j)).map fun y=>(r,[Ty.R x=y])
  |false=>none)
 |_,_=>none
theorem FF {r s:Ren} {c d:C} {ps:List Prop} (h:Ax r c d=some (s,ps)):r.Ext s:=by
 unfold Ax at h
 split at h
 ·obtain⟨y,_,e⟩:=Option.map_eq_some_iff.1 h
  cases e
  exact .refl _
 ·cases h;exact .refl _
 ·split at h
  ·obtain⟨y,h1,e⟩:=Option.map_eq_some_iff.1 h
   cases e
   exact(iP h1).1
  ·cases h
 ·obtain⟨y,h1,e⟩:=Option.map_eq_some_iff.1 h
  cases e
  exact(Bs h1).1
 ·split at h
  ·obtain⟨y,h1,e⟩:=Option.map_eq_some_iff.1 h
   cases e
   exact(iP h1).1
  ·cases h
 ·split at h
  ·obtain⟨y,h1,e⟩:=Option.map_eq_some_iff.1 h
   cases e
   exact(iP h1).1
  ·cases h
 ·split at h
  ·obtain⟨y,h1,e⟩:=Option.map_eq_some_iff.1 h
   cases e
   exact(iP h1).1
  ·cases h
 ·split at h
  ·obtain⟨y,h1,e⟩:=Option.map_eq_some_iff.1 h
   cases e
   exact .refl _
  ·cases h
 ·cases h;exact .refl _
 ·cases h;exact .refl _
 ·obtain⟨y,h1,e⟩:=Option.map_eq_some_iff.1 h
  cases e
  exact(iP h1).1
 ·cases h;exact .refl _
 ·cases h;exact .refl _
 ·split at h
  ·obtain⟨y,h1,e⟩:=Option.map_eq_some_iff.1 h
   cases e
   exact(wk h1).1
  ·cases h
 ·split at h
  ·obtain⟨y,h1,e⟩:=Option.map_eq_some_iff.1 h
   cases e
   exact .refl _
  ·cases h
 ·cases h
theorem FE {r s f:Ren} {c d:C} {ps:List Prop} {v:Value} (h:Ax r c d=some (s,ps)) (hs:s.Ext f) (hp:∀p∈ps,p) (hv:gV E d v):gV (f.env E) c v:=by
 have pl:∀{b n p},find s b=some (some n)->E.place n=some p->(f.env E).place b=some p:=fun {b n p} hb hn=>by
  show f.place E b=_
  unfold Ren.place
  rw[hs _ _ hb]
  exact hn
 unfold Ax at h
 split at h
 ·obtain⟨y,h1,e⟩:=Option.map_eq_some_iff.1 h
  cases e
  have:=hp _ (List.mem_singleton.2 rfl)
  subst this
  obtain⟨ee,rfl⟩:=Ty.iQ h1
  subst ee
  exact hv
 ·cases h
  have:=hp _ (List.mem_singleton.2 rfl)
  have hv:v=_:=hv
  subst hv
  refine⟨rfl,none,0,?_,?_,by simp[aM],fun _=>rfl,fun p hp=>by cases hp⟩
  ·rw[this];rfl
  ·rw[this];exact Nat.le_refl _
 ·split at h
  ·rename_i hb
   obtain⟨y,h1,e⟩:=Option.map_eq_some_iff.1 h
   cases e
   obtain⟨p,nW,k⟩:=hv
   exact⟨p,pl (iP h1).2 nW,k⟩
  ·cases h
 ·obtain⟨y,h1,e⟩:=Option.map_eq_some_iff.1 h
  cases e
  have hv:v=_:=hv
  refine⟨⟨true,0,0,0⟩,?_,.inl ⟨rfl,hv,rfl⟩⟩
  show f.place E _=_
  unfold Ren.place
  rw[hs _ _ (Bs h1).2]
 ·split at h
  ·rename_i hb
   obtain⟨y,h1,e⟩:=Option.map_eq_some_iff.1 h
   cases e
   have:=Nat.eq_of_beq_eq_true hb
   subst this
   obtain⟨p,nW,k⟩:=hv
   exact⟨p,pl (iP h1).2 nW,k⟩
  ·cases h
 ·split at h
  ·rename_i hb
   obtain⟨y,h1,e⟩:=Option.map_eq_some_iff.1 h
   cases e
   have e1:=hp _ (List.mem_cons_self)
   have e2:=hp _ (List.mem_cons_of_mem _ List.mem_cons_self)
   subst e1 e2
   have:=Ty.beq_eq hb
   subst this
   obtain⟨p,nW,k⟩:=hv
   exact⟨p,pl (iP h1).2 nW,k⟩
  ·cases h
 ·split at h
  ·rename_i hb
   simp only[Bool.and_eq_true] at hb
   obtain⟨y,h1,e⟩:=Option.map_eq_some_iff.1 h
   cases e
   have e1:=hp _ (List.mem_cons_self)
   subst e1
   have:=Ty.beq_eq hb.1
   subst this
   have:=Nat.eq_of_beq_eq_true hb.2
   subst this
   obtain⟨p,nW,k⟩:=hv
   exact⟨p,pl (iP h1).2 nW,k⟩
  ·cases h
 ·split at h
  ·rename_i hb
   obtain⟨y,h1,e⟩:=Option.map_eq_some_iff.1 h
   cases e
   have e1:=hp _ (List.mem_cons_self)
   have e2:=hp _ (List.mem_cons_of_mem _ List.mem_cons_self)
   subst e2
   have:=Nat.eq_of_beq_eq_true hb
   subst this
   obtain⟨ee,rfl⟩:=Ty.iQ h1
   cases ee
   have e1:_=_:=e1
   subst e1
   exact hv
  ·cases h
 ·exact hv
 ·exact hv
 ·obtain⟨y,h1,e⟩:=Option.map_eq_some_iff.1 h
  cases e
  obtain⟨p,nW,k⟩:=hv
  exact⟨p,pl (iP h1).2 nW,k⟩
 ·exact hv
 ·cases h
  have:=hp _ (List.mem_singleton.2 rfl)
  have hv:v=_:=hv
  subst hv
  exact⟨rfl,none,rfl,fun _=>this,fun n hn=>by cases hn⟩
 ·split at h
  ·rename_i hb
   have:=Nat.eq_of_beq_eq_true hb
   subst this
   obtain⟨y,h1,e⟩:=Option.map_eq_some_iff.1 h
   cases e
   obtain⟨_,g2,g3⟩:=wk h1
   obtain⟨qs,m1,m2,m3⟩:=hv
   refine⟨qs,by omega,fun i b hi=> ?_,m3⟩
   obtain⟨n,n1,n2⟩:=g3 i b hi
   obtain⟨p,p1,p2,p3⟩:=m2 i n n1
   exact⟨p,p1,pl n2 p2,p3⟩
  ·cases h
 ·split at h
  ·rename_i ho
   have:=Nat.eq_of_beq_eq_true ho
   subst this
   obtain⟨y,h1,e⟩:=Option.map_eq_some_iff.1 h
   cases e
   have e1:=hp _ (List.mem_singleton.2 rfl)
   have e1:_=y:=e1
   subst e1
   exact⟨rfl,IL hv h1⟩
  ·cases h
 ·cases h
def uM (r:Ren):List C->List C->Option (Ren×List Prop)
 |[],[]=>some (r,[])
 |c::cs,d::ds=>match Ax r c d with
  |none=>none
  |some (s,ps)=>(match uM s cs ds with
   |none=>none
   |some (t,qs)=>some (t,ps++qs))
 |_,_=>none
theorem tn:∀{cs ds:List C} {r s:Ren} {ps:List Prop},uM r cs ds=some (s,ps)->r.Ext s
 |[],[],r,s,ps,h=>by cases h;exact .refl _
 |c::cs,d::ds,r,s,ps,h=>by
  unfold uM at h
  split at h
  ·cases h
  ·rename_i s1 p1 h1
   split at h
   ·cases h
   ·rename_i t qs h2
    cases h
    exact(FF h1).trans (tn h2)
 |[],_::_,_,_,_,h=>by cases h
 |_::_,[],_,_,_,h=>by cases h
theorem xH {f:Ren}:∀{cs ds:List C} {r s:Ren} {ps:List Prop} {vs:List Value},uM r cs ds=some (s,ps)->s.Ext f->(∀p∈ps,p)->b7 E ds vs->b7 (f.env E) cs vs
 |[],[],r,s,ps,vs,h,_,_,hv=>hv
 |c::cs,d::ds,r,s,ps,vs,h,hs,hp,hv=>by
  unfold uM at h
  split at h
  ·cases h
  ·rename_i s1 p1 h1
   split at h
   ·cases h
   ·rename_i t qs h2
    cases h
    obtain⟨v,us,rfl,k1,k2⟩:=hv
    exact⟨v,us,rfl,FE h1 ((tn h2).trans hs) (fun p hm=>hp p (List.mem_append_left _ hm)) k1,xH h2 hs (fun p hm=>hp p (List.mem_append_right _ hm)) k2⟩
 |[],_::_,_,_,_,_,h,_,_,_=>by cases h
 |_::_,[],_,_,_,_,h,_,_,_=>by cases h
def zi (r:Ren):SV->SV->Option (Ren×List Prop)
 | .one c,.one d=>Ax r c d
 | .agg cs,.agg ds=>uM r cs ds
 |_,_=>none
theorem MP {r s:Ren} {u v:SV} {ps:List Prop} (h:zi r u v=some (s,ps)):r.Ext s:=by
 unfold zi at h
 split at h
 ·exact FF h
 ·exact tn h
 ·cases h
theorem MO {r s f:Ren} {u v:SV} {ps:List Prop} {x:Value} (h:zi r u v=some (s,ps)) (hs:s.Ext f) (hp:∀p∈ps,p) (hv:fz E v x):fz (f.env E) u x:=by
 unfold zi at h
 split at h
 ·exact FE h hs hp hv
 ·obtain⟨vs,rfl,k⟩:=hv;exact⟨vs,rfl,xH h hs hp k⟩
 ·cases h
def uL (S:St) (r:Ren):List (Nat×(c9×SV))->Option (Ren×List Prop)
 |[]=>some (r,[])
 |(n,[],v)::l=>(match find S.sl n with
  |some ([],u)=>(match zi r v u with
   |none=>none
   |some (s,ps)=>(match uL S s l with
    |none=>none
    |some (t,qs)=>some (t,ps++qs)))
  |_=>none)
 |_::_=>none
theorem CV:∀{l:List (Nat×(c9×SV))} {r s:Ren} {ps:List Prop},uL S r l=some (s,ps)->r.Ext s
 |[],r,s,ps,h=>by cases h;exact .refl _
 |(n,[],v)::l,r,s,ps,h=>by
  unfold uL at h
  split at h
  ·split at h
   ·cases h
   ·rename_i s1 p1 h1
    split at h
    ·cases h
    ·rename_i t qs h2
     cases h
     exact(MP h1).trans (CV h2)
  ·cases h
 |(_,_::_,_)::_,_,_,_,h=>by cases h
theorem CU {f:Ren} (hS:ek w0 foot base S E a w):∀{l:List (Nat×(c9×SV))} {r s:Ren} {ps:List Prop},uL S r l=some (s,ps)->s.Ext f->(∀p∈ps,p)->
  ∀n ts v,find l n=some (ts,v)->ts=[]/\fz (f.env E) v (a.tmps.getD n undef)
 |[],r,s,ps,_,_,_,n,ts,v,hf=>by cases hf
 |(m,[],u)::l,r,s,ps,h,hs,hp,n,ts,v,hf=>by
  unfold uL at h
  split at h
  ·rename_i u' hu
   split at h
   ·cases h
   ·rename_i s1 p1 h1
    split at h
    ·cases h
    ·rename_i t qs h2
     cases h
     by_cases e:m=n
     ·subst e
      have:some (([]:c9),u)=some (ts,v):=by simpa [find] using hf
      cases this
      exact⟨rfl,MO h1 ((CV h2).trans hs) (fun p hm=>hp p (List.mem_append_left _ hm)) (hS.ib m [] u' hu (fun t ht=>by cases ht))⟩
     ·rw[ei e] at hf
      exact CU hS h2 hs (fun p hm=>hp p (List.mem_append_right _ hm)) n ts v hf
  ·cases h
 |(_,_::_,_)::_,_,_,_,h,_,_,_,_,_,_=>by cases h
def wR (r:Ren):c7->c7->Option (Ren×List Prop)
 | .cells cs,.cells ds=>uM r cs ds
 | .row je e t xs,.row Iv e' t' ys=>(match je==Iv&&Nat.beq e e' with
  |true=>(Ty.as (a:= .list t') (.list t) (lit ys)).map fun QE=>(r,[xs=Ty.L QE])
  |false=>none)
 | .iA t x,.iA t' y=>(Ty.as (a:=t') t y).map fun y'=>(r,[x=y'])
 | .map je k v m none,.map Iv k' v' m' _=>(match je==Iv with
  |true=>(Ty.as (a:= .map k' v') (.map k v) m').map fun n=>(r,[m=Ty.M n])
  |false=>none)
 | .iter k v m none,.iter k' v' m' _=>(Ty.as (a:= .map k' v') (.map k v) m').map fun n=>(r,[m=Ty.M n])
 |_,_=>none
theorem Bf {r s:Ren} {B B':c7} {ps:List Prop} (h:wR r B B'=some (s,ps)):r.Ext s:=by
 unfold wR at h
 split at h
 ·exact tn h
 ·split at h
  ·obtain⟨y,_,e⟩:=Option.map_eq_some_iff.1 h
   cases e
   exact .refl _
  ·cases h
 ·obtain⟨y,_,e⟩:=Option.map_eq_some_iff.1 h
  cases e
  exact .refl _
 ·split at h
  ·obtain⟨y,_,e⟩:=Option.map_eq_some_iff.1 h
   cases e
   exact .refl _
  ·cases h
 ·obtain⟨y,_,e⟩:=Option.map_eq_some_iff.1 h
  cases e
  exact .refl _
 ·cases h
theorem JE {r s f:Ren} {B B':c7} {ps:List Prop} {p:Place} (h:wR r B B'=some (s,ps)) (hs:s.Ext f) (hp:∀p∈ps,p) (hv:gg E w p B'):gg (f.env E) w p B/\B.mut=B'.mut:=by
 unfold wR at h
 split at h
 ·obtain⟨h0,vs,e,k1,k2⟩:=hv
  exact⟨⟨h0,vs,e,k1,xH h hs hp k2⟩,rfl⟩
 ·split at h
  ·rename_i hb
   simp only[Bool.and_eq_true,beq_iff_eq] at hb
   obtain⟨QE,h1,e⟩:=Option.map_eq_some_iff.1 h
   cases e
   have hx:=hp _ (List.mem_singleton.2 rfl)
   obtain⟨h2,h3⟩:=hb
   have h3:=Nat.eq_of_beq_eq_true h3
   subst h2 h3
   obtain⟨ee,rfl⟩:=Ty.iQ h1
   cases ee
   have hx:_=_:=hx
   subst hx
   exact⟨hv,rfl⟩
  ·cases h
 ·obtain⟨y',h1,e⟩:=Option.map_eq_some_iff.1 h
  cases e
  have hx:=hp _ (List.mem_singleton.2 rfl)
  obtain⟨ee,rfl⟩:=Ty.iQ h1
  subst ee
  have hx:_=_:=hx
  subst hx
  exact⟨hv,rfl⟩
 ·split at h
  ·rename_i hb
   simp only[beq_iff_eq] at hb
   obtain⟨n,h1,e⟩:=Option.map_eq_some_iff.1 h
   cases e
   have hx:=hp _ (List.mem_singleton.2 rfl)
   subst hb
   obtain⟨ee,rfl⟩:=Ty.iQ h1
   cases ee
   have hx:_=_:=hx
   subst hx
   obtain⟨h0,es,cl,k1,k2,k3⟩:=hv
   exact⟨⟨h0,es,cl,k1,k2,qc.akF (E:=E) (E':=f.env E) (fun _ _ h=>h) k3⟩,rfl⟩
  ·cases h
 ·obtain⟨n,h1,e⟩:=Option.map_eq_some_iff.1 h
  cases e
  have hx:=hp _ (List.mem_singleton.2 rfl)
  obtain⟨ee,rfl⟩:=Ty.iQ h1
  cases ee
  have hx:_=_:=hx
  subst hx
  obtain⟨h0,mo,si,se,la,k1,k2⟩:=hv
  refine⟨⟨h0,mo,si,se,la,k1,?_⟩,rfl⟩
  rcases k2 with ⟨k2,k3,_⟩|⟨mb,es,cl,Gr,e1,e2,e3,e4,e5,e6,e7,e8⟩
  ·exact .inl ⟨k2,k3,rfl⟩
  ·exact .inr ⟨mb,es,cl,Gr,e1,e2,e3,e4,e5,e6,e7,fun x hx=>by cases hx⟩
 ·cases h
def uN (S:St) (r:Ren):List (Nat×c7)->Option (Ren×List Prop)
 |[]=>some (r,[])
 |(n,B)::l=>(match find r n with
  |none=>none
  |some none=>(match B with
   | .row _ _ _ xs=>(match uN S r l with
    |none=>none
    |some (t,qs)=>some (t,(xs=[])::qs))
   |_=>none)
  |some (some m)=>(match find S.bl m with
   |none=>none
   |some B'=>(match wR r B B' with
    |none=>none
    |some (s,ps)=>(match uN S s l with
     |none=>none
     |some (t,qs)=>some (t,ps++qs)))))
theorem qP:∀{l:List (Nat×c7)} {r s:Ren} {ps:List Prop},uN S r l=some (s,ps)->r.Ext s
 |[],r,s,ps,h=>by cases h;exact .refl _
 |(n,B)::l,r,s,ps,h=>by
  unfold uN at h
  split at h
  ·cases h
  ·split at h
   ·split at h
    ·cases h
    ·rename_i t qs h2
     cases h
     exact qP h2
   ·cases h
  ·split at h
   ·cases h
   ·split at h
    ·cases h
    ·rename_i s1 p1 h1
     split at h
     ·cases h
     ·rename_i t qs h2
      cases h
      exact(Bf h1).trans (qP h2)
def Jr (S:St) (f:Ren) (E:Env) (w:World) (n:Nat) (B:c7):Prop:=
 (find f n=some none/\gg (f.env E) w ⟨true,0,0,0⟩ B)\/∃m B',find f n=some (some m)/\find S.bl m=some B'/\∀p,gg E w p B'->gg (f.env E) w p B/\B.mut=B'.mut
theorem tp {f:Ren}:∀{l:List (Nat×c7)} {r s:Ren} {ps:List Prop},uN S r l=some (s,ps)->s.Ext f->(∀p∈ps,p)->∀n B,find l n=some B->Jr S f E w n B
 |[],r,s,ps,_,_,_,n,B,hf=>by cases hf
 |(m,B)::l,r,s,ps,h,hs,hp,n,D,hf=>by
  unfold uN at h
  split at h
  ·cases h
  ·rename_i hr
   split at h
   ·rename_i je el t xs
    split at h
    ·cases h
    ·rename_i t' qs h2
     cases h
     by_cases e:m=n
     ·subst e
      have:some (c7.row je el t xs)=some D:=by simpa [find] using hf
      cases this
      have hx:=hp _ List.mem_cons_self
      have hx:xs=[]:=hx
      exact .inl ⟨hs _ _ (qP h2 _ _ hr),.inl ⟨rfl,hx,rfl⟩⟩
     ·rw[ei e] at hf
      exact tp h2 hs (fun p hm=>hp p (List.mem_cons_of_mem _ hm)) n D hf
   ·cases h
  ·rename_i k hr
   split at h
   ·cases h
   ·rename_i B' zD
    split at h
    ·cases h
    ·rename_i s1 p1 h1
     split at h
     ·cases h
     ·rename_i t qs h2
      cases h
      have BU:=(qP h2).trans hs
      by_cases e:m=n
      ·subst e
       have:some B=some D:=by simpa [find] using hf
       cases this
       exact .inr ⟨k,B',BU _ _ (Bf h1 _ _ hr),zD,fun p hv=>JE h1 BU (fun p hm=>hp p (List.mem_append_left _ hm)) hv⟩
      ·rw[ei e] at hf
       exact tp h2 hs (fun p hm=>hp p (List.mem_append_right _ hm)) n D hf
def M9 (S:St):List (Nat×c7)->Ren
 |[]=>[]
 |(n,_)::l=>match find S.bl n with
  |some _=>(n,some n)::M9 S l
  |none=>M9 S l
def sU (T:St):Ren->List Nat->Bool
 |[],_=>true
 |(n,none)::l,seen=>has T.used n&&sU T l seen
 |(n,some m)::l,seen=>has T.used n&&(!has seen m&&sU T l (m::seen))
def WR (r:Ren):Bool:=
 match r with
 |[]=>true
 |(n,_)::l=>(match find l n with
  |some _=>false
  |none=>true)&&WR l
theorem yW:∀{r:Ren} {seen:List Nat},sU T r seen=true->∀n u,find r n=some u->n∈T.used
 |[],_,_,n,u,h=>by cases h
 |(m,none)::l,seen,hr,n,u,h=>by
  simp only[sU,Bool.and_eq_true] at hr
  by_cases e:m=n
  ·exact e▸sJ.1 hr.1
  ·rw[ei e] at h;exact yW hr.2 n u h
 |(m,some k)::l,seen,hr,n,u,h=>by
  simp only[sU,Bool.and_eq_true] at hr
  by_cases e:m=n
  ·exact e▸sJ.1 hr.1
  ·rw[ei e] at h;exact yW hr.2.2 n u h
theorem vx:∀{r:Ren} {seen:List Nat},sU T r seen=true->∀n m,find r n=some (some m)->m∉seen
 |[],_,_,n,m,h=>by cases h
 |(k,none)::l,seen,hr,n,m,h=>by
  simp only[sU,Bool.and_eq_true] at hr
  by_cases e:k=n
  ·subst e;simp[find] at h
  ·rw[ei e] at h;exact vx hr.2 n m h
 |(k,some j)::l,seen,hr,n,m,h=>by
  simp only[sU,Bool.and_eq_true,Bool.not_eq_true'] at hr
  by_cases e:k=n
  ·subst e
   have:j=m:=by simpa [find] using h
   subst this
   intro hm
   rw[sJ.2 hm] at hr
   cases hr.2.1
  ·rw[ei e] at h
   exact fun hm=>vx hr.2.2 n m h (List.mem_cons_of_mem _ hm)
theorem BG:∀{r:Ren} {seen:List Nat},sU T r seen=true->∀n n' m,find r n=some (some m)->find r n'=some (some m)->n=n'
 |[],_,_,n,n',m,h,_=>by cases h
 |(k,none)::l,seen,hr,n,n',m,h,h'=>by
  simp only[sU,Bool.and_eq_true] at hr
  by_cases e:k=n
  ·subst e;simp[find] at h
  ·by_cases e':k=n'
   ·subst e';simp[find] at h'
   ·rw[ei e] at h;rw[ei e'] at h'
    exact BG hr.2 n n' m h h'
 |(k,some j)::l,seen,hr,n,n',m,h,h'=>by
  simp only[sU,Bool.and_eq_true] at hr
  by_cases e:k=n
  ·by_cases e':k=n'
   ·exact e.symm.trans e'
   ·rw[ei e'] at h'
    subst e
    have:j=m:=by simpa [find] using h
    subst this
    exact absurd List.mem_cons_self (vx hr.2.2 n' j h')
  ·rw[ei e] at h
   by_cases e':k=n'
   ·subst e'
    have:j=m:=by simpa [find] using h'
    subst this
    exact absurd List.mem_cons_self (vx hr.2.2 n j h)
   ·rw[ei e'] at h'
    exact BG hr.2.2 n n' m h h'
def MA (r:Ren):List Nat->Bool
 |[]=>true
 |n::l=>(match find r n with
  |some (some m)=>Nat.beq n m
  |_=>false)&&MA r l
theorem Fz {r:Ren}:∀{l:List Nat},MA r l=true->∀n∈l,find r n=some (some n)
 |[],_,n,hn=>by cases hn
 |m::l,h,n,hn=>by
  simp only[MA,Bool.and_eq_true] at h
  rcases List.mem_cons.1 hn with rfl|hn
  ·have h1:=h.1
   split at h1
   ·rename_i k hk
    rw[hk,Nat.eq_of_beq_eq_true h1]
   ·cases h1
  ·exact Fz h.2 n hn
def j9 (s:Ren):List Nat->Ren
 |[]=>s
 |n::l=>match find s n with
  |some _=>j9 s l
  |none=>(n,some n)::j9 s l
theorem vS (s:Ren):∀l,s.Ext (j9 s l)
 |[]=> .refl _
 |n::l=>by
  unfold j9
  split
  ·exact vS s l
  ·rename_i hf
   intro k u hk
   rw[ei]
   ·exact vS s l k u hk
   ·rintro rfl;rw[hf] at hk;cases hk
theorem uo (s:Ren):∀{l:List Nat} {n:Nat} {u:Option Nat},find (j9 s l) n=some u->find s n=some u\/n∈l
 |[],n,u,h=> .inl h
 |m::l,n,u,h=>by
  unfold j9 at h
  split at h
  ·exact(uo s h).imp_right (List.mem_cons_of_mem _)
  ·by_cases e:m=n
   ·exact .inr (e▸List.mem_cons_self)
   ·rw[ei e] at h
    exact(uo s h).imp_right (List.mem_cons_of_mem _)
def GY (u:List Nat):List Nat->Bool
 |[]=>true
 |n::l=>has u n&&GY u l
theorem Gf {u:List Nat}:∀{l:List Nat},GY u l=true->∀n∈l,n∈u
 |[],_,n,hn=>by cases hn
 |m::l,h,n,hn=>by
  simp only[GY,Bool.and_eq_true] at h
  rcases List.mem_cons.1 hn with rfl|hn
  ·exact sJ.1 h.1
  ·exact Gf h.2 n hn
def CW (r0:Ren) (S T:St):Option (List Prop):=
 match uL S r0 T.sl with
 |none=>none
 |some (r,ps)=>match uN S r T.bl with
  |none=>none
  |some (s,qs)=>match sU T s []&&(Nat.beq S.n T.n&&(CR S.oJ T.oJ&&(GY T.used T.oJ&&MA (j9 s T.oJ) T.oJ))) with
   |true=>some (ps++qs)
   |false=>none
def HS (S T:St):Option (List Prop):=
 match CW (M9 S T.bl) S T with
 |some ps=>some ps
 |none=>CW [] S T
theorem zj {r0:Ren} {cs:List Prop} (hm:CW r0 S T=some cs) (h:ek w0 foot base S E a w) (hc:∀p∈cs,p):∃E',ek w0 foot base T E' a w:=by
 unfold CW at hm
 split at hm
 ·cases hm
 ·rename_i r ps h1
  split at hm
  ·cases hm
  ·rename_i s qs h2
   split at hm
   ·rename_i hb
    cases hm
    simp only[Bool.and_eq_true] at hb
    have BU:=qP h2
    have AX:∀p∈ps,p:=fun p hp=>hc p (List.mem_append_left _ hp)
    have hqs:∀p∈qs,p:=fun p hp=>hc p (List.mem_append_right _ hp)
    have PL:=vS s T.oJ
    have abN:∀n B,find T.bl n=some B->Jr S s E w n B:=tp h2 (.refl _) hqs
    have abG:=hb.1
    have EC:∀n u,find (j9 s T.oJ) n=some u->n∈T.used:=fun n u hn=>by
     rcases uo s hn with h|h
     ·exact yW abG n u h
     ·exact Gf hb.2.2.2.1 n h
    have pI:∀n B,find T.bl n=some B->Jr S (j9 s T.oJ) E w n B:=tp h2 PL hqs
    have zu:=CU (f:=j9 s T.oJ) h h1 (BU.trans PL) AX
    have X5:∀n n' B B' m,find T.bl n=some B->find T.bl n'=some B'->find (j9 s T.oJ) n=some (some m)->find (j9 s T.oJ) n'=some (some m)->n=n':=fun n n' B B' m hB zD hm hm'=>by
     have g:∀{k D},find T.bl k=some D->find (j9 s T.oJ) k=some (some m)->find s k=some (some m):=fun {k D} hD hk=>by
      rcases abN k D hD with ⟨wW,_⟩|⟨m',_,wW,_⟩
      ·rw[PL _ _ wW] at hk;cases hk
      ·rw[PL _ _ wW] at hk;cases hk;exact wW
     exact BG abG n n' m (g hB hm) (g zD hm')
    clear PL abN BU
    generalize j9 s T.oJ=s at *
    have Nk:∀n m,find s n=some (some m)->(s.env E).place n=E.place m:=fun n m hf=>by
     show s.place E n=_
     unfold Ren.place
     rw[hf]
    have yn:∀n,find s n=some none->(s.env E).place n=some ⟨true,0,0,0⟩:=fun n hf=>by
     show s.place E n=_
     unfold Ren.place
     rw[hf]
    have back:∀n B p,find T.bl n=some B->(s.env E).place n=some p->p.nil=false->∃m B',find s n=some (some m)/\find S.bl m=some B'/\E.place m=some p/\gg E w p B'/\B.mut=B'.mut:=fun n B p hf hp hn=>by
     rcases pI n B hf with ⟨wW,_⟩|⟨m,B',wW,BY,ED⟩
     ·rw[yn n wW] at hp;cases hp;cases hn
     ·rw[Nk n m wW] at hp
      obtain⟨q,hq,k⟩:=h.cn m B' BY
      rw[hp] at hq
      cases hq
      exact⟨m,B',wW,BY,hp,k,(ED p k).2⟩
    refine⟨s.env E,{keep:=h.keep,m7:=h.m7,src:=h.src,cn:=fun n B hf=> ?_,own:=fun n B p hf hp qv=> ?_,inj:=fun n n' B B' p p' hf eh hp dn qv KI kz=> ?_,used:=fun n p hp=> ?_,ib:=fun n ts v hf ht=>(zu n ts v hf).2,size:= ?_,defers:=h.defers,pins:=fun n p hp=> ?_,dY:=fun n ts v hf ht=> ?_}⟩
    ·rcases pI n B hf with ⟨wW,hB⟩|⟨m,B',wW,BY,ED⟩
     ·exact⟨_,yn n wW,hB⟩
     ·obtain⟨q,hq,k⟩:=h.cn m B' BY
      exact⟨q,(Nk n m wW).trans hq,(ED q k).1⟩
    ·obtain⟨m,B',wW,BY,nW,k,aix⟩:=back n B p hf hp qv
     have:=h.own m B' p BY nW qv
     exact⟨this.1,fun hm=>this.2 (aix▸hm)⟩
    ·obtain⟨m,D,wW,BY,nW,_,_⟩:=back n B p hf hp qv
     obtain⟨m',D',aiP,Yb,air,_,_⟩:=back n' B' p' eh dn KI
     refine h.inj m m' D D' p p' BY Yb nW air qv KI fun e=>kz ?_
     subst e
     exact X5 n n' B B' m hf eh wW aiP
    ·have hp:s.place E n=some p:=hp
     unfold Ren.place at hp
     split at hp
     ·cases hp
     ·rename_i hf;exact EC n _ hf
     ·rename_i m hf;exact EC n _ hf
    ·exact h.size.trans (Nat.eq_of_beq_eq_true hb.2.1)
    ·obtain⟨g1,g2⟩:=h.pins n p hp
     rw[BO hb.2.2.1] at g1
     exact⟨g1,(Nk n n (Fz hb.2.2.2.2 n g1)).trans g2⟩
    ·have:=(zu n ts v hf).1
     subst this
     exact absurd (fun t ht=>by cases ht) ht
   ·cases hm
theorem HR {cs:List Prop} (hm:HS S T=some cs) (h:ek w0 foot base S E a w) (hc:∀p∈cs,p):∃E',ek w0 foot base T E' a w:=by
 unfold HS at hm
 split at hm
 ·rename_i ps h1
  cases hm
  exact zj h1 h hc
 ·exact zj hm h hc
def Di (S:St) (m:Nat):St:=
 match find S.bl m with
 |some (.row false e t xs)=>{S with bl:=cE [(m,.row true e t xs)] S.bl}
 |some (.map false k v x _)=>{S with bl:=cE [(m,.map true k v x none)] S.bl}
 |_=>S
theorem Nz (h:ek w0 foot base S E a w) (m:Nat):∃E',ek w0 foot base (Di S m) E' a w:=by
 unfold Di
 split
 ·rename_i e t xs hf
  obtain⟨E',hle,nW,_,hR⟩:=h.toHRel.cE (kV.one (D:= .row true e t xs) hf (.inl ⟨_,_,_,_,rfl,rfl⟩))
  exact⟨E',{toHRel:=hR,ib:=fun n ts v hs ht=>(h.ib n ts v hs ht).mono hle,size:=h.size,defers:=h.defers,pins:=fun n p hp=>⟨(h.pins n p hp).1,by rw[nW];exact(h.pins n p hp).2⟩,dY:=h.dY}⟩
 ·rename_i k v x c hf
  obtain⟨E',hle,nW,_,hR⟩:=h.toHRel.cE (kV.one (D:= .map true k v x none) hf (.inr (.inr ⟨_,_,_,_,_,rfl,rfl⟩)))
  exact⟨E',{toHRel:=hR,ib:=fun n ts v hs ht=>(h.ib n ts v hs ht).mono hle,size:=h.size,defers:=h.defers,pins:=fun n p hp=>⟨(h.pins n p hp).1,by rw[nW];exact(h.pins n p hp).2⟩,dY:=h.dY}⟩
 ·exact⟨E,h⟩
def B7 (S:St):List Nat->St
 |[]=>S
 |m::l=>B7 (Di S m) l
theorem zH:∀{l:List Nat} {S:St} {E:Env},ek w0 foot base S E a w->∃E',ek w0 foot base (B7 S l) E' a w
 |[],S,E,h=>⟨E,h⟩
 |m::l,S,E,h=>by
  obtain⟨E',h'⟩:=Nz h m
  exact zH (l:=l) (S:=Di S m) h'
def Tz:List (Nat×c7)->Bool
 |[]=>false
 |(_,.row true _ _ _)::_=>true
 |(_,.map true _ _ _ _)::_=>true
 |_::l=>Tz l
def tJ (r:Ren):List (Nat×c7)->List Nat
 |[]=>[]
 |(n,.row true _ _ _)::l=>(match find r n with
  |some (some m)=>m::tJ r l
  |_=>tJ r l)
 |(n,.map true _ _ _ _)::l=>(match find r n with
  |some (some m)=>m::tJ r l
  |_=>tJ r l)
 |_::l=>tJ r l
def B6 (S T:St):St:=
 match Tz T.bl with
 |false=>S
 |true=>(match uL S (M9 S T.bl) T.sl with
  |none=>S
  |some (r,_)=>B7 S (tJ r T.bl))
theorem It (h:ek w0 foot base S E a w):∃E',ek w0 foot base (B6 S T) E' a w:=by
 unfold B6
 split
 ·exact⟨E,h⟩
 ·split
  ·exact⟨E,h⟩
  ·exact zH h
def Sx (X:Ctx) (k:Nat) (pT:List Operand):RM ij:=do
 let vs <-sZ pT
 let cs <-tO vs
 let ty <-RM.ofOption (find X.clos k)
 let y <-reify ty cs
 return y.2
def xT (X:Ctx) (o:Oper) (S:St):St:=
 match o.guard,o.op with
 |some _,.makeFunc (.func k) _ pT=>(match(Sx X k pT.toList).run S [] with
  |some fr=>{S with bl:=cE fr S.bl}
  |none=>S)
 |_,_=>S
def BH (X:Ctx):List Oper->St->St
 |[],S=>S
 |o::l,S=>BH X l (xT X o S)
theorem Ix (h:ek w0 foot base S E a w) (o:Oper):∃E',ek w0 foot base (xT X o S) E' a w:=by
 unfold xT
 split
 ·split
  ·rename_i fr hr
   obtain⟨vs,_,hr⟩:=RM.run_bind' hr
   obtain⟨cs,_,hr⟩:=RM.run_bind' hr
   obtain⟨ty,_,hr⟩:=RM.run_bind' hr
   obtain⟨y,h4,hr⟩:=RM.run_bind' hr
   cases RM.run_pure' hr
   obtain⟨E',hle,nW,_,hR⟩:=h.toHRel.cE (gD h4)
   exact⟨E',{toHRel:=hR,ib:=fun n ts v hs ht=>(h.ib n ts v hs ht).mono hle,size:=h.size,defers:=h.defers,pins:=fun n p hp=>⟨(h.pins n p hp).1,by rw[nW];exact(h.pins n p hp).2⟩,dY:=h.dY}⟩
  ·exact⟨E,h⟩
 ·exact⟨E,h⟩
theorem za:∀{l:List Oper} {S:St} {E:Env},ek w0 foot base S E a w->∃E',ek w0 foot base (BH X l S) E' a w
 |[],S,E,h=>⟨E,h⟩
 |o::l,S,E,h=>by
  obtain⟨E',h'⟩:=Ix (X:=X) h o
  exact za (l:=l) (S:=xT X o S) h'
inductive Ex where
 |normal
 |exit (id:Nat)
 |ret
structure LA where
 σ:Type
 ok:σ->Prop
 mu:σ->Nat
 sl:σ->List (Nat×SV)
 bl:σ->List (Nat×c7)
 keep:List Nat
 cv:List Nat
def M0 (S:St):List Nat->List (Nat×(c9×SV))
 |[]=>[]
 |n::l=>match find S.sl n with
  |some ([],v)=>(n,[],v)::M0 S l
  |_=>M0 S l
def GN (S:St):List Nat->List (Nat×c7)
 |[]=>[]
 |n::l=>match find S.bl n with
  |some B=>(n,B)::GN S l
  |none=>GN S l
def Wv:List (Nat×SV)->List (Nat×(c9×SV))
 |[]=>[]
 |(n,v)::l=>(n,[],v)::Wv l
def Xu:List (Nat×c7)->List Nat
 |[]=>[]
 |(n,_)::l=>n::Xu l
def M4 (S:St) (L:LA) (s:L.σ):St:=
 {sl:=Wv (L.sl s)++M0 S L.keep
  bl:=L.bl s++GN S L.cv
  used:=Xu (L.bl s++GN S L.cv)++S.oJ
  n:=S.n
  oJ:=S.oJ}
structure eA where
 loop:Nat->Option (St->LA)
 split:Nat->Bool
def vI:Code->Option Nat
 | .region id _ _=>some id
 | .seq a b=>(match vI a with
  |some n=>some n
  |none=>vI b)
 | .cond _ a b=>(match vI a with
  |some n=>some n
  |none=>vI b)
 | .block _ c=>vI c
 | .loop c=>vI c
 | .scope c=>vI c
 |_=>none
def GJ (S T:St) (q:Prop):Prop:=
 match HS (B6 S T) T with
 |some cs=>u5 cs q
 |none=>False
def WA (A:eA):Operand->Bool
 | .tmp t=>A.split t
 |_=>true
def Ow (k:St->Prop) (Q:Ex->St->Prop):Ex->St->Prop
 | .normal,S=>k S
 |e,S=>Q e S
def SC (id:Nat) (Q:Ex->St->Prop):Ex->St->Prop
 | .exit i,S=>(match Nat.beq i id with
  |true=>Q .normal S
  |false=>Q (.exit i) S)
 |e,S=>Q e S
def vc (X:Ctx) (A:eA):Code->St->(Ex->St->Prop)->Prop
 | .skip,S,Q=>Q .normal S
 | .region _ ops draw,S,Q=>match region X ops draw S with
  |some (recs,S')=>u5 (pM recs) (Q .normal S')
  |none=>(match !draw&&clean S.sl with
   |true=>vT X ops ops.toList S [] (Q .normal)
   |false=>(match region X ops draw (BH X ops.toList S) with
    |some (recs,S')=>u5 (pM recs) (Q .normal S')
    |none=>False))
 | .seq x y,S,Q=>vc X A x S (Ow (fun S1=>vc X A y S1 Q) Q)
 | .cond c x y,S,Q=>match(match WA A c with
   |true=>none
   |false=>ex X (.cond c x y) S) with
  |some (cs,_,S')=>u5 cs (Q .normal S')
  |none=>match(do JW (<-ev c):RM Bool).run S [] with
   |some b=>(b=true->vc X A x S Q)/\(b=false->vc X A y S Q)
   |none=>False
 | .block id c,S,Q=>vc X A c S (SC id Q)
 | .exit id,S,Q=>Q (.exit id) S
 | .ret,S,Q=>Q .ret S
 | .label _,S,Q=>Q .normal S
 | .scope c,S,Q=>vc X A c S Q
 | .loop c,S,Q=>match(match vI c with
   |some n=>A.loop n
   |none=>none) with
  |some la=>(∃s0,(la S).ok s0/\GJ S (M4 S (la S) s0) True)/\
    ∀s,(la S).ok s->vc X A c (M4 S (la S) s) (Ow (fun S'=>∃s',(la S).ok s'/\(la S).mu s'<(la S).mu s/\GJ S' (M4 S (la S) s') True) Q)
  |none=>False
 |_,_,_=>False
def akI (w0:World) (foot:gM) (base:Mem) (Q:Ex->St->Prop):Exit->Act->World->Prop
 | .normal,a,w=>∃S E,Q .normal S/\ek w0 foot base S E a w
 | .exit id,a,w=>∃S E,Q (.exit id) S/\ek w0 foot base S E a w
 | .ret,a,w=>∃S E,Q .ret S/\ek w0 foot base S E a w
 |_,_,_=>False
theorem Be {q:Prop} (hm:GJ S T q) (h:ek w0 foot base S E a w):∃E',ek w0 foot base T E' a w:=by
 unfold GJ at hm
 split at hm
 ·rename_i cs mF
  obtain⟨E',h'⟩:=It (T:=T) h
  exact HR mF h' (iW hm).1
 ·cases hm
theorem oV (hT:dx P X.aA) (hK:∀f dD,X.dD f=some dD->mB P f dD) {A:eA}:∀{c:Code} {S:St} {Q:Ex->St->Prop} {E:Env} {a:Act} {w:World},vc X A c S Q->ek w0 foot base S E a w->c.wp P (akI w0 foot base Q) a w
 | .skip,S,Q,E,a,w,h,hR=>wp_skip ⟨S,E,h,hR⟩
 | .label _,S,Q,E,a,w,h,hR=>wp_label ⟨S,E,h,hR⟩
 | .exit id,S,Q,E,a,w,h,hR=>wp_exit ⟨S,E,h,hR⟩
 | .ret,S,Q,E,a,w,h,hR=>wp_ret ⟨S,E,h,hR⟩
 | .region id ops draw,S,Q,E,a,w,h,hR=>by
  unfold vc at h
  split at h
  ·rename_i recs S' hr
   exact vU hT hK hr hR (iW h).1 fun E' a' w' h'=>⟨S',E',(iW h).2,h'⟩
  ·split at h
   ·rename_i hb
    simp only[Bool.and_eq_true,Bool.not_eq_true'] at hb
    obtain⟨rfl,mr⟩:=hb
    exact Gm hT hK h mr hR fun S' E' a' w' hq h'=>⟨S',E',hq,h'⟩
   ·split at h
    ·rename_i recs S' hr
     obtain⟨E1,h1⟩:=za (X:=X) (l:=ops.toList) hR
     exact vU hT hK hr h1 (iW h).1 fun E' a' w' h'=>⟨S',E',(iW h).2,h'⟩
    ·cases h
 | .seq x y,S,Q,E,a,w,h,hR=>by
  unfold vc at h
  refine wp_seq (wp_mono (oV hT hK h hR) fun e a' w' hp=> ?_)
  cases e with
  |normal=>obtain⟨S',E',h1,h2⟩:=hp;exact oV hT hK h1 h2
  |exit id=>exact hp
  |ret=>exact hp
  |goto l=>exact hp
  |panic ch=>exact hp
  |outgrown=>exact hp
 | .cond c x y,S,Q,E,a,w,h,hR=>by
  unfold vc at h
  split at h
  ·rename_i cs ch S' hx
   have hx:ex X (.cond c x y) S=some (cs,ch,S'):=by
    split at hx
    ·cases hx
    ·exact hx
   exact(rY hT hK hx).2 hR (iW h).1 fun E' a' w' h'=>⟨S',E',(iW h).2,h'⟩
  ·split at h
   ·rename_i b hb
    obtain⟨s,e1,e2⟩:=RM.run_bind' hb
    have hv:=z8 (gi hR.toSRel (fun t ht=>by cases ht) e1) e2
    exact wp_cond_split hv (fun ht=>oV hT hK (h.1 ht) hR) (fun ht=>oV hT hK (h.2 ht) hR)
   ·cases h
 | .block id c,S,Q,E,a,w,h,hR=>by
  unfold vc at h
  refine wp_block (wp_mono (oV hT hK h hR) fun e a' w' hp=> ?_)
  cases e with
  |normal=>exact hp
  |exit i=>
   obtain⟨S',E',h1,h2⟩:=hp
   have h1:(match Nat.beq i id with |true=>Q .normal S'|false=>Q (.exit i) S'):=h1
   show if i=id then _ else _
   split at h1
   ·rename_i hb
    rw[if_pos (Nat.eq_of_beq_eq_true hb)]
    exact⟨S',E',h1,h2⟩
   ·rename_i hb
    rw[if_neg (fun e=>by subst e;simp at hb)]
    exact⟨S',E',h1,h2⟩
  |ret=>exact hp
  |goto l=>exact hp
  |panic ch=>exact hp
  |outgrown=>exact hp
 | .loop c,S,Q,E,a,w,h,hR=>by
  unfold vc at h
  split at h
  ·rename_i la hla
   obtain⟨⟨s0,k0,k1⟩,k2⟩:=h
   obtain⟨E0,hE0⟩:=Be k1 hR
   refine wp_loop_ghost (fun n a w=>∃s E,(la S).ok s/\(la S).mu s=n/\ek w0 foot base (M4 S (la S) s) E a w) _ ⟨s0,E0,k0,rfl,hE0⟩ ?_
   rintro n a1 w1 ⟨s,E1,hs,rfl,h1⟩
   refine wp_mono (oV hT hK (k2 s hs) h1) fun e a' w' hp=> ?_
   cases e with
   |normal=>
    obtain⟨S',E',⟨s',q1,q2,q3⟩,h2⟩:=hp
    obtain⟨E'',h3⟩:=Be q3 h2
    exact⟨_,q2,s',E'',q1,rfl,h3⟩
   |exit id=>exact hp
   |ret=>exact hp
   |goto l=>exact hp
   |panic ch=>exact hp
   |outgrown=>exact hp
  ·cases h
 | .scope c,S,Q,E,a,w,h,hR=>by
  unfold vc at h
  refine wp_scope_straight (wp_mono (oV hT hK h hR) fun e a' w' hp=> ?_)
  cases e with
  |normal=>exact hp
  |exit id=>exact hp
  |ret=>exact hp
  |goto l=>cases hp
  |panic ch=>cases hp
  |outgrown=>cases hp
 | .rangeFunc _ _ _ _,_,_,_,_,_,h,_=>by cases h
 | .goto _,_,_,_,_,_,h,_=>by cases h
end Go.Vc
end

section
set_option linter.unusedVariables false
set_option linter.unusedSimpArgs false
namespace Go.Vc
open Go
variable {P:Program} {X:Ctx} {w0:World} {foot:gM} {base:Mem} {S T:St} {E:Env} {a:Act} {w:World} {ctx:c9}
@[reducible] def kC (ts:List Ty):Type:=List.rec (motive:=fun _=>Type) Unit (fun t _ d=>t.den×d) ts
def QM:(ts:List Ty)->kC ts->Prop
 |[],_=>True
 |t::ts,x=>t.wf x.1/\QM ts x.2
inductive Out where
 |data (ts:List Ty)
 |row (e:Nat) (t:Ty)
 |fresh (ts:List Ty)
def Out.Jx:Out->List Ty
 | .data ts=>ts
 | .row _ t=>[.list t]
 | .fresh ts=>ts
structure bg where
 args:List Ty
 out:Out
 pre:kC args->Prop
 fn:kC args->kC out.Jx
def nA (F:Mem) (t:Ty) (x:t.den) (v:Value):Prop:=
 match t.isAgg with
 |true=>∃vs,v= .agg vs/\dj F t x vs.toList
 |false=>dj F t x [v]
def lv (F:Mem):(ts:List Ty)->kC ts->List Value->Prop
 |[],_,vs=>vs=[]
 |t::ts,x,vs=>∃v us,vs=v::us/\nA F t x.1 v/\lv F ts x.2 us
theorem nA.mono {F F':Mem} (h:F.le F') {t:Ty} {x:t.den} {v:Value} (k:nA F t x v):nA F' t x v:=by
 unfold nA at *
 split at k
 ·obtain⟨vs,e,k⟩:=k;exact⟨vs,e,k.mono h⟩
 ·exact k.mono h
theorem lv.mono {F F':Mem} (h:F.le F'):∀{ts:List Ty} {x:kC ts} {vs:List Value},lv F ts x vs->lv F' ts x vs
 |[],_,_,k=>k
 |t::ts,x,vs,k=>by
  obtain⟨v,us,e,k1,k2⟩:=k
  exact⟨v,us,e,k1.mono h,k2.mono h⟩
theorem lv.length {F:Mem}:∀{ts:List Ty} {x:kC ts} {vs:List Value},lv F ts x vs->vs.length=ts.length
 |[],_,_,k=>by have k:_=_:=k;subst k;rfl
 |t::ts,x,vs,k=>by
  obtain⟨v,us,e,k1,k2⟩:=k
  subst e
  simp[k2.length]
theorem nA.wf {F:Mem} {t:Ty} {x:t.den} {v:Value} (k:nA F t x v):t.wf x:=by
 unfold nA at k
 split at k
 ·obtain⟨vs,e,k⟩:=k;exact k.wf
 ·exact k.wf
theorem lv.QM {F:Mem}:∀{ts:List Ty} {x:kC ts} {vs:List Value},lv F ts x vs->QM ts x
 |[],_,_,_=>trivial
 |t::ts,x,vs,k=>by
  obtain⟨v,us,e,k1,k2⟩:=k
  exact⟨k1.wf,k2.QM⟩
theorem nA.ah5 {F:Mem} {t:Ty} {x:t.den} {v:Value} (k:nA F t x v):jK F t x v:=by
 unfold nA at k
 cases hb:t.isAgg with
 |true=>
  rw[hb] at k
  obtain⟨vs,e,k⟩:=k
  exact⟨vs.toList,k,by unfold Ty.valOf;rw[hb,e]⟩
 |false=>
  rw[hb] at k
  exact⟨[v],k,by unfold Ty.valOf;rw[hb];rfl⟩
theorem jK.afZ {F:Mem} {t:Ty} {x:t.den} {v:Value} (k:jK F t x v):nA F t x v:=by
 obtain⟨us,k,e⟩:=k
 unfold Ty.valOf at e
 unfold nA
 cases hb:t.isAgg with
 |true=>
  rw[hb] at e
  exact⟨_,e,k⟩
 |false=>
  rw[hb] at e
  have hl:=k.length
  have h1:t.size=1:=by cases t<;>first|rfl|cases hb
  rw[h1] at hl
  obtain⟨u,rfl⟩:=List.length_eq_one_iff.1 hl
  rw[show v=u from e]
  exact k
theorem J6 {t:Ty} {x:t.den} {v:Value} (k:nA E.F t x v):fz E (Hc t x) v:=k.ah5.sv
def oH:(ts:List Ty)->List SV->RM (kC ts×ij)
 |[],ss=>(match ss with
  |[]=> .ret ((),[])
  |_=> .fail)
 |t::ts,ss=>(match ss with
  |[]=> .fail
  |s::ss=>do
   let x <-reify t (<-Jk t s)
   let y <-oH ts ss
   cS (pb x.2 y.2)
   return ((x.1,y.1),x.2++y.2))
theorem CF {t:Ty} {s:SV} {cs:List C} {x:t.den} {fr:ij} {v:Value} (h1:(Jk t s).run S ctx=some cs) (h2:(reify t cs).run S ctx=some (x,fr)) (hv:fz E s v) (hf:ft S.bl E w fr):nA E.F t x v:=
 (Ch h1 h2 hv hf).afZ
theorem wJ:∀{ts:List Ty} {ss:List SV} {x:kC ts} {fr:ij},(oH ts ss).run S ctx=some (x,fr)->kV S.bl fr
 |[],ss,x,fr,h=>by
  unfold oH at h
  split at h
  ·cases h;exact .nil
  ·cases h
 |t::ts,ss,x,fr,h=>by
  unfold oH at h
  split at h
  ·cases h
  ·rename_i s Z0
   obtain⟨cs,h1,h⟩:=RM.run_bind' h
   obtain⟨y,h2,h⟩:=RM.run_bind' h
   obtain⟨z,h3,h⟩:=RM.run_bind' h
   obtain⟨_,h4,h⟩:=RM.run_bind' h
   cases RM.run_pure' h
   exact(gD h2).append (wJ h3) (bR h4)
theorem yX:∀{ts:List Ty} {ss:List SV} {x:kC ts} {fr:ij} {vs:List Value},(oH ts ss).run S ctx=some (x,fr)->gF E ss vs->ft S.bl E w fr->lv E.F ts x vs
 |[],ss,x,fr,vs,h,hv,hf=>by
  unfold oH at h
  split at h
  ·cases h;exact hv
  ·cases h
 |t::ts,ss,x,fr,vs,h,hv,hf=>by
  unfold oH at h
  split at h
  ·cases h
  ·rename_i s Z0
   obtain⟨cs,h1,h⟩:=RM.run_bind' h
   obtain⟨y,h2,h⟩:=RM.run_bind' h
   obtain⟨z,h3,h⟩:=RM.run_bind' h
   obtain⟨_,h4,h⟩:=RM.run_bind' h
   cases RM.run_pure' h
   obtain⟨v,us,rfl,k1,k2⟩:=hv
   exact⟨v,us,rfl,CF h1 h2 k1 hf.left,yX h3 k2 hf.right⟩
def Ty.jf:Ty->Bool
 | .list _=>false
 | .pair a b=>a.jf&&b.jf
 | .ref _=>false
 | .ptr _=>false
 | .lN _ _=>false
 | .map _ _=>false
 |_=>true
theorem dj.jf {F F':Mem}:∀{t:Ty} {x:t.den} {vs:List Value},t.jf=true->dj F t x vs->dj F' t x vs
 | .int _,_,_,_,h=>h
 | .bool,_,_,_,h=>h
 | .str,_,_,_,h=>h
 | .list _,_,_,hb,_=>by cases hb
 | .unit,_,_,_,h=>h
 | .pair a b,_,_,hb,h=>by
  have hb:(a.jf&&b.jf)=true:=hb
  simp only[Bool.and_eq_true] at hb
  obtain⟨us,ws,h0,h1,h2⟩:=h
  exact⟨us,ws,h0,dj.jf hb.1 h1,dj.jf hb.2 h2⟩
def Mw:(ts:List Ty)->kC ts->List (Bool×List C)
 |[],_=>[]
 |t::ts,x=>(t.isAgg,flat t x.1)::Mw ts x.2
def Dv (ts:List Ty) (x:kC ts):SV:=
 match ts,x with
 |[t],x=>Hc t x.1
 |ts,x=> .yv (Mw ts x)
def Out.val (id:Nat):(o:Out)->kC o.Jx->SV
 | .data ts,x=>Dv ts x
 | .row _ t,_=> .one (.row t id)
 | .fresh ts,x=>Dv ts x
def Out.bl (id:Nat):(o:Out)->kC o.Jx->List (Nat×c7)
 | .data _,_=>[]
 | .row e t,x=>[(id,.row false e t x.1)]
 | .fresh _,_=>[]
def Out.new (id:Nat):Out->List Nat
 | .data _=>[]
 | .row _ _=>[id]
 | .fresh _=>[]
def Out.free:Out->Bool
 | .data ts=>ts.all Ty.jf
 | .row _ t=>t.jf
 | .fresh _=>true
def Out.Po:Out->Bool
 | .fresh _=>true
 |_=>false
def lE (F:Mem) (ts:List Ty) (x:kC ts) (v:Value):Prop:=
 match ts,x with
 |[t],x=>nA F t x.1 v
 |ts,x=>∃vs,v= .tuple vs/\lv F ts x vs.toList
def Out.dj (F:Mem) (w w':World):(o:Out)->kC o.Jx->Value->Prop
 | .data ts,x,v=>lE F ts x v
 | .row e t,x,v=>∃p:Place,(p.nil=false->w.heap.size<=p.bp/\F p.bp=none)/\gg ⟨F,fun _=>none⟩ w' p (.row false e t x.1)/\
   ((p.nil=true/\v= .slice none 0 0/\p.len=0)\/(p.nil=false/\v= .slice (some ⟨p.bp,0,none⟩) p.len p.cap/\p.len<=p.cap/\p.cap<=aM))
 | .fresh ts,x,v=>∃G:Mem,G.le F/\(∀b o,G b=some o->w.heap.size<=b)/\lE G ts x v
structure aN (P:Program) (f:Nat) (c:bg):Prop where
 fn:∃fn code,P.funcs[f]? =some fn/\(fn.name=="runtime.NumGoroutine")=false/\fn.body=some code
 calls:∀(F:Mem) (w:World) (x:kC c.args) (vs:List Value),(∀b o,F b=some o->w.heap[b]? =some o)->lv F c.args x vs->c.pre x->
  Calls P f vs.toArray w fun e w'=>∃v F',e= .returned v/\F.le F'/\(∀b o,F' b=some o->w'.heap[b]? =some o)/\(∀b o,F' b=some o->F b=some o\/w.heap.size<=b)/\
   sQ (fun _=>False) w w'/\c.out.dj F' w w' (c.fn x) v
def bg.dD (c:bg):SX where
 run ss d:=do
  let x <-oH c.args ss
  .ret {val:=some (c.out.val d (c.fn x.1)),cn:=(match c.out.free with
   |true=>[]
   |false=>x.2)++c.out.bl d (c.fn x.1),new:=c.out.new d,conds:=[c.pre x.1]}
theorem lv.go {F:Mem} {G:Mem} (hG:E.F=G) (h:F.le G):∀{ts:List Ty} {x:kC ts} {vs:List Value},lv F ts x vs->fz.go E (Mw ts x) vs
 |[],_,_,k=>k
 |t::ts,x,vs,k=>by
  obtain⟨v,us,e,k1,k2⟩:=k
  refine⟨v,us,e,?_,k2.go hG h⟩
  have k1:=k1.mono h
  rw[<-hG] at k1
  unfold nA at k1
  cases hb:t.isAgg with
  |true=>
   rw[hb] at k1
   obtain⟨ws,e,k⟩:=k1
   exact⟨ws,e,gN k⟩
  |false=>
   rw[hb] at k1
   have k2:=gN (E:=E) k1
   have hl:=tz t x.1
   have h1:t.size=1:=by cases t<;>first|rfl|cases hb
   rw[h1] at hl
   obtain⟨c,hc⟩:=List.length_eq_one_iff.1 hl
   rw[hc] at k2
   obtain⟨u,hu,k2⟩:=jB k2
   cases hu
   exact⟨c,hc,k2⟩
theorem lE.val {ts:List Ty} {x:kC ts} {v:Value} (k:lE E.F ts x v):fz E (Dv ts x) v:=by
 unfold lE at k
 unfold Dv
 split at k
 ·exact J6 k
 ·obtain⟨vs,rfl,k⟩:=k
  exact⟨vs,rfl,k.go rfl (.refl _)⟩
theorem nA.jf {F F':Mem} {t:Ty} {x:t.den} {v:Value} (hb:t.jf=true) (k:nA F t x v):nA F' t x v:=by
 unfold nA at *
 split at k
 ·obtain⟨vs,e,k⟩:=k;exact⟨vs,e,k.jf hb⟩
 ·exact k.jf hb
theorem lv.jf {F F':Mem}:∀{ts:List Ty} {x:kC ts} {vs:List Value},ts.all Ty.jf=true->lv F ts x vs->lv F' ts x vs
 |[],_,_,_,k=>k
 |t::ts,x,vs,hb,k=>by
  simp only[List.all_cons,Bool.and_eq_true] at hb
  obtain⟨v,us,e,k1,k2⟩:=k
  exact⟨v,us,e,k1.jf hb.1,k2.jf hb.2⟩
theorem lE.jf {F F':Mem} {ts:List Ty} {x:kC ts} {v:Value} (hb:ts.all Ty.jf=true) (k:lE F ts x v):lE F' ts x v:=by
 unfold lE at *
 split at k
 ·simp only[List.all_cons,List.all_nil,Bool.and_true] at hb
  exact k.jf hb
 ·obtain⟨vs,e,k⟩:=k;exact⟨vs,e,k.jf hb⟩
theorem HRel.ae7 {bl:List (Nat×c7)} {used:List Nat} (h:HRel w0 foot base bl used E w) {d:Nat} {p:Place} {B:c7} (hd:d∉used)
  (hp:p.nil=false->w0.heap.size<=p.bp/\E.F p.bp=none/\∀i B' q,find bl i=some B'->E.place i=some q->q.nil=false->q.bp≠p.bp)
  (hB:gg (E.new d p) w p B):HRel w0 foot base (put bl d B) (d::used) (E.new d p) w:=by
 cases hn:p.nil with
 |true=>exact h.MI hd hn hB
 |false=>
  obtain⟨h1,h2,h3⟩:=hp hn
  have dQ:=hB.lt hn
  obtain⟨o,ho⟩:∃o,w.heap[p.bp]? =some o:=⟨_,Array.getElem?_eq_getElem dQ⟩
  have hw:eu w p.bp o=w:=by
   unfold eu
   have:w.heap.setIfInBounds p.bp o=w.heap:=by
    apply Array.ext_getElem?
    intro i
    by_cases hi:p.bp=i
    ·subst hi;rw[Array.getElem?_setIfInBounds_self_of_lt dQ,ho]
    ·rw[Array.getElem?_setIfInBounds_ne hi]
   rw[this]
  have:=h.attach (o:=o) hd hn rfl dQ (.inl h1) h2 h3 (by rw[hw];exact hB)
  rw[hw] at this
  exact this
theorem gF.mono {E E':Env} (h:E.le E'):∀{ss:List SV} {vs:List Value},gF E ss vs->gF E' ss vs
 |[],_,k=>k
 |s::ss,_,k=>by
  obtain⟨v,us,e,k1,k2⟩:=k
  exact⟨v,us,e,k1.mono h,k2.mono h⟩
theorem lE.mono {F F':Mem} (h:F.le F'):∀{ts:List Ty} {x:kC ts} {v:Value},lE F ts x v->lE F' ts x v
 |[],_,_,k=>by obtain⟨vs,e,k⟩:=k;exact⟨vs,e,lv.mono h k⟩
 |[t],_,_,k=>nA.mono h k
 |_::_::_,_,_,k=>by obtain⟨vs,e,k⟩:=k;exact⟨vs,e,lv.mono h k⟩
theorem Out.dj.free {F F2:Mem} {w w':World} {o:Out} {y:kC o.Jx} {v:Value} (hnf:o.Po=false) (hf:o.free=true) (h2:∀b,w.heap.size<=b->F2 b=none) (k:o.dj F w w' y v):o.dj F2 w w' y v:=by
 cases o with
 |data ts=>exact lE.jf hf k
 |row e t=>
  obtain⟨p,k1,k2,k3⟩:=k
  refine⟨p,fun hn=>⟨(k1 hn).1,h2 _ (k1 hn).1⟩,?_,k3⟩
  rcases k2 with k2|⟨hn,h0,h1,vs,h3,h4,h5,h6⟩
  ·exact .inl k2
  ·refine .inr ⟨hn,h0,h1,vs,h3,h4,fun h=>(by cases h),fun i x hx=> ?_⟩
   obtain⟨us,q1,q2⟩:=h6 i x hx
   exact⟨us,q1.jf hf,q2⟩
 |fresh ts=>cases hnf
theorem Out.dj.after {bl:List (Nat×c7)} {used:List Nat} {w w':World} {o:Out} {y:kC o.Jx} {v:Value} {d:Nat} (hR:HRel w0 foot base bl used E w') (hd:∀i∈o.new d,i∉used) (iT:w0.heap.size<=w.heap.size)
  (hold:∀i B q,find bl i=some B->E.place i=some q->q.nil=false->q.bp<w.heap.size) (k:o.dj E.F w w' y v):
  ∃E',E.le E'/\HRel w0 foot base (gU {cn:=o.bl d y} bl) (o.new d++used) E' w'/\fz E' (o.val d y) v:=by
 cases o with
 |data ts=>exact⟨E,.refl _,hR,lE.val k⟩
 |fresh ts=>
  obtain⟨G,g1,_,g3⟩:=k
  exact⟨E,.refl _,hR,lE.val (g3.mono g1)⟩
 |row e t=>
  obtain⟨p,k1,k2,k3⟩:=k
  have hdu:d∉used:=hd d (List.mem_singleton.2 rfl)
  have jY:E.place d=none:=by
   cases he:E.place d with
   |none=>rfl
   |some q=>exact absurd (hR.used d q he) hdu
  have hle:=Env.nH (p:=p) jY
  refine⟨E.new d p,hle,?_,⟨p,Env.fb,k3⟩⟩
  refine hR.ae7 hdu (fun hn=>⟨Nat.le_trans iT (k1 hn).1,(k1 hn).2,fun i B' q hf hq Dc=> ?_⟩) (k2.mono ⟨.refl _,fun _ _ h=>by cases h⟩)
  have:=hold i B' q hf hq Dc
  have:=(k1 hn).1
  omega
theorem Gz (A B:List (Nat×c7)) (bl:List (Nat×c7)) (r:List Nat) (v:Option SV) (cs:List Prop):gU {val:=v,cn:=A++B,new:=r,conds:=cs} bl=gU {cn:=B} (cE A bl):=by
 simp[gU,cE]
theorem aN.dD {f:Nat} {c:bg} (hc:aN P f c):mB P f c.dD where
 fn:=hc.fn
 calls w0 foot base S ctx E w args vs d r h hv hr cr qn:=by
  obtain⟨⟨x,fr⟩,h1,hr⟩:=RM.run_bind' hr
  cases RM.run_pure' hr
  have pj:c.pre x:=cr _ (List.mem_singleton.2 rfl)
  have ho:=wJ h1
  obtain⟨E2,hle,nW,wS,Ns⟩:=h.cE ho
  have aiL:=ft.qi ho Ns
  have hx:=yX h1 (hv.mono hle) aiL
  refine(hc.calls E2.F w x vs Ns.m7 hx pj).mono fun e w'=> ?_
  rintro⟨v,F',rfl,hF,FW,aeg,hk,vH⟩
  have RY:∀{bl used E},HRel w0 foot base bl used E w->∀i B q,find bl i=some B->E.place i=some q->q.nil=false->q.bp<w.heap.size:=fun hH i B q hf hq hn=>by
   obtain⟨q',nr,k⟩:=hH.cn i B hf
   rw[hq] at nr
   cases nr
   exact k.lt hn
  have fin:∀{A:List (Nat×c7)} {E3:Env},E.le E3->HRel w0 foot base (cE A S.bl) S.used E3 w'->(∀i B q,find (cE A S.bl) i=some B->E3.place i=some q->q.nil=false->q.bp<w.heap.size)->c.out.dj E3.F w w' (c.fn x) v->
    ∃v' E',Ending.returned v= .returned v'/\iF w0 foot base S.bl S.used E {val:=some (c.out.val d (c.fn x)),cn:=A++c.out.bl d (c.fn x),new:=c.out.new d,conds:=[c.pre x]} E' w' v':=fun {A E3} Tu Yi aem ael=>by
   obtain⟨E',q1,q2,q3⟩:=Out.dj.after Yi qn h.keep.size aem ael
   exact⟨v,E',rfl,Tu.trans q1,by rw[Gz];exact q2,q3⟩
  cases wV:c.out.Po with
  |true=>
   obtain⟨ca,co,cp,cf⟩:=c
   cases co with
   |data ts=>cases wV
   |row e t=>cases wV
   |fresh ts=>
    obtain⟨G,g1,g2,g3⟩:=vH
    have Tu:E.F.le (fun b=>match E.F b with |some o=>some o|none=>G b):=fun b o hb=>by
     show(match E.F b with |some o=>some o|none=>G b)=some o
     rw[hb]
    have hG:G.le (fun b=>match E.F b with |some o=>some o|none=>G b):=fun b o hb=>by
     show(match E.F b with |some o=>some o|none=>G b)=some o
     cases he:E.F b with
     |none=>exact hb
     |some o'=>have:=dR (h.m7 _ _ he);have:=g2 b o hb;omega
    have aef:∀b o,(match E.F b with |some o=>some o|none=>G b)=some o->E.F b=some o\/w.heap.size<=b:=fun b o hb=>by
     cases he:E.F b with
     |none=>rw[he] at hb;exact .inr (g2 b o hb)
     |some o'=>rw[he] at hb;exact .inl hb
    have Yi:HRel w0 foot base S.bl S.used {E with F:=fun b=>match E.F b with |some o=>some o|none=>G b} w':=h.MZ hk Tu (fun b o hb=>by
     cases he:E.F b with
     |none=>
      have hb:(match E.F b with |some o=>some o|none=>G b)=some o:=hb
      rw[he] at hb
      exact FW b o (g1 b o hb)
     |some o'=>
      have hb:(match E.F b with |some o=>some o|none=>G b)=some o:=hb
      rw[he] at hb
      cases hb
      exact(hk.block b (dR (h.m7 b _ he)) (fun h=>h)).trans (h.m7 b _ he)) aef
    exact fin (A:=[]) (E3:={E with F:=fun b=>match E.F b with |some o=>some o|none=>G b}) ⟨Tu,fun _ _ h=>h⟩ Yi (fun i B q hf hq hn=>RY h i B q hf hq hn) ⟨G,hG,g2,g3⟩
  |false=>
  cases aeG:c.out.free with
  |true=>
   have Yi:HRel w0 foot base S.bl S.used E w':=h.MZ hk (.refl _) (fun b o hb=>(hk.block b (dR (h.m7 b o hb)) (fun h=>h)).trans (h.m7 b o hb)) (fun b o hb=> .inl hb)
   refine fin (A:=[]) (.refl _) Yi (RY h) (vH.free wV aeG fun b hb=> ?_)
   cases he:E.F b with
   |none=>rfl
   |some o=>have:=dR (h.m7 _ _ he);omega
  |false=>
   exact fin (A:=fr) (E3:={E2 with F:=F'}) (hle.trans ⟨hF,fun _ _ h=>h⟩) (Ns.MZ hk hF FW aeg) (fun i B q hf hq hn=>RY Ns i B q hf hq hn) vH
end Go.Vc
end

section
set_option linter.unusedVariables false
set_option linter.unusedSimpArgs false
namespace Go.Vc
open Go
variable {P:Program} {X:Ctx} {w0:World} {foot:gM} {base:Mem} {S T:St} {E:Env} {a:Act} {w:World} {ctx:c9}
def NZ:(ts:List Ty)->kC ts->Nat->List (Nat×(c9×SV))
 |[],_,_=>[]
 |t::ts,x,i=>(i,[],Hc t x.1)::NZ ts x.2 (i+1)
def S0 (fn:Func) (c:bg) (x:kC c.args):St:={sl:=NZ c.args x 0,bl:=[],used:=[],n:=fn.ntmps}
def OO (X:Ctx):ResultVar->RM SV
 | .tmp t=> .slot [] t .ret
 | .cell a t=>do
  let i <-ti X t
  let cs <-CY i.size (<-lM (.tmp a))
  cS (Nat.beq cs.length i.size)
  CS i.d cs
def IN (X:Ctx):(ts:List Ty)->List ResultVar->kC ts->RM (List Prop×ij)
 |[],rs,_=>(match rs with
  |[]=> .ret ([],[])
  |_=> .fail)
 |t::ts,rs,y=>(match rs with
  |[]=> .fail
  |r::rs=>do
   let z <-reify t (<-Jk t (<-OO X r))
   let q <-IN X ts rs y.2
   cS (pb z.2 q.2)
   return ((z.1=y.1)::q.1,z.2++q.2))
def WK (X:Ctx) (e:Nat) (t:Ty) (r:ResultVar) (y:List t.den):RM (List Prop):=do
 match <-OO X r with
 | .one .kq=> .ret [[]=y]
 | .one (.row tt b)=> .bp b fun
  | .row false e' t' xs=>(match tt.beq t'&&Nat.beq e e' with
   |true=>do
    let zs <-RM.ofOption (Ty.as (a:= .list t') (.list t) (lit xs))
    return [Ty.L zs=y]
   |false=> .fail)
  |_=> .fail
 |_=> .fail
def Tc (X:Ctx) (rs:List ResultVar):(o:Out)->kC o.Jx->RM (List Prop)
 | .data ts,y=>do return (<-IN X ts rs y).1
 | .row e t,y=>(match rs with
  |[r]=>WK X e t r y.1
  |_=> .fail)
 | .fresh _,_=> .fail
def WL (X:Ctx) (rs:List ResultVar) (o:Out) (y:kC o.Jx):Ex->St->Prop
 | .exit _,_=>False
 |_,S=>match(Tc X rs o y).run S [] with
  |some ps=>u5 ps True
  |none=>False
def U {α:Type} (t:α) (p:α->Prop):Prop:=p t
theorem U.mk {α:Type} {t:α} {p:α->Prop} (h:∀y,y=t->p y):U t p:=h t rfl
@[irreducible] def ah (X:Ctx) (fn:Func) (c:bg) (A:eA) (x:kC c.args):Prop:=
 match fn.body with
 |some code=>vc X A code (S0 fn c x) (WL X fn.results.toList c.out (c.fn x))
 |none=>False
def TC (fn:Func) (c:bg):Bool:=Nat.ble c.args.length fn.ntmps&&fn.body.isSome
def ajm (X:Ctx) (fn:Func) (c:bg) (A:kC c.args->eA):Prop:=
 TC fn c=true/\∀x,QM c.args x->c.pre x->ah X fn c (A x) x
theorem Cj {F:Mem}:∀{ts:List Ty} {x:kC ts} {vs:List Value} {i:Nat},lv F ts x vs->∀n tags v,find (NZ ts x i) n=some (tags,v)->
  tags=[]/\i<=n/\n<i+ts.length/\fz ⟨F,fun _=>none⟩ v (vs.getD (n - i) undef)
 |[],x,vs,i,h,n,tags,v,hf=>by cases hf
 |t::ts,x,vs,i,h,n,tags,v,hf=>by
  obtain⟨u,us,rfl,k1,k2⟩:=h
  unfold NZ at hf
  by_cases e:i=n
  ·subst e
   have:some (([]:c9),Hc t x.1)=some (tags,v):=by simpa [find] using hf
   cases this
   refine⟨rfl,Nat.le_refl _,by simp,?_⟩
   simpa using J6 (E:=⟨F,fun _=>none⟩) k1
  ·rw[ei e] at hf
   obtain⟨h1,h2,h3,h4⟩:=Cj k2 n tags v hf
   refine⟨h1,by omega,by simp only[List.length_cons];omega,?_⟩
   have:n - i=(n - (i+1))+1:=by omega
   rw[this]
   simpa using h4
theorem SD {fn:Func} {c:bg} {x:kC c.args} {F:Mem} {vs:List Value} (hlen:Nat.ble c.args.length fn.ntmps=true) (hF:∀b o,F b=some o->w.heap[b]? =some o) (hx:lv F c.args x vs):
  ek w GG F (S0 fn c x) ⟨F,fun _=>none⟩ {tmps:=vs.toArray++Array.replicate (fn.ntmps - vs.toArray.size) undef,defers:=[]} w where
 keep:= .refl _ _
 m7:=hF
 src:=fun b o hb=> .inl hb
 cn:=fun id B hf=>by cases hf
 own:=fun id B p hf=>by cases hf
 inj:=fun id Na B B' p p' hf=>by cases hf
 used:=fun id p hp=>by cases hp
 ib:=fun n tags v hf ht=>by
  obtain⟨h1,h2,h3,h4⟩:=Cj hx n tags v hf
  have hl:=hx.length
  have hn:n<vs.length:=by omega
  rw[Nat.sub_zero] at h4
  have:(vs.toArray++Array.replicate (fn.ntmps - vs.toArray.size) undef).getD n undef=vs.getD n undef:=by
   rw[Array.getD_eq_getD_getElem?,Array.getElem?_append_left (by simpa using hn)]
   simp[List.getD_eq_getElem?_getD]
  show fz _ v ((vs.toArray++Array.replicate (fn.ntmps - vs.toArray.size) undef).getD n undef)
  rw[this]
  exact h4
 size:=by
  have hl:=hx.length
  have:=Nat.le_of_ble_eq_true hlen
  show(vs.toArray++Array.replicate (fn.ntmps - vs.toArray.size) undef).size=fn.ntmps
  simp
  omega
 defers:=rfl
 pins:=fun n p h=>by cases h
 dY:=fun n tags v hf ht=>by
  obtain⟨h1,_⟩:=Cj hx n tags v hf
  subst h1
  exact absurd (fun t ht=>by cases ht) ht
def rd (tmps:Array Value):ResultVar->Sem Value
 | .tmp t=>pure (tmps.getD t undef)
 | .cell b t=>do loadVar t (<-asAddr (tmps.getD b undef))
theorem yV (hT:dx P X.aA) (h:ek w0 foot base S E a w) {r:ResultVar} {s:SV} (hr:(OO X r).run S []=some s):
  ∃v,(rd a.tmps r).run P w= .ok v w/\fz E s v:=by
 cases r with
 |tmp t=>
  exact⟨_,rfl,gi (x:= .tmp t) h.toSRel (ctx:=[]) (fun t ht=>by cases ht) hr⟩
 |cell b t=>
  unfold OO at hr
  obtain⟨i,h1,hr⟩:=RM.run_bind' hr
  obtain⟨c,h2,hr⟩:=RM.run_bind' hr
  obtain⟨cs,h3,hr⟩:=RM.run_bind' hr
  obtain⟨u,h4,hr⟩:=RM.run_bind' hr
  obtain⟨hs,j,hj,e1,e2,e3⟩:=dh hT h1
  obtain⟨g,off,us,hv,k1,k2⟩:=Bg h.toHRel h3 (gu (x:= .tmp b) h.toSRel (ctx:=[]) (fun t ht=>by cases ht) h2)
  have hl:us.length=j.size:=by rw[k1.length,Nat.eq_of_beq_eq_true (bR h4),e1]
  rw[<-hs] at hr
  obtain⟨v,dE,jJ⟩:=Ba hr hj hl k1 k2
  have hv:a.tmps.getD b undef= .pointer (some ⟨g,off,none⟩):=hv
  refine⟨v,?_,jJ⟩
  simp[rd,hv,asAddr,dE]
theorem Dw (hT:dx P X.aA) (h:ek w0 foot base S E a w):∀{ts:List Ty} {rs:List ResultVar} {y:kC ts} {ps:List Prop} {fr:ij},(IN X ts rs y).run S []=some (ps,fr)->(∀p∈ps,p)->
  kV S.bl fr/\∃vs,(rs.mapM (rd a.tmps)).run P w= .ok vs w/\∀E',E.le E'->ft S.bl E' w fr->lv E'.F ts y vs
 |[],rs,y,ps,fr,hr,hp=>by
  unfold IN at hr
  split at hr
  ·cases hr
   exact⟨.nil,[],rfl,fun _ _ _=>rfl⟩
  ·cases hr
 |t::ts,rs,y,ps,fr,hr,hp=>by
  unfold IN at hr
  split at hr
  ·cases hr
  ·rename_i r rs'
   obtain⟨s,h1,hr⟩:=RM.run_bind' hr
   obtain⟨cs,h2,hr⟩:=RM.run_bind' hr
   obtain⟨z,h3,hr⟩:=RM.run_bind' hr
   obtain⟨q,h4,hr⟩:=RM.run_bind' hr
   obtain⟨_,h5,hr⟩:=RM.run_bind' hr
   cases RM.run_pure' hr
   obtain⟨z1,z2⟩:=z
   obtain⟨q1,q2⟩:=q
   obtain⟨v,dE,jJ⟩:=yV hT h h1
   obtain⟨k1,vs,k2,k3⟩:=Dw hT h h4 (fun p hm=>hp p (List.mem_cons_of_mem _ hm))
   have hz:=hp _ List.mem_cons_self
   have hz:z1=y.1:=hz
   subst hz
   refine⟨(gD h3).append k1 (bR h5),v::vs,?_,fun E' hle hf=>⟨v,vs,rfl,CF h2 h3 (jJ.mono hle) hf.left,k3 E' hle hf.right⟩⟩
   simp[List.mapM_cons,dE,k2]
theorem OM (fn:Func) (tmps:Array Value):results fn tmps=(do
  let vs <-fn.results.mapM (rd tmps)
  pure (if h:vs.size=1 then vs[0] else .tuple vs)):=rfl
theorem xA {fn:Func} {tmps:Array Value} {vs:List Value} (h:(fn.results.toList.mapM (rd tmps)).run P w= .ok vs w):(results fn tmps).run P w= .ok (if h:vs.length=1 then vs[0] else .tuple vs.toArray) w:=by
 rw[OM,Array.mapM_eq_mapM_toList]
 simp[h]
theorem lE.of {F:Mem}:∀{ts:List Ty} {x:kC ts} {vs:List Value},lv F ts x vs->lE F ts x (if h:vs.length=1 then vs[0] else .tuple vs.toArray)
 |[],x,vs,k=>by
  have k:vs=[]:=k
  subst k
  exact⟨_,rfl,rfl⟩
 |[t],x,vs,k=>by
  obtain⟨v,us,rfl,q1,q2⟩:=k
  have q2:us=[]:=q2
  subst q2
  exact q1
 |t::u::ts,x,vs,k=>by
  have hl:=k.length
  simp only[List.length_cons] at hl
  rw[dif_neg (by omega)]
  exact⟨_,rfl,k⟩
def fc (F G:Mem):Mem:=fun b=>match F b with
 |some o=>some o
 |none=>G b
theorem OV (hT:dx P X.aA) (Sb:∀b o,base b=some o->w0.heap[b]? =some o) (h:ek w0 GG base S E a w) {fn:Func} {o:Out} {y:kC o.Jx} {ps:List Prop} (hr:(Tc X fn.results.toList o y).run S []=some ps) (hp:∀p∈ps,p):
  ∃v,(results fn a.tmps).run P w= .ok v w/\∃F',base.le F'/\(∀b o,F' b=some o->w.heap[b]? =some o)/\(∀b o,F' b=some o->base b=some o\/w0.heap.size<=b)/\o.dj F' w0 w y v:=by
 have ju:∀b o,base b=some o->w.heap[b]? =some o:=fun b o hb=>(h.keep.block b (dR (Sb b o hb)) (fun h=>h)).trans (Sb b o hb)
 have fin:∀{bl:List (Nat×c7)} {used:List Nat} {E2:Env},HRel w0 GG base bl used E2 w->base.le (fc base E2.F)/\E2.F.le (fc base E2.F)/\(∀b o,(fc base E2.F) b=some o->w.heap[b]? =some o)/\(∀b o,(fc base E2.F) b=some o->base b=some o\/w0.heap.size<=b):=fun {bl used E2} h2=>by
  refine⟨fun b o hb=> ?_,fun b o hb=> ?_,fun b o hb=> ?_,fun b o hb=> ?_⟩
  ·unfold fc;rw[hb]
  ·unfold fc
   split
   ·rename_i o' rQ
    rw[<-ju b o' rQ,h2.m7 b o hb]
   ·exact hb
  ·unfold fc at hb
   split at hb
   ·rename_i o' rQ;cases hb;exact ju b _ rQ
   ·exact h2.m7 b o hb
  ·unfold fc at hb
   split at hb
   ·rename_i o' rQ;cases hb;exact .inl rQ
   ·rcases h2.src b o hb with h3|h3|h3
    ·exact .inl h3
    ·exact .inr h3
    ·cases h3
 cases o with
 |data ts=>
  unfold Tc at hr
  obtain⟨q,h1,hr⟩:=RM.run_bind' hr
  cases RM.run_pure' hr
  obtain⟨ps,fr⟩:=q
  obtain⟨k1,vs,k2,k3⟩:=Dw hT h h1 hp
  obtain⟨E2,hle,nW,wS,Ns⟩:=h.toHRel.cE k1
  have k4:=k3 E2 hle (ft.qi k1 Ns)
  obtain⟨f1,f2,f3,f4⟩:=fin Ns
  refine⟨_,xA k2,fc base E2.F,f1,f3,f4,?_⟩
  have k5:=k4.mono f2
  exact lE.of k5
 |fresh ts=>cases hr
 |row e t=>
  have hr:(match fn.results.toList with |[r]=>WK X e t r y.1|_=>(.fail:RM (List Prop))).run S []=some ps:=hr
  split at hr
  ·rename_i r XO
   unfold WK at hr
   obtain⟨s,h1,hr⟩:=RM.run_bind' hr
   obtain⟨v,dE,jJ⟩:=yV hT h h1
   have Tr:(results fn a.tmps).run P w= .ok v w:=by
    have:=xA (P:=P) (w:=w) (fn:=fn) (tmps:=a.tmps) (vs:=[v]) (by rw[XO];simp[dE])
    simpa using this
   obtain⟨f1,f2,f3,f4⟩:=fin h.toHRel
   refine⟨v,Tr,fc base E.F,f1,f3,f4,?_⟩
   split at hr
   ·cases hr
    have hy:=hp _ (List.mem_singleton.2 rfl)
    have jJ:v=_:=jJ
    exact⟨⟨true,0,0,0⟩,fun hn=>(by cases hn),.inl ⟨rfl,hy.symm,rfl⟩,.inl ⟨rfl,jJ,rfl⟩⟩
   ·rename_i tt b
    simp only[RM.run] at hr
    split at hr
    ·rename_i B hf
     split at hr
     ·rename_i e' t' xs
      split at hr
      ·rename_i hb
       simp only[Bool.and_eq_true] at hb
       obtain⟨zs,h2,hr⟩:=RM.run_bind' hr
       cases RM.run_pure' hr
       have hy:=hp _ (List.mem_singleton.2 rfl)
       obtain⟨ee,rfl⟩:=Ty.iQ (b0 h2)
       cases ee
       have hy:xs=y.1:=hy
       have:=Nat.eq_of_beq_eq_true hb.2
       subst this
       obtain⟨p,nW,hv⟩:=jJ
       obtain⟨q,hq,hB⟩:=h.cn b _ hf
       rw[nW] at hq
       cases hq
       refine⟨p,fun hn=> ?_,?_,hv⟩
       ·have ho:=h.own b _ p hf nW hn
        have h0:w0.heap.size<=p.bp:=ho.1.resolve_right (fun h=>h)
        refine⟨h0,?_⟩
        unfold fc
        split
        ·rename_i o' rQ
         have:=dR (Sb _ _ rQ)
         omega
        ·exact ho.2 rfl
       ·rw[<-hy]
        rcases hB with hB|⟨hn,h0,nY,vs,h3,h4,h5,h6⟩
        ·exact .inl hB
        ·refine .inr ⟨hn,h0,nY,vs,h3,h4,fun h=>(by cases h),fun i x hx=> ?_⟩
         obtain⟨us,g1,g2⟩:=h6 i x hx
         exact⟨us,g1.mono f2,g2⟩
      ·cases hr
     ·cases hr
    ·cases hr
   ·cases hr
  ·cases hr
theorem aN.of (hT:dx P X.aA) (hK:∀f dD,X.dD f=some dD->mB P f dD) {f:Nat} {fn:Func} {c:bg} {A:kC c.args->eA} (hf:P.funcs[f]? =some fn) (hn:(fn.name=="runtime.NumGoroutine")=false)
  (hv:ajm X fn c A):aN P f c where
 fn:=by
  obtain⟨h,_⟩:=hv
  simp only[TC,Bool.and_eq_true] at h
  obtain⟨code,hb⟩:=Option.isSome_iff_exists.1 h.2
  exact⟨fn,code,hf,hn,hb⟩
 calls F w x vs hF hx pj:=by
  obtain⟨hlen,h⟩:=hv
  simp only[TC,Bool.and_eq_true] at hlen
  replace hlen:=hlen.1
  have h:=h x hx.QM pj
  unfold ah at h
  cases hb:fn.body with
  |none=>rw[hb] at h;cases h
  |some code=>
   rw[hb] at h
   refine calls_of_wp hf hb ?_
   refine wp_mono (oV hT hK h (SD hlen hF hx)) fun e a w' hp=> ?_
   have done:∀S E,(match(Tc X fn.results.toList c.out (c.fn x)).run S [] with |some ps=>u5 ps True|none=>False)->ek w GG F S E a w'->a.defers=[]/\∃v,(results fn a.tmps).run P w'= .ok v w'/\
     ∃v' F',Ending.returned v= .returned v'/\F.le F'/\(∀b o,F' b=some o->w'.heap[b]? =some o)/\(∀b o,F' b=some o->F b=some o\/w.heap.size<=b)/\sQ (fun _=>False) w w'/\c.out.dj F' w w' (c.fn x) v':=fun S E hq hR=>by
    split at hq
    ·rename_i ps AX
     obtain⟨v,h1,F',h2,h3,h4,h5⟩:=OV hT hF hR AX (iW hq).1
     exact⟨hR.defers,v,h1,v,F',rfl,h2,h3,h4,hR.keep,h5⟩
    ·cases hq
   cases e with
   |normal=>obtain⟨S,E,hq,hR⟩:=hp;exact done S E hq hR
   |ret=>obtain⟨S,E,hq,hR⟩:=hp;exact done S E hq hR
   |exit id=>obtain⟨S,E,hq,hR⟩:=hp;cases hq
   |goto l=>cases hp
   |panic ch=>cases hp
   |outgrown=>cases hp
end Go.Vc
end

section
set_option linter.unusedVariables false
set_option linter.unusedSimpArgs false
namespace Go.Vc
open Go
variable {P:Program} {X:Ctx} {w0:World} {foot:gM} {base:Mem} {S T:St} {E:Env} {a:Act} {w:World} {ctx:c9}
inductive eU where
 |aG (t:Ty)
 |row (e:Nat) (t:Ty)
 |cells (fix:Bool) (o:eU)
 |iH (k:Nat) (o:eU)
 |unit
 |pair (a b:eU)
 |gone (o:eU)
 |map (a b:Ty)
@[reducible] def eU.den (o:eU):Type:=eU.rec (motive:=fun _=>Type) (fun t=>t.den) (fun _ t=>List t.den) (fun _ _ d=>d) (fun _ _ d=>d) Unit (fun _ _ a b=>a×b) (fun _ d=>d) (fun a b=>List (a.den×b.den)) o
def eU.size:eU->Nat
 | .aG t=>t.size
 | .row _ _| .cells _ _| .iH _ _| .map _ _=>1
 | .unit=>0
 | .pair a b=>a.size+b.size
 | .gone o=>o.size
def eU.isAgg:eU->Bool
 | .aG t=>t.isAgg
 | .unit| .pair _ _=>true
 | .gone o=>o.isAgg
 |_=>false
def eU.wf:(o:eU)->o.den->Prop
 | .aG t,x=>t.wf x
 | .row _ t,xs=>xs.length<=aM/\∀x∈xs,t.wf x
 | .cells _ o,x=>o.wf x
 | .iH _ o,x=>o.wf x
 | .unit,_=>True
 | .pair a b,x=>a.wf x.1/\b.wf x.2
 | .gone o,x=>o.wf x
 | .map a b,m=>∀x∈m,a.wf x.1/\b.wf x.2
inductive PT where
 |nil
 |row (p:Place)
 |cells (p:Place) (q:PT)
 |pair (a b:PT)
def PT.list:PT->List Place
 | .nil=>[]
 | .row p=>[p]
 | .cells p q=>p::q.list
 | .pair a b=>a.list++b.list
inductive IT where
 |nil
 |row (n:Option Nat)
 |cells (n:Nat) (t:IT)
 |pair (a b:IT)
def IT.ids:IT->List Nat
 | .nil=>[]
 | .row none=>[]
 | .row (some n)=>[n]
 | .cells n t=>n::t.ids
 | .pair a b=>a.ids++b.ids
def Au:Place:=⟨true,0,0,0⟩
def nB (E:Env):IT->PT->Prop
 | .nil,.nil=>True
 | .row none,.row p=>p=Au
 | .row (some n),.row p=>E.place n=some p
 | .cells n t,.cells p q=>E.place n=some p/\nB E t q
 | .pair a b,.pair p q=>nB E a p/\nB E b q
 |_,_=>False
def Z2 (p:Place) (v:Value):Prop:=
 (p.nil=true/\v= .slice none 0 0/\p.len=0)\/(p.nil=false/\v= .slice (some ⟨p.bp,0,none⟩) p.len p.cap/\p.len<=p.cap/\p.cap<=aM)
def lI (F:Mem) (w:World):(o:eU)->o.den->List Value->PT->Prop
 | .aG t,x,vs,pl=>pl= .nil/\dj F t x vs
 | .row e t,xs,vs,pl=>∃p v,pl= .row p/\vs=[v]/\Z2 p v/\gg ⟨F,fun _=>none⟩ w p (.row false e t xs)
 | .cells _ o,x,vs,pl=>∃p q us e,pl= .cells p q/\p.nil=false/\vs=[.pointer (some ⟨p.bp,0,none⟩)]/\w.heap[p.bp]? =some (.cells us e (0,0))/\lI F w o x us.toList q
 | .iH k o,x,vs,pl=>∃ws,vs=[.func (.func k) #[] ws]/\lI F w o x ws.toList pl
 | .unit,_,vs,pl=>vs=[]/\pl= .nil
 | .pair a b,x,vs,pl=>∃us ws p q,vs=us++ws/\pl= .pair p q/\lI F w a x.1 us p/\lI F w b x.2 ws q
 | .gone o,x,vs,pl=>lI F w o x vs pl
 | .map a b,m,vs,pl=>∃p,pl= .row p/\p.nil=false/\vs=[.map (some p.bp)]/\gg ⟨F,fun _=>none⟩ w p (.map false a b m none)
theorem lI.length {F:Mem}:∀{o:eU} {x:o.den} {vs:List Value} {pl:PT},lI F w o x vs pl->vs.length=o.size
 | .aG _,_,_,_,h=>h.2.length
 | .row _ _,_,_,_,h=>by obtain⟨_,_,_,h,_⟩:=h;rw[h];rfl
 | .cells _ _,_,_,_,h=>by obtain⟨_,_,_,_,_,_,h,_⟩:=h;rw[h];rfl
 | .iH _ _,_,_,_,h=>by obtain⟨_,h,_⟩:=h;rw[h];rfl
 | .unit,_,_,_,h=>by rw[h.1];rfl
 | .pair _ _,_,_,_,h=>by obtain⟨_,_,_,_,h,_,h1,h2⟩:=h;rw[h];simp[eU.size,h1.length,h2.length]
 | .gone o,_,_,_,h=>lI.length (o:=o) h
 | .map _ _,_,_,_,h=>by obtain⟨_,_,_,h,_⟩:=h;rw[h];rfl
theorem gg.Z1 {p:Place} {je:Bool} {e:Nat} {t:Ty} {xs:List t.den} (h:gg E w p (.row je e t xs)):xs.length<=aM/\∀x∈xs,t.wf x:=by
 rcases h with ⟨_,rfl,_⟩|⟨_,h0,⟨h1,h2⟩,vs,h3,h4,h5,h6⟩
 ·exact⟨by simp,fun x hx=>by cases hx⟩
 ·refine⟨by omega,fun x hx=> ?_⟩
  obtain⟨i,hi,rfl⟩:=List.mem_iff_getElem.1 hx
  obtain⟨us,k1,_⟩:=h6 i _ (List.getElem?_eq_getElem hi)
  exact k1.wf
theorem gg.aae {p:Place} {je:Bool} {a b:Ty} {m:List (a.den×b.den)} {c:Option (Nat×Nat)} (h:gg E w p (.map je a b m c)):∀x∈m,a.wf x.1/\b.wf x.2:=by
 obtain⟨_,es,cl,_,_,m0,h0,h,_⟩:=h
 intro x hx
 obtain⟨i,hi,rfl⟩:=List.mem_iff_getElem.1 (h0.mem_iff.2 hx)
 obtain⟨e,us,ws,_,q2,_,q4,_⟩:=h.at_ i _ (List.getElem?_eq_getElem hi)
 exact⟨q2.wf,q4.wf⟩
theorem lI.wf {F:Mem}:∀{o:eU} {x:o.den} {vs:List Value} {pl:PT},lI F w o x vs pl->o.wf x
 | .aG _,_,_,_,h=>h.2.wf
 | .row _ _,_,_,_,h=>by obtain⟨_,_,_,_,_,h⟩:=h;exact h.Z1
 | .cells _ o,_,_,_,h=>by obtain⟨_,_,_,_,_,_,_,_,h⟩:=h;exact lI.wf (o:=o) h
 | .iH _ o,_,_,_,h=>by obtain⟨_,_,h⟩:=h;exact lI.wf (o:=o) h
 | .unit,_,_,_,_=>trivial
 | .pair _ _,_,_,_,h=>by obtain⟨_,_,_,_,_,_,h1,h2⟩:=h;exact⟨h1.wf,h2.wf⟩
 | .gone o,_,_,_,h=>lI.wf (o:=o) h
 | .map _ _,_,_,_,h=>by obtain⟨_,_,_,_,h⟩:=h;exact h.aae
def eU.DY:(o:eU)->o.den->o.den->Prop
 | .pair a b,x,y=>a.DY x.1 y.1/\b.DY x.2 y.2
 | .cells _ o,x,y=>o.DY x y
 | .iH _ o,x,y=>o.DY x y
 | .gone o,x,y=>o.DY x y
 | .map a b,x,y=>List.Perm (α:=a.den×b.den) x y
 | .unit,_,_=>True
 | .aG _,x,y=>x=y
 | .row _ _,x,y=>x=y
theorem lI.HW {F:Mem}:∀{o:eU} {x y:o.den} {vs:List Value} {pl:PT},o.DY x y->lI F w o x vs pl->lI F w o y vs pl
 | .aG _,x,y,_,_,e,h=>by have e:x=y:=e;subst e;exact h
 | .row _ _,x,y,_,_,e,h=>by have e:x=y:=e;subst e;exact h
 | .cells _ o,_,_,_,_,e,h=>by
  obtain⟨p,q,us,e',h1,h2,h3,h4,h5⟩:=h
  exact⟨p,q,us,e',h1,h2,h3,h4,lI.HW (o:=o) e h5⟩
 | .iH _ o,_,_,_,_,e,h=>by obtain⟨ws,h1,h2⟩:=h;exact⟨ws,h1,lI.HW (o:=o) e h2⟩
 | .unit,_,_,_,_,_,h=>h
 | .pair _ _,_,_,_,_,e,h=>by obtain⟨us,ws,p,q,h1,h2,h3,h4⟩:=h;exact⟨us,ws,p,q,h1,h2,h3.HW e.1,h4.HW e.2⟩
 | .gone o,_,_,_,_,e,h=>lI.HW (o:=o) e h
 | .map _ _,_,_,_,_,e,h=>by
  obtain⟨p,h1,h2,h3,h4,es,cl,h5,h6,h7⟩:=h
  exact⟨p,h1,h2,h3,h4,es,cl,h5,h6,h7.perm e⟩
def Jq:(o:eU)->Bool->PT->PT->Prop
 | .row _ _,top,p,p'=>top=true->p'=p
 | .map _ _,top,p,p'=>top=true->p'=p
 | .cells fix o,top,.cells p q,.cells p' q'=>((fix||top)=true->p'=p/\Jq o false q q')
 | .iH _ o,_,q,q'=>Jq o false q q'
 | .pair a b,_,.pair p q,.pair p' q'=>Jq a false p p'/\Jq b false q q'
 |_,_,_,_=>True
def wj:List C->List Nat
 |[]=>[]
 | .ptr b _::cs=>b::wj cs
 |_::cs=>0::wj cs
def cO:(o:eU)->o.den->Nat->List C×List (Nat×c7)×IT×Nat
 | .aG t,x,n=>(flat t x,[],.nil,n)
 | .row e t,xs,n=>([.row t n],[(n,.row false e t xs)],.row (some n),n+1)
 | .cells _ o,x,n=>let r:=cO o x (n+1);([.ptr n 0],(n,.cells r.1)::r.2.1,.cells n r.2.2.1,r.2.2.2)
 | .iH k o,x,n=>let r:=cO o x n;([.iH k (wj r.1)],r.2)
 | .unit,_,n=>([],[],.nil,n)
 | .pair a b,x,n=>
  let r:=cO a x.1 n
  let s:=cO b x.2 r.2.2.2
  (r.1++s.1,r.2.1++s.2.1,.pair r.2.2.1 s.2.2.1,s.2.2.2)
 | .gone o,x,n=>cO o x n
 | .map a b,m,n=>([.map a b n],[(n,.map false a b m none)],.row (some n),n+1)
theorem mq:∀(o:eU) (x:o.den) (n:Nat),n<=(cO o x n).2.2.2/\(∀i∈(cO o x n).2.2.1.ids,n<=i/\i<(cO o x n).2.2.2)/\(cO o x n).2.2.1.ids.Nodup/\(cO o x n).2.1.map (·.1)=(cO o x n).2.2.1.ids
 | .aG t,x,n=>⟨Nat.le_refl _,fun i hi=>(by cases hi),List.nodup_nil,rfl⟩
 | .row e t,xs,n=>⟨Nat.le_succ _,fun i hi=>by simp[cO,IT.ids] at hi;subst hi;exact⟨Nat.le_refl _,Nat.lt_succ_self _⟩,by simp[cO,IT.ids],rfl⟩
 | .cells _ o,x,n=>by
  obtain⟨h1,h2,h3,h4⟩:=mq o x (n+1)
  refine⟨by simp only[cO];omega,fun i hi=> ?_,?_,?_⟩
  ·simp only[cO,IT.ids,List.mem_cons] at hi ⊢
   rcases hi with rfl|hi
   ·omega
   ·have:=h2 i hi;omega
  ·simp only[cO,IT.ids,List.nodup_cons]
   exact⟨fun hi=>by have:=h2 n hi;omega,h3⟩
  ·simp only[cO,IT.ids,List.map_cons,h4]
 | .iH k o,x,n=>mq o x n
 | .unit,_,n=>⟨Nat.le_refl _,fun i hi=>(by cases hi),List.nodup_nil,rfl⟩
 | .pair a b,x,n=>by
  obtain⟨h1,h2,h3,h4⟩:=mq a x.1 n
  obtain⟨k1,k2,k3,k4⟩:=mq b x.2 (cO a x.1 n).2.2.2
  refine⟨by simp only[cO];omega,fun i hi=> ?_,?_,?_⟩
  ·simp only[cO,IT.ids,List.mem_append] at hi ⊢
   rcases hi with hi|hi
   ·have:=h2 i hi;omega
   ·have:=k2 i hi;omega
  ·simp only[cO,IT.ids]
   refine List.nodup_append.2 ⟨h3,k3,fun i hi j hj e=> ?_⟩
   have:=h2 i hi
   have:=k2 j hj
   omega
  ·simp only[cO,IT.ids,List.map_append,h4,k4]
 | .gone o,x,n=>mq o x n
 | .map a b,xs,n=>⟨Nat.le_succ _,fun i hi=>by simp[cO,IT.ids] at hi;subst hi;exact⟨Nat.le_refl _,Nat.lt_succ_self _⟩,by simp[cO,IT.ids],rfl⟩
theorem b7.WV {E:Env}:∀{cs:List C} {vs:List Value},b7 E cs vs->(∀c∈cs,∃b,c= .ptr b 0)->
  ∃ps:List Place,ps.length=(wj cs).length/\(∀(i:Nat) b,(wj cs)[i]? =some b->∃p,ps[i]? =some p/\E.place b=some p/\p.nil=false)/\vs=ps.map fun p=>Value.pointer (some ⟨p.bp,0,none⟩)
 |[],vs,h,_=>by have h:_=_:=h;exact⟨[],rfl,fun i b hb=>by simp[wj] at hb,h⟩
 |c::cs,vs,h,hc=>by
  obtain⟨b,rfl⟩:=hc c List.mem_cons_self
  obtain⟨v,us,rfl,⟨p,hp,hn,rfl⟩,k⟩:=h
  obtain⟨ps,g1,g2,rfl⟩:=b7.WV k (fun c Nr=>hc c (List.mem_cons_of_mem _ Nr))
  refine⟨p::ps,by simp[wj,g1],fun i b' hb=> ?_,rfl⟩
  cases i with
  |zero=>simp[wj] at hb;subst hb;exact⟨p,rfl,hp,hn⟩
  |succ i=>simpa using g2 i b' (by simpa [wj] using hb)
def eU.yb:eU->Bool
 | .cells _ _=>true
 | .unit=>true
 | .pair a b=>a.yb&&b.yb
 |_=>false
def eU.ok:eU->Bool
 | .aG _| .row _ _| .unit| .map _ _=>true
 | .cells _ o=>o.ok
 | .iH _ o=>o.yb&&o.ok
 | .pair a b=>a.ok&&b.ok
 | .gone o=>o.ok
theorem sI:∀{o:eU} {x:o.den} {n:Nat},o.yb=true->∀c∈(cO o x n).1,∃b,c= .ptr b 0
 | .cells _ _,_,n,_,c,hc=>by simp[cO] at hc;exact⟨n,hc⟩
 | .unit,_,_,_,c,hc=>by cases hc
 | .pair a b,x,n,h,c,hc=>by
  simp only[eU.yb,Bool.and_eq_true] at h
  simp only[cO,List.mem_append] at hc
  rcases hc with hc|hc
  ·exact sI h.1 c hc
  ·exact sI h.2 c hc
 | .aG _,_,_,h,_,_=>by cases h
 | .row _ _,_,_,h,_,_=>by cases h
 | .iH _ _,_,_,h,_,_=>by cases h
 | .gone _,_,_,h,_,_=>by cases h
 | .map _ _,_,_,h,_,_=>by cases h
theorem gK {F:Mem} (sK:E.F=F):∀{o:eU} {x:o.den} {vs:List Value} {pl:PT} {n:Nat},o.ok=true->lI F w o x vs pl->nB E (cO o x n).2.2.1 pl->
  b7 E (cO o x n).1 vs/\∀m B,(m,B)∈(cO o x n).2.1->∃p,E.place m=some p/\gg E w p B/\p∈pl.list/\B.mut=true
 | .aG t,x,vs,pl,n,_,h,_=>⟨gN (by rw[sK];exact h.2),fun m B hm=>by cases hm⟩
 | .row e t,xs,vs,pl,n,_,h,hi=>by
  obtain⟨p,v,rfl,rfl,hv,hB⟩:=h
  refine⟨⟨v,[],rfl,⟨p,hi,hv⟩,rfl⟩,fun m B hm=> ?_⟩
  simp[cO] at hm
  obtain⟨rfl,rfl⟩:=hm
  exact⟨p,hi,hB.mono ⟨by rw[sK];exact .refl _,fun _ _ h=>by cases h⟩,by simp[PT.list],rfl⟩
 | .cells fx o,x,vs,pl,n,hk,h,hi=>by
  obtain⟨p,q,us,e,rfl,hn,rfl,hw,h⟩:=h
  obtain⟨hp,hi⟩:=hi
  obtain⟨k1,k2⟩:=gK sK (o:=o) (n:=n+1) hk h hi
  refine⟨⟨_,[],rfl,⟨p,hp,hn,rfl⟩,rfl⟩,fun m B hm=> ?_⟩
  simp only[cO,List.mem_cons] at hm
  rcases hm with hm|hm
  ·cases hm
   exact⟨p,hp,⟨hn,us,e,hw,k1⟩,by simp[PT.list],rfl⟩
  ·obtain⟨p',g1,g2,g3,g4⟩:=k2 m B hm
   exact⟨p',g1,g2,by simp[PT.list,g3],g4⟩
 | .iH k o,x,vs,pl,n,hk,h,hi=>by
  obtain⟨ws,rfl,h⟩:=h
  simp only[eU.ok,Bool.and_eq_true] at hk
  obtain⟨k1,k2⟩:=gK sK (o:=o) (n:=n) hk.2 h hi
  obtain⟨ps,g1,g2,g3⟩:=k1.WV (sI hk.1)
  refine⟨⟨_,[],rfl,⟨ps,g1,g2,?_⟩,rfl⟩,k2⟩
  rw[<-g3]
 | .unit,_,vs,pl,n,_,h,_=>⟨h.1,fun m B hm=>by cases hm⟩
 | .pair a b,x,vs,pl,n,hk,h,hi=>by
  obtain⟨us,ws,p,q,rfl,rfl,h1,h2⟩:=h
  simp only[eU.ok,Bool.and_eq_true] at hk
  obtain⟨k1,k2⟩:=gK sK (n:=n) hk.1 h1 hi.1
  obtain⟨g1,g2⟩:=gK sK (n:=(cO a x.1 n).2.2.2) hk.2 h2 hi.2
  refine⟨k1.append g1,fun m B hm=> ?_⟩
  simp only[cO,List.mem_append] at hm
  rcases hm with hm|hm
  ·obtain⟨p',e1,e2,e3,e4⟩:=k2 m B hm
   exact⟨p',e1,e2,by simp[PT.list,e3],e4⟩
  ·obtain⟨p',e1,e2,e3,e4⟩:=g2 m B hm
   exact⟨p',e1,e2,by simp[PT.list,e3],e4⟩
 | .gone o,x,vs,pl,n,hk,h,hi=>gK sK (o:=o) (n:=n) hk h hi
 | .map a b,xs,vs,pl,n,_,h,hi=>by
  obtain⟨p,rfl,hn,rfl,hB⟩:=h
  refine⟨⟨_,[],rfl,⟨p,hi,hn,rfl⟩,rfl⟩,fun m B hm=> ?_⟩
  simp[cO] at hm
  obtain⟨rfl,rfl⟩:=hm
  exact⟨p,hi,hB.mono ⟨by rw[sK];exact .refl _,fun _ _ h=>by cases h⟩,by simp[PT.list],rfl⟩
def mK:(o:eU)->List C->RM (o.den×ij×IT)
 | .aG t,cs=>do
  let x <-reify t cs
  return (x.1,x.2,.nil)
 | .row e t,cs=>(match cs with
  |[.row tt b]=> .bp b fun
   | .row false e' t' xs=>(match tt.beq t'&&Nat.beq e e' with
    |true=>do
     let zs <-RM.ofOption (Ty.as (a:= .list t') (.list t) (lit xs))
     return (Ty.L zs,[],.row (some b))
    |false=> .fail)
   |_=> .fail
  |[.kq]=> .ret ([],[],.row none)
  |_=> .fail)
 | .cells _ o,cs=>(match cs with
  |[.ptr b off]=>(match Nat.beq off 0 with
   |true=> .bp b fun
    | .cells ds=>do
     let r <-mK o ds
     return (r.1,r.2.1,.cells b r.2.2)
    |_=> .fail
   |false=> .fail)
  |_=> .fail)
 | .iH k o,cs=>(match cs with
  |[.iH k' bs]=>(match Nat.beq k k' with
   |true=>mK o (bs.map fun b=> .ptr b 0)
   |false=> .fail)
  |_=> .fail)
 | .unit,cs=>(match cs with
  |[]=> .ret ((),[],.nil)
  |_=> .fail)
 | .pair a b,cs=>do
  let x <-mK a (cs.take a.size)
  let y <-mK b (cs.drop a.size)
  cS (pb x.2.1 y.2.1)
  return ((x.1,y.1),x.2.1++y.2.1,.pair x.2.2 y.2.2)
 | .gone o,cs=>mK o cs
 | .map a b,cs=>(match cs with
  |[.map _ _ n]=> .bp n fun
   | .map false a' b' m _=>do
    let y <-RM.ofOption (Ty.as (a:= .map a' b') (.map a b) m)
    return (Ty.M y,[],.row (some n))
   |_=> .fail
  |_=> .fail)
theorem Fv {E:Env}:∀{bs:List Nat} {ps:List Place},ps.length=bs.length->(∀(i:Nat) b,bs[i]? =some b->∃p,ps[i]? =some p/\E.place b=some p/\p.nil=false)->
  b7 E (bs.map fun b=> .ptr b 0) (ps.map fun p=>Value.pointer (some ⟨p.bp,0,none⟩))
 |[],[],_,_=>rfl
 |b::bs,p::ps,hl,h=>by
  obtain⟨q,h1,h2,h3⟩:=h 0 b rfl
  simp at h1
  subst h1
  exact⟨_,_,rfl,⟨p,h2,h3,rfl⟩,Fv (by simpa using hl) fun i b' hb=>h (i+1) b' (by simpa using hb)⟩
 |[],_::_,h,_=>by simp at h
 |_::_,[],h,_=>by simp at h
structure abe (S:St) (o:eU) (cs:List C) (x:o.den) (fr:ij) (it:IT):Prop where
 je:kV S.bl fr
 own:∀n∈it.ids,∃B,find S.bl n=some B/\B.mut=true
 rep:∀(E:Env) (w:World) (vs:List Value),b7 E cs vs->ft S.bl E w fr->(∀n∈it.ids,∀B,find S.bl n=some B->∃p,E.place n=some p/\gg E w p B)->∃pl,nB E it pl/\lI E.F w o x vs pl
theorem lY:∀{o:eU} {cs:List C} {x:o.den} {fr:ij} {it:IT},(mK o cs).run S ctx=some (x,fr,it)->abe S o cs x fr it
 | .aG t,cs,x,fr,it,hr=>by
  unfold mK at hr
  obtain⟨⟨y,f⟩,h1,hr⟩:=RM.run_bind' hr
  cases RM.run_pure' hr
  exact⟨gD h1,fun n hn=>(by cases hn),fun E w vs hv hf _=>⟨.nil,trivial,rfl,jA h1 hv hf⟩⟩
 | .row e t,cs,x,fr,it,hr=>by
  unfold mK at hr
  split at hr
  ·rename_i tt b
   simp only[RM.run] at hr
   split at hr
   ·rename_i B hB
    split at hr
    ·rename_i e' t' xs
     split at hr
     ·rename_i hb
      simp only[Bool.and_eq_true] at hb
      have he:=Nat.eq_of_beq_eq_true hb.2
      subst he
      obtain⟨zs,h1,hr⟩:=RM.run_bind' hr
      cases RM.run_pure' hr
      obtain⟨ee,rfl⟩:=Ty.iQ (b0 h1)
      cases ee
      refine⟨.nil,fun n hn=> ?_,fun E w vs hv hf oN=> ?_⟩
      ·simp[IT.ids] at hn;subst hn;exact⟨_,hB,rfl⟩
      ·obtain⟨v,rfl,rp⟩:=jB hv
       obtain⟨p,hp,hk⟩:=rp
       obtain⟨p',dn,hBr⟩:=oN b (by simp[IT.ids]) _ hB
       rw[hp] at dn
       cases dn
       exact⟨.row p,hp,p,v,rfl,rfl,hk,hBr⟩
     ·cases hr
    ·cases hr
   ·cases hr
  ·cases hr
   refine⟨.nil,fun n hn=>(by cases hn),fun E w vs hv hf _=> ?_⟩
   obtain⟨v,rfl,rp⟩:=jB hv
   have Ng:v= .slice none 0 0:=rp
   exact⟨.row Au,rfl,Au,v,rfl,rfl,.inl ⟨rfl,Ng,rfl⟩,.inl ⟨rfl,rfl,rfl⟩⟩
  ·cases hr
 | .cells fx o,cs,x,fr,it,hr=>by
  unfold mK at hr
  split at hr
  ·rename_i b off
   split at hr
   ·rename_i ho
    have ho:=Nat.eq_of_beq_eq_true ho
    subst ho
    simp only[RM.run] at hr
    split at hr
    ·rename_i B hB
     split at hr
     ·rename_i ds
      obtain⟨⟨y,f,t⟩,h1,hr⟩:=RM.run_bind' hr
      cases RM.run_pure' hr
      obtain⟨k1,k2,k3⟩:=lY (o:=o) h1
      refine⟨k1,fun n hn=> ?_,fun E w vs hv hf oN=> ?_⟩
      ·simp only[IT.ids,List.mem_cons] at hn
       rcases hn with rfl|hn
       ·exact⟨_,hB,rfl⟩
       ·exact k2 n hn
      ·obtain⟨v,rfl,p,hp,hn,rfl⟩:=jB hv
       obtain⟨p',dn,_,us,e,hw,mF⟩:=oN b (by simp[IT.ids]) _ hB
       rw[hp] at dn
       cases dn
       obtain⟨q,g1,g2⟩:=k3 E w us.toList mF hf fun n hn=>oN n (by simp[IT.ids,hn])
       exact⟨.cells p q,⟨hp,g1⟩,p,q,us,e,rfl,hn,rfl,hw,g2⟩
     ·cases hr
    ·cases hr
   ·cases hr
  ·cases hr
 | .iH k o,cs,x,fr,it,hr=>by
  unfold mK at hr
  split at hr
  ·rename_i k' bs
   split at hr
   ·rename_i hk
    have hk:=Nat.eq_of_beq_eq_true hk
    subst hk
    obtain⟨k1,k2,k3⟩:=lY (o:=o) hr
    refine⟨k1,k2,fun E w vs hv hf oN=> ?_⟩
    obtain⟨v,rfl,ps,g1,g2,rfl⟩:=jB hv
    obtain⟨pl,m1,m2⟩:=k3 E w _ (Fv g1 g2) hf oN
    exact⟨pl,m1,_,rfl,m2⟩
   ·cases hr
  ·cases hr
 | .unit,cs,x,fr,it,hr=>by
  unfold mK at hr
  split at hr
  ·cases hr
   exact⟨.nil,fun n hn=>(by cases hn),fun E w vs hv _ _=>⟨.nil,trivial,hv,rfl⟩⟩
  ·cases hr
 | .pair a b,cs,x,fr,it,hr=>by
  unfold mK at hr
  obtain⟨⟨y,f,t⟩,h1,hr⟩:=RM.run_bind' hr
  obtain⟨⟨z,g,u⟩,h2,hr⟩:=RM.run_bind' hr
  obtain⟨_,h3,hr⟩:=RM.run_bind' hr
  cases RM.run_pure' hr
  obtain⟨k1,k2,k3⟩:=lY h1
  obtain⟨l1,l2,l3⟩:=lY h2
  refine⟨k1.append l1 (bR h3),fun n hn=> ?_,fun E w vs hv hf oN=> ?_⟩
  ·simp only[IT.ids,List.mem_append] at hn
   rcases hn with hn|hn
   ·exact k2 n hn
   ·exact l2 n hn
  ·obtain⟨p,m1,m2⟩:=k3 E w _ (hv.take a.size) hf.left fun n hn=>oN n (by simp[IT.ids,hn])
   obtain⟨q,n1,n2⟩:=l3 E w _ (hv.drop a.size) hf.right fun n hn=>oN n (by simp[IT.ids,hn])
   exact⟨.pair p q,⟨m1,n1⟩,_,_,p,q,(List.take_append_drop _ _).symm,rfl,m2,n2⟩
 | .gone o,cs,x,fr,it,hr=>by
  obtain⟨h1,h2,h3⟩:=lY (o:=o) hr
  exact⟨h1,h2,h3⟩
 | .map a b,cs,x,fr,it,hr=>by
  unfold mK at hr
  split at hr
  ·rename_i k1 k2 n
   simp only[RM.run] at hr
   split at hr
   ·rename_i B hB
    split at hr
    ·rename_i a' b' m cur
     obtain⟨zs,h1,hr⟩:=RM.run_bind' hr
     cases RM.run_pure' hr
     obtain⟨ee,rfl⟩:=Ty.iQ (b0 h1)
     cases ee
     refine⟨.nil,fun i hi=> ?_,fun E w vs hv hf oN=> ?_⟩
     ·simp[IT.ids] at hi;subst hi;exact⟨_,hB,rfl⟩
     ·obtain⟨v,rfl,p,hp,hn,rp⟩:=jB hv
      obtain⟨p',dn,hBr⟩:=oN n (by simp[IT.ids]) _ hB
      rw[hp] at dn
      cases dn
      obtain⟨g0,es,cl,g1,g2,m0,g4,g3,_⟩:=hBr
      exact⟨.row p,hp,p,rfl,hn,by rw[rp],g0,es,cl,g1,(fun h=>by cases h),m0,g4,g3,.none⟩
    ·cases hr
   ·cases hr
  ·cases hr
end Go.Vc
end

section
set_option linter.unusedVariables false
set_option linter.unusedSimpArgs false
namespace Go.Vc
open Go
variable {P:Program} {X:Ctx} {w0:World} {foot:gM} {base:Mem} {S T:St} {E:Env} {a:Act} {w:World} {ctx:c9}
def vy (l:List (Nat×c7)) (bl:List (Nat×c7)):List (Nat×c7):=l.foldl (fun l p=>put l p.1 p.2) bl
theorem Dj:∀{l bl:List (Nat×c7)} {i:Nat} {B:c7},find (vy l bl) i=some B->(i,B)∈l\/(i∉l.map (·.1)/\find bl i=some B)
 |[],_,_,_,h=> .inr ⟨by simp,h⟩
 |(n,D)::l,bl,i,B,h=>by
  rcases Dj (l:=l) h with h|⟨h1,h2⟩
  ·exact .inl (List.mem_cons_of_mem _ h)
  ·by_cases e:n=i
   ·subst e
    rw[bP] at h2
    cases h2
    exact .inl List.mem_cons_self
   ·rw[bn _ _ _ _ e] at h2
    exact .inr ⟨fun h=>(List.mem_cons.1 h).elim (fun h=>e h.symm) h1,h2⟩
theorem tB {α:Type}:∀{L:List Nat} {bl:List (Nat×α)} {i:Nat} {B:α},find (L.foldl rem bl) i=some B->find bl i=some B/\i∉L
 |[],_,_,_,h=>⟨h,by simp⟩
 |n::L,bl,i,B,h=>by
  obtain⟨h1,h2⟩:=tB (L:=L) h
  obtain⟨h3,h4⟩:=gp h1
  exact⟨h3,fun h=>(List.mem_cons.1 h).elim (fun h=>h4 h.symm) h2⟩
theorem qX {α:Type}:∀{L:List Nat} {bl:List (Nat×α)} {i:Nat},i∉L->find (L.foldl rem bl) i=find bl i
 |[],_,_,_=>rfl
 |n::L,bl,i,h=>by
  simp only[List.mem_cons,not_or] at h
  show find (L.foldl rem (rem bl n)) i=_
  rw[qX h.2,hU _ _ _ (Ne.symm h.1)]
def Ap (L:List Nat) (E:Env) (b:Nat):Prop:=∃n∈L,∃p,E.place n=some p/\p.nil=false/\p.bp=b
def Env.rebind (E:Env) (F':Mem) (bd:List (Nat×Place)):Env:={F:=F',place:=fun i=>match find bd i with
 |some p=>some p
 |none=>E.place i}
theorem HRel.swap {bl:List (Nat×c7)} {used:List Nat} (h:HRel w0 foot base bl used E w) {L:List Nat} (hL:∀n∈L,∃B,find bl n=some B/\B.mut=true) {w':World} {F':Mem} {NB:List (Nat×c7)} {fresh:List Nat} {bd:List (Nat×Place)}
  (hF:E.F.le F') (FW:∀b o,F' b=some o->w'.heap[b]? =some o) (wS:∀b o,F' b=some o->E.F b=some o\/w.heap.size<=b\/Ap L E b) (sX:sQ (Ap L E) w w')
  (aaK:∀i∈fresh,i∉used) (yx:∀i p,find bd i=some p->i∈fresh\/E.place i=some p)
  (an8:∀i B,(i,B)∈NB->i∈L\/i∈fresh)
  (hNB:∀i B,(i,B)∈NB->∃p,(E.rebind F' bd).place i=some p/\gg (E.rebind F' bd) w' p B/\(p.nil=false->(Ap L E p.bp\/w.heap.size<=p.bp)/\F' p.bp=none))
  (X5:∀i B j D p q,(i,B)∈NB->(j,D)∈NB->i≠j->(E.rebind F' bd).place i=some p->(E.rebind F' bd).place j=some q->p.nil=false->q.nil=false->p.bp≠q.bp):
  E.le (E.rebind F' bd)/\HRel w0 foot base (vy NB (L.foldl rem bl)) (fresh++used) (E.rebind F' bd) w':=by
 have hle:E.le (E.rebind F' bd):=⟨hF,fun i p hp=>by
  show(match find bd i with |some p=>some p|none=>E.place i)=some p
  split
  ·rename_i q hq
   rcases yx i q hq with hi|hi
   ·exact absurd (h.used i p hp) (aaK i hi)
   ·rw[hp] at hi;exact hi.symm
  ·exact hp⟩
 have lk:∀i B,i∉L->find bl i=some B->∃p,E.place i=some p/\gg E w p B/\(E.rebind F' bd).place i=some p/\(p.nil=false->p.bp<w.heap.size/\¬Ap L E p.bp):=fun i B hi hf=>by
  obtain⟨p,hp,hB⟩:=h.cn i B hf
  refine⟨p,hp,hB,hle.place _ _ hp,fun hn=>⟨hB.lt hn,?_⟩⟩
  rintro⟨n,hnL,q,hq,Dc,JK⟩
  obtain⟨D,hD,_⟩:=hL n hnL
  exact h.inj i n B D p q hf hD hp hq hn Dc (fun e=>hi (e▸hnL)) JK.symm
 have HC:∀b,Ap L E b->w0.heap.size<=b\/foot b:=fun b ⟨n,hnL,q,hq,Dc,JK⟩=>by
  obtain⟨D,hD,_⟩:=hL n hnL
  rw[<-JK]
  exact(h.own n D q hD hq Dc).1
 have Sf:∀i B,find (vy NB (L.foldl rem bl)) i=some B->(i,B)∈NB\/(i∉L/\find bl i=some B):=fun i B hf=>by
  rcases Dj hf with hf|⟨_,hf⟩
  ·exact .inl hf
  ·obtain⟨h1,h2⟩:=tB hf
   exact .inr ⟨h2,h1⟩
 refine⟨hle,⟨⟨sX.os.trans h.keep.os,sX.tape.trans h.keep.tape,sX.output.trans h.keep.output,Nat.le_trans h.keep.size sX.size,fun k hk PK=> ?_⟩,FW,fun b o hb=> ?_,fun i B hf=> ?_,fun i B p hf hp hn=> ?_,fun i j B D p q hf eh hp hq hn dB k6=> ?_,fun i p hp=> ?_⟩⟩
 ·rw[sX.block k (Nat.lt_of_lt_of_le hk h.keep.size) fun ho=> ?_]
  ·exact h.keep.block k hk PK
  ·rcases HC k ho with h1|h1
   ·omega
   ·exact PK h1
 ·rcases wS b o hb with h1|h1|h1
  ·exact h.src b o h1
  ·exact .inr (.inl (Nat.le_trans h.keep.size h1))
  ·exact .inr (HC b h1)
 ·rcases Sf i B hf with hf|⟨hi,hf⟩
  ·obtain⟨p,h1,h2,_⟩:=hNB i B hf
   exact⟨p,h1,h2⟩
  ·obtain⟨p,h1,h2,h3,h4⟩:=lk i B hi hf
   exact⟨p,h3,(h2.mono hle).world fun hn=>sX.block _ (h4 hn).1 (h4 hn).2⟩
 ·rcases Sf i B hf with hf|⟨hi,hf⟩
  ·obtain⟨p',h1,h2,h3⟩:=hNB i B hf
   rw[hp] at h1
   cases h1
   obtain⟨h4,h5⟩:=h3 hn
   refine⟨?_,fun _=>h5⟩
   rcases h4 with h4|h4
   ·exact HC _ h4
   ·exact .inl (Nat.le_trans h.keep.size h4)
  ·obtain⟨p',h1,h2,h3,h4⟩:=lk i B hi hf
   rw[hp] at h3
   cases h3
   obtain⟨k1,k2⟩:=h.own i B p hf h1 hn
   refine⟨k1,fun hm=> ?_⟩
   have o9:=k2 hm
   cases Yk:F' p.bp with
   |none=>exact Yk
   |some o=>
    rcases wS _ _ Yk with g|g|g
    ·rw[o9] at g;cases g
    ·have:=(h4 hn).1;omega
    ·exact absurd g (h4 hn).2
 ·have IQ:∀i B j D p q,(i,B)∈NB->j∉L->find bl j=some D->(E.rebind F' bd).place i=some p->(E.rebind F' bd).place j=some q->p.nil=false->q.nil=false->p.bp≠q.bp:=fun i B j D p q hb hj hf hp hq hn dB e=>by
   obtain⟨p',h1,_,h3⟩:=hNB i B hb
   rw[hp] at h1
   cases h1
   obtain⟨q',g1,_,g3,g4⟩:=lk j D hj hf
   rw[hq] at g3
   cases g3
   rcases(h3 hn).1 with h4|h4
   ·exact(g4 dB).2 (e▸h4)
   ·have:=(g4 dB).1;omega
  rcases Sf i B hf with hf|⟨hi,hf⟩
  ·rcases Sf j D eh with eh|⟨hj,eh⟩
   ·exact X5 i B j D p q hf eh k6 hp hq hn dB
   ·exact IQ i B j D p q hf hj eh hp hq hn dB
  ·rcases Sf j D eh with eh|⟨hj,eh⟩
   ·exact Ne.symm (IQ j D i B q p eh hi hf hq hp dB hn)
   ·obtain⟨p',h1,_,h3,_⟩:=lk i B hi hf
    rw[hp] at h3
    cases h3
    obtain⟨q',g1,_,g3,_⟩:=lk j D hj eh
    rw[hq] at g3
    cases g3
    exact h.inj i j B D p q hf eh h1 g1 hn dB k6
 ·have hp:(match find bd i with |some p=>some p|none=>E.place i)=some p:=hp
  split at hp
  ·rename_i q hq
   rcases yx i q hq with hi|hi
   ·exact List.mem_append_left _ hi
   ·exact List.mem_append_right _ (h.used i q hi)
  ·exact List.mem_append_right _ (h.used i p hp)
def cW:List eU->eU
 |[]=> .unit
 |o::os=> .pair o (cW os)
def gB (vs:List Value):List Value:=vs.flatMap fun v=>v.cells.toList
def Shape:List eU->List Value->Prop
 |[],vs=>vs=[]
 |o::os,vs=>∃v us,vs=v::us/\(match o.isAgg with
  |true=>∃ws,v= .agg ws/\ws.size=o.size
  |false=>v.cells= #[v]/\o.size=1)/\Shape os us
theorem Shape.length:∀{os:List eU} {vs:List Value},Shape os vs->vs.length=os.length
 |[],vs,h=>by have h:_=_:=h;subst h;rfl
 |o::os,vs,h=>by obtain⟨v,us,rfl,_,h⟩:=h;simp[h.length]
def S5 (o:eU):SV->RM (List C)
 | .one c=>(match o.isAgg with
  |true=> .fail
  |false=>(match Nat.beq o.size 1 with
   |true=> .ret [c]
   |false=> .fail))
 | .agg cs=>(match o.isAgg&&Nat.beq cs.length o.size with
  |true=> .ret cs
  |false=> .fail)
 |_=> .fail
def wy:List eU->List SV->RM (List C)
 |[],ss=>(match ss with
  |[]=> .ret []
  |_=> .fail)
 |o::os,ss=>(match ss with
  |[]=> .fail
  |s::ss=>do
   let cs <-S5 o s
   let ds <-wy os ss
   return (cs++ds))
theorem xm:∀{os:List eU} {ss:List SV} {cs:List C} {vs:List Value},(wy os ss).run S ctx=some cs->gF E ss vs->b7 E cs (gB vs)/\Shape os vs
 |[],ss,cs,vs,hr,hv=>by
  unfold wy at hr
  split at hr
  ·cases hr
   have hv:vs=[]:=hv
   subst hv
   exact⟨rfl,rfl⟩
  ·cases hr
 |o::os,ss,cs,vs,hr,hv=>by
  unfold wy at hr
  split at hr
  ·cases hr
  ·rename_i s Z0
   obtain⟨c1,h1,hr⟩:=RM.run_bind' hr
   obtain⟨c2,h2,hr⟩:=RM.run_bind' hr
   cases RM.run_pure' hr
   obtain⟨v,us,rfl,k1,k2⟩:=hv
   obtain⟨g1,g2⟩:=xm h2 k2
   have key:b7 E c1 v.cells.toList/\(match o.isAgg with |true=>∃ws,v= .agg ws/\ws.size=o.size|false=>v.cells= #[v]/\o.size=1):=by
    unfold S5 at h1
    split at h1
    ·rename_i c
     split at h1
     ·cases h1
     ·rename_i hb
      split at h1
      ·rename_i hs
       cases h1
       have rp:gV E c v:=k1
       rw[Value.Cb rp.oK]
       exact⟨⟨v,[],rfl,rp,rfl⟩,rfl,Nat.eq_of_beq_eq_true hs⟩
      ·cases h1
    ·rename_i ds
     split at h1
     ·rename_i hb
      cases h1
      simp only[Bool.and_eq_true] at hb
      obtain⟨ws,rfl,k⟩:=k1
      rw[hb.1]
      refine⟨k,ws,rfl,?_⟩
      have:=k.length
      rw[Nat.eq_of_beq_eq_true hb.2] at this
      simpa using this
     ·cases h1
    ·cases h1
   refine⟨?_,v,us,rfl,key.2,g2⟩
   simp only[gB,List.flatMap_cons]
   exact key.1.append g1
def svO (o:eU) (cs:List C):SV:=
 match o.isAgg with
 |true=> .agg cs
 |false=>(match cs with
  |[c]=> .one c
  |_=> .agg cs)
def S4:List eU->List C->List SV
 |[],_=>[]
 |o::os,cs=>svO o (cs.take o.size)::S4 os (cs.drop o.size)
theorem Ak:∀{os:List eU} {cs:List C} {vs:List Value},b7 E cs (gB vs)->Shape os vs->gF E (S4 os cs) vs
 |[],cs,vs,hc,hs=>by have hs:vs=[]:=hs;subst hs;rfl
 |o::os,cs,vs,hc,hs=>by
  obtain⟨v,us,rfl,h1,h2⟩:=hs
  simp only[gB,List.flatMap_cons] at hc
  have iT:v.cells.toList.length=o.size:=by
   cases hb:o.isAgg with
   |true=>rw[hb] at h1;obtain⟨ws,rfl,e⟩:=h1;simpa [Value.cells] using e
   |false=>rw[hb] at h1;rw[h1.1,h1.2];rfl
  have c1:b7 E (cs.take o.size) v.cells.toList:=by
   have:=hc.take o.size
   rwa [List.take_left' iT] at this
  have c2:b7 E (cs.drop o.size) (gB us):=by
   have:=hc.drop o.size
   rwa [List.drop_left' iT] at this
  refine⟨v,us,rfl,?_,Ak c2 h2⟩
  unfold svO
  cases hb:o.isAgg with
  |true=>rw[hb] at h1;obtain⟨ws,rfl,e⟩:=h1;exact⟨ws,rfl,c1⟩
  |false=>
   rw[hb] at h1
   have hl:=c1.length
   rw[h1.1] at c1 hl
   simp only[List.length_cons,List.length_nil] at hl
   obtain⟨c,BZ⟩:=List.length_eq_one_iff.1 hl.symm
   rw[BZ] at c1 ⊢
   obtain⟨u,hu,c1⟩:=jB c1
   cases hu
   exact c1
end Go.Vc
end

section
set_option linter.unusedVariables false
set_option linter.unusedSimpArgs false
namespace Go.Vc
open Go
variable {P:Program} {X:Ctx} {w0:World} {foot:gM} {base:Mem} {S T:St} {E:Env} {a:Act} {w:World} {ctx:c9}
def dA:(o:eU)->Bool->o.den->IT->Nat->List C×List (Nat×c7)×IT×Nat
 | .row e t,top,xs,it,n=>(match top,it with
  |true,.row (some m)=>([.row t m],[(m,.row false e t xs)],.row (some m),n)
  |_,_=>cO (.row e t) xs n)
 | .map a b,top,xs,it,n=>(match top,it with
  |true,.row (some m)=>([.map a b m],[(m,.map false a b xs none)],.row (some m),n)
  |_,_=>cO (.map a b) xs n)
 | .cells fx o,top,x,it,n=>(match fx||top,it with
  |true,.cells m t=>let r:=dA o false x t n;([.ptr m 0],(m,.cells r.1)::r.2.1,.cells m r.2.2.1,r.2.2.2)
  |_,_=>cO (.cells fx o) x n)
 | .iH k o,_,x,it,n=>let r:=dA o false x it n;([.iH k (wj r.1)],r.2)
 | .pair a b,_,x,it,n=>(match it with
  | .pair s t=>let r:=dA a false x.1 s n;let q:=dA b false x.2 t r.2.2.2;(r.1++q.1,r.2.1++q.2.1,.pair r.2.2.1 q.2.2.1,q.2.2.2)
  |_=>cO (.pair a b) x n)
 |o,_,x,_,n=>cO o x n
def Fits:IT->PT->Prop
 | .nil,.nil=>True
 | .row (some _),.row _=>True
 | .cells _ t,.cells _ q=>Fits t q
 | .pair a b,.pair p q=>Fits a p/\Fits b q
 |_,_=>False
def cV:IT->PT->List (Nat×Place)
 | .row (some n),.row p=>[(n,p)]
 | .cells n t,.cells p q=>(n,p)::cV t q
 | .pair a b,.pair p q=>cV a p++cV b q
 |_,_=>[]
theorem nQ:∀{t:IT} {q:PT},Fits t q->(cV t q).map (·.1)=t.ids/\(cV t q).map (·.2)=q.list
 | .nil,.nil,_=>⟨rfl,rfl⟩
 | .row (some n),.row p,_=>⟨rfl,rfl⟩
 | .cells n t,.cells p q,h=>by obtain⟨h1,h2⟩:=nQ (t:=t) (q:=q) h;simp[cV,IT.ids,PT.list,h1,h2]
 | .pair a b,.pair p q,h=>by
  obtain⟨h1,h2⟩:=nQ h.1
  obtain⟨h3,h4⟩:=nQ h.2
  simp[cV,IT.ids,PT.list,h1,h2,h3,h4]
 | .row none,_,h=>by cases h
 | .nil,.row _,h=>by cases h
 | .nil,.cells _ _,h=>by cases h
 | .nil,.pair _ _,h=>by cases h
 | .row (some _),.nil,h=>by cases h
 | .row (some _),.cells _ _,h=>by cases h
 | .row (some _),.pair _ _,h=>by cases h
 | .cells _ _,.nil,h=>by cases h
 | .cells _ _,.row _,h=>by cases h
 | .cells _ _,.pair _ _,h=>by cases h
 | .pair _ _,.nil,h=>by cases h
 | .pair _ _,.row _,h=>by cases h
 | .pair _ _,.cells _ _,h=>by cases h
theorem r8:∀{t:IT} {q:PT},Fits t q->(∀i p,(i,p)∈cV t q->E.place i=some p)->nB E t q
 | .nil,.nil,_,_=>trivial
 | .row (some n),.row p,_,h=>h n p (by simp[cV])
 | .cells n t,.cells p q,hf,h=>⟨h n p (by simp[cV]),r8 hf fun i p' hi=>h i p' (by simp[cV,hi])⟩
 | .pair a b,.pair p q,hf,h=>⟨r8 hf.1 fun i p' hi=>h i p' (by simp[cV,hi]),r8 hf.2 fun i p' hi=>h i p' (by simp[cV,hi])⟩
 | .row none,_,h,_=>by cases h
 | .nil,.row _,h,_=>by cases h
 | .nil,.cells _ _,h,_=>by cases h
 | .nil,.pair _ _,h,_=>by cases h
 | .row (some _),.nil,h,_=>by cases h
 | .row (some _),.cells _ _,h,_=>by cases h
 | .row (some _),.pair _ _,h,_=>by cases h
 | .cells _ _,.nil,h,_=>by cases h
 | .cells _ _,.row _,h,_=>by cases h
 | .cells _ _,.pair _ _,h,_=>by cases h
 | .pair _ _,.nil,h,_=>by cases h
 | .pair _ _,.row _,h,_=>by cases h
 | .pair _ _,.cells _ _,h,_=>by cases h
theorem vK {α:Type}:∀{l:List (Nat×α)} {i:Nat} {x:α},(l.map (·.1)).Nodup->(i,x)∈l->find l i=some x
 |[],_,_,_,h=>by cases h
 |(n,y)::l,i,x,hn,h=>by
  simp only[List.map_cons,List.nodup_cons] at hn
  rcases List.mem_cons.1 h with h|h
  ·cases h;simp[find]
  ·have:n≠i:=fun e=>hn.1 (e▸List.mem_map_of_mem (f:=(·.1)) h)
   rw[ei this]
   exact vK hn.2 h
theorem AD {α:Type}:∀{l:List (Nat×α)} {i:Nat} {x:α},find l i=some x->(i,x)∈l
 |[],_,_,h=>by cases h
 |(n,y)::l,i,x,h=>by
  by_cases e:n=i
  ·subst e
   have:some y=some x:=by simpa [find] using h
   cases this
   exact List.mem_cons_self
  ·rw[ei e] at h
   exact List.mem_cons_of_mem _ (AD h)
def mj (l:List Place):Prop:=l.Pairwise fun p q=>p.nil=false->q.nil=false->p.bp≠q.bp
theorem mj.apart:∀{l:List (Nat×Place)},mj (l.map (·.2))->∀{i j p q},(i,p)∈l->(j,q)∈l->i≠j->p.nil=false->q.nil=false->p.bp≠q.bp
 |[],_,_,_,_,_,h,_,_,_,_=>by cases h
 |(n,r)::l,h,i,j,p,q,hi,hj,k6,hp,hq=>by
  simp only[mj,List.map_cons,List.pairwise_cons] at h
  rcases List.mem_cons.1 hi with hi|hi
  ·cases hi
   rcases List.mem_cons.1 hj with hj|hj
   ·cases hj;exact absurd rfl k6
   ·exact h.1 q (List.mem_map_of_mem (f:=(·.2)) hj) hp hq
  ·rcases List.mem_cons.1 hj with hj|hj
   ·cases hj;exact Ne.symm (h.1 p (List.mem_map_of_mem (f:=(·.2)) hi) hq hp)
   ·exact mj.apart (l:=l) h.2 hi hj k6 hp hq
theorem fZ {F:Mem}:∀{o:eU} {x y:o.den} {vs:List Value} {pl:PT} {n:Nat},lI F w o y vs pl->Fits (cO o x n).2.2.1 pl
 | .aG _,_,_,_,_,_,h=>by obtain⟨rfl,_⟩:=h;trivial
 | .row _ _,_,_,_,_,_,h=>by obtain⟨_,_,rfl,_⟩:=h;trivial
 | .cells _ o,x,y,_,_,n,h=>by obtain⟨_,_,_,_,rfl,_,_,_,h⟩:=h;exact fZ (o:=o) (x:=x) (y:=y) h
 | .iH _ o,x,y,_,_,_,h=>by obtain⟨_,_,h⟩:=h;exact fZ (o:=o) (x:=x) (y:=y) h
 | .unit,_,_,_,_,_,h=>by obtain⟨_,rfl⟩:=h;trivial
 | .pair _ _,_,_,_,_,_,h=>by obtain⟨_,_,_,_,_,rfl,h1,h2⟩:=h;exact⟨fZ h1,fZ h2⟩
 | .gone o,x,y,_,_,_,h=>fZ (o:=o) (x:=x) (y:=y) h
 | .map _ _,_,_,_,_,_,h=>by obtain⟨_,rfl,_⟩:=h;trivial
theorem pE {F:Mem}:∀{o:eU} {top:Bool} {x y:o.den} {vs:List Value} {pl:PT} {it:IT} {n:Nat},lI F w o y vs pl->Fits (dA o top x it n).2.2.1 pl
 | .aG _,_,_,_,_,_,_,_,h=>fZ h
 | .row _ _,top,_,_,_,_,it,_,h=>by
  unfold dA
  split
  ·obtain⟨_,_,rfl,_⟩:=h;trivial
  ·exact fZ h
 | .cells fx o,top,x,y,_,_,it,n,h=>by
  unfold dA
  split
  ·obtain⟨_,_,_,_,rfl,_,_,_,h⟩:=h;exact pE (o:=o) (x:=x) (y:=y) h
  ·exact fZ h
 | .iH _ o,_,x,y,_,_,_,_,h=>by obtain⟨_,_,h⟩:=h;exact pE (o:=o) (x:=x) (y:=y) h
 | .unit,_,_,_,_,_,_,_,h=>fZ h
 | .pair _ _,_,_,_,_,_,it,_,h=>by
  unfold dA
  split
  ·obtain⟨_,_,_,_,_,rfl,h1,h2⟩:=h;exact⟨pE h1,pE h2⟩
  ·exact fZ h
 | .gone _,_,_,_,_,_,_,_,h=>fZ h
 | .map _ _,top,_,_,_,_,it,_,h=>by
  unfold dA
  split
  ·obtain⟨_,rfl,_⟩:=h;trivial
  ·exact fZ h
structure Ids (l:List (Nat×c7)) (it it':IT) (n n':Nat):Prop where
 le:n<=n'
 lk:∀i∈it'.ids,i∈it.ids\/(n<=i/\i<n')
 keys:l.map (·.1)=it'.ids
 nodup:it.ids.Nodup->(∀i∈it.ids,¬(n<=i/\i<n'))->it'.ids.Nodup
theorem pX (o:eU) (x:o.den) (it:IT) (n:Nat):Ids (cO o x n).2.1 it (cO o x n).2.2.1 n (cO o x n).2.2.2:=by
 obtain⟨h1,h2,h3,h4⟩:=mq o x n
 exact⟨h1,fun i hi=> .inr (h2 i hi),h4,fun _ _=>h3⟩
theorem lX:∀(o:eU) (top:Bool) (x:o.den) (it:IT) (n:Nat),Ids (dA o top x it n).2.1 it (dA o top x it n).2.2.1 n (dA o top x it n).2.2.2
 | .aG _,_,_,_,_=>pX _ _ _ _
 | .row _ _,top,_,it,_=>by
  unfold dA
  split
  ·exact⟨Nat.le_refl _,fun i hi=> .inl hi,rfl,fun h _=>h⟩
  ·exact pX _ _ _ _
 | .cells fx o,top,x,it,n=>by
  unfold dA
  split
  ·rename_i m t hb
   obtain⟨h1,h2,h3,h4⟩:=lX o false x t n
   refine⟨h1,fun i hi=> ?_,?_,fun hn hr=> ?_⟩
   ·simp only[IT.ids,List.mem_cons] at hi ⊢
    rcases hi with hi|hi
    ·exact .inl (.inl hi)
    ·rcases h2 i hi with h|h
     ·exact .inl (.inr h)
     ·exact .inr h
   ·simp only[IT.ids,List.map_cons,h3]
   ·simp only[IT.ids,List.nodup_cons] at hn ⊢
    refine⟨fun hm=> ?_,h4 hn.2 fun i hi=>hr i (by simp[IT.ids,hi])⟩
    rcases h2 m hm with h|h
    ·exact hn.1 h
    ·exact hr m (by simp[IT.ids]) h
  ·exact pX _ _ _ _
 | .iH _ o,_,x,it,n=>by
  obtain⟨h1,h2,h3,h4⟩:=lX o false x it n
  exact⟨h1,h2,h3,h4⟩
 | .unit,_,_,_,_=>pX _ _ _ _
 | .pair a b,_,x,it,n=>by
  unfold dA
  split
  ·rename_i s t
   obtain⟨h1,h2,h3,h4⟩:=lX a false x.1 s n
   obtain⟨k1,k2,k3,k4⟩:=lX b false x.2 t (dA a false x.1 s n).2.2.2
   refine⟨Nat.le_trans h1 k1,fun i hi=> ?_,?_,fun hn hr=> ?_⟩
   ·simp only[IT.ids,List.mem_append] at hi ⊢
    rcases hi with hi|hi
    ·rcases h2 i hi with h|h
     ·exact .inl (.inl h)
     ·exact .inr ⟨h.1,Nat.lt_of_lt_of_le h.2 k1⟩
    ·rcases k2 i hi with h|h
     ·exact .inl (.inr h)
     ·exact .inr ⟨Nat.le_trans h1 h.1,h.2⟩
   ·simp only[IT.ids,List.map_append,h3,k3]
   ·simp only[IT.ids] at hn ⊢
    obtain⟨n1,n2,n3⟩:=List.nodup_append.1 hn
    have r1:∀i∈s.ids,¬(n<=i/\i<_):=fun i hi=>hr i (by simp[IT.ids,hi])
    have r2:∀i∈t.ids,¬(n<=i/\i<_):=fun i hi=>hr i (by simp[IT.ids,hi])
    refine List.nodup_append.2 ⟨h4 n1 fun i hi hh=>r1 i hi ⟨hh.1,Nat.lt_of_lt_of_le hh.2 k1⟩,k4 n2 fun i hi hh=>r2 i hi ⟨Nat.le_trans h1 hh.1,hh.2⟩,fun i hi j hj e=> ?_⟩
    subst e
    rcases h2 i hi with h|h
    ·rcases k2 i hj with g|g
     ·exact n3 i h i g rfl
     ·exact r1 i h ⟨Nat.le_trans h1 g.1,g.2⟩
    ·rcases k2 i hj with g|g
     ·exact r2 i g ⟨h.1,Nat.lt_of_lt_of_le h.2 k1⟩
     ·omega
  ·exact pX _ _ _ _
 | .gone _,_,_,_,_=>pX _ _ _ _
 | .map _ _,top,_,it,_=>by
  unfold dA
  split
  ·exact⟨Nat.le_refl _,fun i hi=> .inl hi,rfl,fun h _=>h⟩
  ·exact pX _ _ _ _
theorem MG:∀{o:eU} {top:Bool} {x:o.den} {it:IT} {n:Nat} {pl gP:PT},nB E it pl->Jq o top pl gP->∀i p,(i,p)∈cV (dA o top x it n).2.2.1 gP->(n<=i/\i<(dA o top x it n).2.2.2)\/E.place i=some p:=by
 have Q9:∀{o:eU} {x:o.den} {n:Nat} {gP:PT} {i:Nat} {p:Place},(i,p)∈cV (cO o x n).2.2.1 gP->n<=i/\i<(cO o x n).2.2.2:=fun {o x n gP i p} hm=>by
  have key:∀{t:IT} {q:PT},(i,p)∈cV t q->i∈t.ids:=by
   intro t
   induction t with
   |nil=>intro q h;cases q<;>cases h
   |row m=>intro q h;cases m<;>cases q<;>simp[cV,IT.ids] at h ⊢;exact h.1
   |cells m t ih=>
    intro q h
    cases q<;>simp only[cV,IT.ids,List.mem_cons,List.not_mem_nil] at h ⊢
    rcases h with h|h
    ·cases h;exact .inl rfl
    ·exact .inr (ih h)
   |pair a b XC XB=>
    intro q h
    cases q<;>simp only[cV,IT.ids,List.mem_append,List.not_mem_nil] at h ⊢
    rcases h with h|h
    ·exact .inl (XC h)
    ·exact .inr (XB h)
  exact(mq o x n).2.1 i (key hm)
 intro o
 induction o with
 |aG t=>intro top x it n pl gP _ _ i p hm;exact .inl (Q9 hm)
 |row e t=>
  intro top x it n pl gP hi hf i p hm
  unfold dA at hm ⊢
  split at hm
  ·rename_i m
   cases gP with
   |row p'=>
    cases pl with
    |row p0=>
     simp only[cV,List.mem_singleton] at hm
     cases hm
     have:=hf rfl
     right
     cases this
     exact hi
    |nil=>cases hi
    |cells _ _=>cases hi
    |pair _ _=>cases hi
   |nil=>cases hm
   |cells _ _=>cases hm
   |pair _ _=>cases hm
  ·exact .inl (Q9 hm)
 |cells fx o ih=>
  intro top x it n pl gP hi hf i p hm
  unfold dA at hm ⊢
  split at hm
  ·rename_i m t hb
   cases gP with
   |cells p' q'=>
    cases pl with
    |cells p0 q0=>
     obtain⟨e1,e2⟩:=hf hb
     simp only[cV,List.mem_cons] at hm
     rcases hm with hm|hm
     ·cases hm
      right
      rw[e1]
      exact hi.1
     ·exact ih hi.2 e2 i p hm
    |nil=>cases hi
    |row _=>cases hi
    |pair _ _=>cases hi
   |nil=>cases hm
   |row _=>cases hm
   |pair _ _=>cases hm
  ·exact .inl (Q9 hm)
 |iH k o ih=>intro top x it n pl gP hi hf i p hm;exact ih hi (by cases pl<;>cases gP<;>exact hf) i p hm
 |unit=>intro top x it n pl gP _ _ i p hm;exact .inl (Q9 hm)
 |pair a b XC XB=>
  intro top x it n pl gP hi hf i p hm
  unfold dA at hm ⊢
  split at hm
  ·rename_i s t
   cases gP with
   |pair p' q'=>
    cases pl with
    |pair p0 q0=>
     obtain⟨f1,f2⟩:=hf
     have i1:=lX a false x.1 s n
     have i2:=lX b false x.2 t (dA a false x.1 s n).2.2.2
     simp only[cV,List.mem_append] at hm
     rcases hm with hm|hm
     ·rcases XC hi.1 f1 i p hm with h|h
      ·exact .inl ⟨h.1,Nat.lt_of_lt_of_le h.2 i2.le⟩
      ·exact .inr h
     ·rcases XB hi.2 f2 i p hm with h|h
      ·exact .inl ⟨Nat.le_trans i1.le h.1,h.2⟩
      ·exact .inr h
    |nil=>cases hi
    |row _=>cases hi
    |cells _ _=>cases hi
   |nil=>cases hm
   |row _=>cases hm
   |cells _ _=>cases hm
  ·exact .inl (Q9 hm)
 |gone o ih=>intro top x it n pl gP _ _ i p hm;exact .inl (Q9 hm)
 |map a b=>
  intro top x it n pl gP hi hf i p hm
  unfold dA at hm ⊢
  split at hm
  ·rename_i m
   cases gP with
   |row p'=>
    cases pl with
    |row p0=>
     simp only[cV,List.mem_singleton] at hm
     cases hm
     have:=hf rfl
     right
     cases this
     exact hi
    |nil=>cases hi
    |cells _ _=>cases hi
    |pair _ _=>cases hi
   |nil=>cases hm
   |cells _ _=>cases hm
   |pair _ _=>cases hm
  ·exact .inl (Q9 hm)
theorem v7:∀{o:eU} {top:Bool} {x:o.den} {it:IT} {n:Nat},o.yb=true->∀c∈(dA o top x it n).1,∃b,c= .ptr b 0
 | .cells _ _,top,_,it,n,h,c,hc=>by
  unfold dA at hc
  split at hc
  ·simp at hc;exact⟨_,hc⟩
  ·exact sI h c hc
 | .unit,_,_,_,_,_,c,hc=>by cases hc
 | .pair a b,_,x,it,n,h,c,hc=>by
  unfold dA at hc
  split at hc
  ·simp only[eU.yb,Bool.and_eq_true] at h
   simp only[List.mem_append] at hc
   rcases hc with hc|hc
   ·exact v7 h.1 c hc
   ·exact v7 h.2 c hc
  ·exact sI h c hc
 | .aG _,_,_,_,_,h,_,_=>by cases h
 | .row _ _,_,_,_,_,h,_,_=>by cases h
 | .iH _ _,_,_,_,_,h,_,_=>by cases h
 | .gone _,_,_,_,_,h,_,_=>by cases h
 | .map _ _,_,_,_,_,h,_,_=>by cases h
theorem qN {F:Mem} (sK:E.F=F):∀{o:eU} {top:Bool} {x:o.den} {vs:List Value} {pl:PT} {it:IT} {n:Nat},o.ok=true->lI F w o x vs pl->nB E (dA o top x it n).2.2.1 pl->
  b7 E (dA o top x it n).1 vs/\∀m B,(m,B)∈(dA o top x it n).2.1->∃p,E.place m=some p/\gg E w p B/\p∈pl.list/\B.mut=true
 | .aG _,_,_,_,_,_,_,hk,h,hi=>gK sK hk h hi
 | .row e t,top,xs,vs,pl,it,n,hk,h,hi=>by
  unfold dA at hi ⊢
  split at hi
  ·rename_i m
   obtain⟨p,v,rfl,rfl,hv,hB⟩:=h
   refine⟨⟨v,[],rfl,⟨p,hi,hv⟩,rfl⟩,fun m' B hm=> ?_⟩
   simp at hm
   obtain⟨rfl,rfl⟩:=hm
   exact⟨p,hi,hB.mono ⟨by rw[sK];exact .refl _,fun _ _ h=>by cases h⟩,by simp[PT.list],rfl⟩
  ·exact gK sK hk h hi
 | .cells fx o,top,x,vs,pl,it,n,hk,h,hi=>by
  unfold dA at hi ⊢
  split at hi
  ·rename_i m t hb
   obtain⟨p,q,us,e,rfl,hn,rfl,hw,h⟩:=h
   obtain⟨hp,hi⟩:=hi
   obtain⟨k1,k2⟩:=qN sK (o:=o) (n:=n) hk h hi
   refine⟨⟨_,[],rfl,⟨p,hp,hn,rfl⟩,rfl⟩,fun m' B hm=> ?_⟩
   simp only[List.mem_cons] at hm
   rcases hm with hm|hm
   ·cases hm
    exact⟨p,hp,⟨hn,us,e,hw,k1⟩,by simp[PT.list],rfl⟩
   ·obtain⟨p',g1,g2,g3,g4⟩:=k2 m' B hm
    exact⟨p',g1,g2,by simp[PT.list,g3],g4⟩
  ·exact gK sK hk h hi
 | .iH k o,top,x,vs,pl,it,n,hk,h,hi=>by
  obtain⟨ws,rfl,h⟩:=h
  simp only[eU.ok,Bool.and_eq_true] at hk
  obtain⟨k1,k2⟩:=qN sK (o:=o) (top:=false) (it:=it) (n:=n) hk.2 h hi
  obtain⟨ps,g1,g2,g3⟩:=k1.WV (v7 hk.1)
  refine⟨⟨_,[],rfl,⟨ps,g1,g2,?_⟩,rfl⟩,k2⟩
  rw[<-g3]
 | .unit,_,_,_,_,_,_,hk,h,hi=>gK sK hk h hi
 | .pair a b,top,x,vs,pl,it,n,hk,h,hi=>by
  unfold dA at hi ⊢
  split at hi
  ·rename_i s t
   obtain⟨us,ws,p,q,rfl,rfl,h1,h2⟩:=h
   simp only[eU.ok,Bool.and_eq_true] at hk
   obtain⟨k1,k2⟩:=qN sK (n:=n) hk.1 h1 hi.1
   obtain⟨g1,g2⟩:=qN sK (n:=(dA a false x.1 s n).2.2.2) hk.2 h2 hi.2
   refine⟨k1.append g1,fun m B hm=> ?_⟩
   simp only[List.mem_append] at hm
   rcases hm with hm|hm
   ·obtain⟨p',e1,e2,e3,e4⟩:=k2 m B hm
    exact⟨p',e1,e2,by simp[PT.list,e3],e4⟩
   ·obtain⟨p',e1,e2,e3,e4⟩:=g2 m B hm
    exact⟨p',e1,e2,by simp[PT.list,e3],e4⟩
  ·exact gK sK hk h hi
 | .gone _,_,_,_,_,_,_,hk,h,hi=>gK sK hk h hi
 | .map a b,top,xs,vs,pl,it,n,hk,h,hi=>by
  unfold dA at hi ⊢
  split at hi
  ·rename_i m
   obtain⟨p,rfl,hn,rfl,hB⟩:=h
   refine⟨⟨_,[],rfl,⟨p,hi,hn,rfl⟩,rfl⟩,fun m' B hm=> ?_⟩
   simp at hm
   obtain⟨rfl,rfl⟩:=hm
   exact⟨p,hi,hB.mono ⟨by rw[sK];exact .refl _,fun _ _ h=>by cases h⟩,by simp[PT.list],rfl⟩
  ·exact gK sK hk h hi
end Go.Vc
end

section
set_option linter.unusedVariables false
set_option linter.unusedSimpArgs false
namespace Go.Vc
open Go
variable {P:Program} {X:Ctx} {w0:World} {foot:gM} {base:Mem} {S T:St} {E:Env} {a:Act} {w:World} {ctx:c9}
def eU.kept:eU->Bool
 | .aG _| .gone _=>false
 |_=>true
def vh (F:Mem) (w:World):(os:List eU)->(cW os).den->List Value->PT->PT->Prop
 |[],_,_,_,gP=>gP= .nil
 |o::os,y,vs,pl,gP=>∃p q p' q',pl= .pair p q/\gP= .pair p' q'/\vh F w os y.2 (vs.drop o.size) q q'/\(match o.kept with
  |true=>lI F w o y.1 (vs.take o.size) p'/\Jq o true p p'
  |false=>p'= .nil)
def pv:(os:List eU)->(cW os).den->IT->Nat->List (Nat×c7)×IT×Nat
 |[],_,_,n=>([],.nil,n)
 |o::os,y,it,n=>(match it with
  | .pair s t=>(match o.kept with
   |true=>
    let r:=dA o true y.1 s n
    let q:=pv os y.2 t r.2.2.2
    (r.2.1++q.1,.pair r.2.2.1 q.2.1,q.2.2)
   |false=>
    let q:=pv os y.2 t n
    (q.1,.pair .nil q.2.1,q.2.2))
  |_=>([],.nil,n))
theorem zn {F:Mem}:∀{os:List eU} {x y:(cW os).den} {vs:List Value} {pl gP:PT} {it:IT} {n:Nat},nB E it pl->vh F w os y vs pl gP->Fits (pv os x it n).2.1 gP
 |[],_,_,_,_,_,_,_,_,h=>by have h:_=_:=h;subst h;trivial
 |o::os,x,y,vs,pl,gP,it,n,hi,h=>by
  obtain⟨p,q,p',q',rfl,rfl,h1,h2⟩:=h
  cases it with
  |pair s t=>
   unfold pv
   simp only
   split
   ·rename_i hk
    rw[hk] at h2
    exact⟨pE h2.1,zn hi.2 h1⟩
   ·rename_i hk
    rw[hk] at h2
    have h2:p'= .nil:=h2
    subst h2
    exact⟨trivial,zn hi.2 h1⟩
  |nil=>cases hi
  |row m=>cases m<;>cases hi
  |cells _ _=>cases hi
theorem xL:∀(os:List eU) (x:(cW os).den) (it:IT) (n:Nat),Ids (pv os x it n).1 it (pv os x it n).2.1 n (pv os x it n).2.2
 |[],_,_,n=>⟨Nat.le_refl _,fun i hi=>(by cases hi),rfl,fun _ _=>List.nodup_nil⟩
 |o::os,x,it,n=>by
  unfold pv
  split
  ·rename_i s t
   split
   ·obtain⟨h1,h2,h3,h4⟩:=lX o true x.1 s n
    obtain⟨k1,k2,k3,k4⟩:=xL os x.2 t (dA o true x.1 s n).2.2.2
    refine⟨Nat.le_trans h1 k1,fun i hi=> ?_,?_,fun hn hr=> ?_⟩
    ·simp only[IT.ids,List.mem_append] at hi ⊢
     rcases hi with hi|hi
     ·rcases h2 i hi with h|h
      ·exact .inl (.inl h)
      ·exact .inr ⟨h.1,Nat.lt_of_lt_of_le h.2 k1⟩
     ·rcases k2 i hi with h|h
      ·exact .inl (.inr h)
      ·exact .inr ⟨Nat.le_trans h1 h.1,h.2⟩
    ·simp only[IT.ids,List.map_append,h3,k3]
    ·simp only[IT.ids] at hn ⊢
     obtain⟨n1,n2,n3⟩:=List.nodup_append.1 hn
     have r1:∀i∈s.ids,¬(n<=i/\i<_):=fun i hi=>hr i (by simp[IT.ids,hi])
     have r2:∀i∈t.ids,¬(n<=i/\i<_):=fun i hi=>hr i (by simp[IT.ids,hi])
     refine List.nodup_append.2 ⟨h4 n1 fun i hi hh=>r1 i hi ⟨hh.1,Nat.lt_of_lt_of_le hh.2 k1⟩,k4 n2 fun i hi hh=>r2 i hi ⟨Nat.le_trans h1 hh.1,hh.2⟩,fun i hi j hj e=> ?_⟩
     subst e
     rcases h2 i hi with h|h
     ·rcases k2 i hj with g|g
      ·exact n3 i h i g rfl
      ·exact r1 i h ⟨Nat.le_trans h1 g.1,g.2⟩
     ·rcases k2 i hj with g|g
      ·exact r2 i g ⟨h.1,Nat.lt_of_lt_of_le h.2 k1⟩
      ·omega
   ·obtain⟨k1,k2,k3,k4⟩:=xL os x.2 t n
    refine⟨k1,fun i hi=> ?_,?_,fun hn hr=> ?_⟩
    ·simp only[IT.ids,List.mem_append,List.not_mem_nil,false_or] at hi ⊢
     rcases k2 i hi with h|h
     ·exact .inl (.inr h)
     ·exact .inr h
    ·simp only[IT.ids,List.nil_append,k3]
    ·simp only[IT.ids,List.nil_append] at hn ⊢
     exact k4 (List.nodup_append.1 hn).2.1 fun i hi=>hr i (by simp[IT.ids,hi])
  ·exact⟨Nat.le_refl _,fun i hi=>(by cases hi),rfl,fun _ _=>List.nodup_nil⟩
theorem BS {F:Mem}:∀{os:List eU} {x y:(cW os).den} {vs:List Value} {it:IT} {n:Nat} {pl gP:PT},nB E it pl->vh F w os y vs pl gP->∀i p,(i,p)∈cV (pv os x it n).2.1 gP->(n<=i/\i<(pv os x it n).2.2)\/E.place i=some p
 |[],_,_,_,_,_,_,_,_,h,i,p,hm=>by have h:_=_:=h;subst h;cases hm
 |o::os,x,y,vs,it,n,pl,gP,hi,h,i,p,hm=>by
  obtain⟨p0,q0,p',q',rfl,rfl,h1,h2⟩:=h
  cases it with
  |pair s t=>
   unfold pv at hm ⊢
   simp only at hm ⊢
   split at hm
   ·rename_i hk
    rw[hk] at h2
    have i1:=lX o true x.1 s n
    have i2:=xL os x.2 t (dA o true x.1 s n).2.2.2
    simp only[cV,List.mem_append] at hm
    rcases hm with hm|hm
    ·rcases MG hi.1 h2.2 i p hm with g|g
     ·exact .inl ⟨g.1,Nat.lt_of_lt_of_le g.2 i2.le⟩
     ·exact .inr g
    ·rcases BS hi.2 h1 i p hm with g|g
     ·exact .inl ⟨Nat.le_trans i1.le g.1,g.2⟩
     ·exact .inr g
   ·rename_i hk
    rw[hk] at h2
    have h2:p'= .nil:=h2
    subst h2
    simp only[cV,List.nil_append] at hm
    exact BS hi.2 h1 i p hm
  |nil=>cases hi
  |row m=>cases m<;>cases hi
  |cells _ _=>cases hi
theorem BR {F:Mem} {E':Env} (sK:E'.F=F):∀{os:List eU} {y:(cW os).den} {vs:List Value} {it:IT} {n:Nat} {pl gP:PT},(∀o∈os,o.ok=true)->nB E it pl->vh F w os y vs pl gP->nB E' (pv os y it n).2.1 gP->
  ∀m B,(m,B)∈(pv os y it n).1->∃p,E'.place m=some p/\gg E' w p B/\p∈gP.list/\B.mut=true
 |[],_,_,_,_,_,_,_,_,_,_,m,B,hm=>by cases hm
 |o::os,y,vs,it,n,pl,gP,hk,hi,h,EE,m,B,hm=>by
  obtain⟨p0,q0,p',q',rfl,rfl,h1,h2⟩:=h
  cases it with
  |pair s t=>
   unfold pv at hm EE
   simp only at hm EE
   split at hm
   ·rename_i AY
    rw[AY] at h2 EE
    simp only[List.mem_append] at hm
    rcases hm with hm|hm
    ·obtain⟨p,e1,e2,e3,e4⟩:=(qN sK (hk o List.mem_cons_self) h2.1 EE.1).2 m B hm
     exact⟨p,e1,e2,by simp[PT.list,e3],e4⟩
    ·obtain⟨p,e1,e2,e3,e4⟩:=BR sK (fun o ho=>hk o (List.mem_cons_of_mem _ ho)) hi.2 h1 EE.2 m B hm
     exact⟨p,e1,e2,by simp[PT.list,e3],e4⟩
   ·rename_i AY
    rw[AY] at h2 EE
    obtain⟨p,e1,e2,e3,e4⟩:=BR sK (fun o ho=>hk o (List.mem_cons_of_mem _ ho)) hi.2 h1 EE.2 m B hm
    exact⟨p,e1,e2,by simp[PT.list,e3],e4⟩
  |nil=>cases hi
  |row m=>cases m<;>cases hi
  |cells _ _=>cases hi
def xO {α:Type}:Nat->α->List α->List α
 |0,v,l=>v::l
 |_+1,v,[]=>[v]
 |n+1,v,a::l=>a::xO n v l
def EP {α:Type}:Nat->List α->List α
 |_,[]=>[]
 |0,_::l=>l
 |n+1,a::l=>a::EP n l
theorem Pq {α:Type}:∀{n:Nat} {l:List α} {v:α},l[n]? =some v->xO n v (EP n l)=l
 |0,[],v,h=>by simp at h
 |0,a::l,v,h=>by simp at h;subst h;rfl
 |n+1,[],v,h=>by simp at h
 |n+1,a::l,v,h=>by
  have:=Pq (n:=n) (l:=l) (v:=v) (by simpa using h)
  show a::xO n v (EP n l)=_
  rw[this]
theorem Bl {α:Type}:∀{n:Nat} {l:List α} {v:α},(xO n v l).length=l.length+1
 |0,l,v=>rfl
 |n+1,[],v=>rfl
 |n+1,a::l,v=>by simp[xO,Bl]
theorem gF.del:∀{n:Nat} {ss:List SV} {vs:List Value},gF E ss vs->gF E (EP n ss) (EP n vs)
 |n,[],vs,h=>by
  have h:vs=[]:=h
  subst h
  cases n<;>rfl
 |0,s::ss,vs,h=>by obtain⟨v,us,rfl,_,h2⟩:=h;exact h2
 |n+1,s::ss,vs,h=>by
  obtain⟨v,us,rfl,h1,h2⟩:=h
  exact⟨v,_,rfl,h1,gF.del h2⟩
theorem gF.get:∀{n:Nat} {ss:List SV} {vs:List Value} {s:SV},gF E ss vs->ss[n]? =some s->∃v,vs[n]? =some v/\fz E s v
 |n,[],vs,s,h,hs=>by simp at hs
 |0,t::ss,vs,s,h,hs=>by
  obtain⟨v,us,rfl,h1,_⟩:=h
  simp at hs
  subst hs
  exact⟨v,rfl,h1⟩
 |n+1,t::ss,vs,s,h,hs=>by
  obtain⟨v,us,rfl,_,h2⟩:=h
  obtain⟨u,g1,g2⟩:=gF.get (n:=n) h2 (by simpa using hs)
  exact⟨u,by simpa using g1,g2⟩
theorem gF.ins:∀{n:Nat} {ss:List SV} {vs:List Value} {s:SV} {v:Value},gF E ss vs->fz E s v->gF E (xO n s ss) (xO n v vs)
 |0,ss,vs,s,v,h,hs=>⟨v,vs,rfl,hs,h⟩
 |n+1,[],vs,s,v,h,hs=>by
  have h:vs=[]:=h
  subst h
  exact⟨v,[],rfl,hs,rfl⟩
 |n+1,t::ss,vs,s,v,h,hs=>by
  obtain⟨u,us,rfl,h1,h2⟩:=h
  exact⟨u,_,rfl,h1,gF.ins h2 hs⟩
def Fp:List Nat->PT->Option Place
 |[],.cells p _=>some p
 |0::l,.pair a _=>Fp l a
 |1::l,.pair _ b=>Fp l b
 |2::l,.cells _ q=>Fp l q
 |_,_=>none
def Hl:List Nat->IT->Option Nat
 |[],.cells n _=>some n
 |0::l,.pair a _=>Hl l a
 |1::l,.pair _ b=>Hl l b
 |2::l,.cells _ q=>Hl l q
 |_,_=>none
theorem yQ:∀{l:List Nat} {t:IT} {q:PT} {n:Nat},nB E t q->Hl l t=some n->∃p,Fp l q=some p/\E.place n=some p
 |[],.cells m t,.cells p q,n,h,hs=>by
  have hs:some m=some n:=hs
  cases hs
  exact⟨p,rfl,h.1⟩
 |0::l,.pair a b,.pair p q,n,h,hs=>yQ (l:=l) h.1 hs
 |1::l,.pair a b,.pair p q,n,h,hs=>yQ (l:=l) h.2 hs
 |2::l,.cells m t,.cells p q,n,h,hs=>yQ (l:=l) h.2 hs
theorem xx:∀{l:List Nat} {t:IT} {q:PT} {p:Place},Fits t q->Fp l q=some p->∃n,Hl l t=some n
 |[],t,.cells p q,r,h,hs=>by
  cases t with
  |cells m u=>exact⟨m,rfl⟩
  |nil=>cases h
  |row b=>cases b<;>cases h
  |pair _ _=>cases h
 |0::l,t,.pair p q,r,h,hs=>by
  cases t with
  |pair a b=>exact xx (l:=l) h.1 hs
  |nil=>cases h
  |row b=>cases b<;>cases h
  |cells _ _=>cases h
 |1::l,t,.pair p q,r,h,hs=>by
  cases t with
  |pair a b=>exact xx (l:=l) h.2 hs
  |nil=>cases h
  |row b=>cases b<;>cases h
  |cells _ _=>cases h
 |2::l,t,.cells p q,r,h,hs=>by
  cases t with
  |cells m u=>exact xx (l:=l) (t:=u) (by first|exact h|exact h.2) hs
  |nil=>cases h
  |row b=>cases b<;>cases h
  |pair _ _=>cases h
def Bk (al:Option (Nat×List Nat)) (vs:List Value) (pl:PT):List Value:=
 match al with
 |none=>vs
 |some (pos,path)=>(match Fp path pl with
  |some p=>xO pos (.pointer (some ⟨p.bp,0,none⟩)) vs
  |none=>vs)
def Xz (al:Option (Nat×List Nat)) (ss:List SV) (it:IT):List SV:=
 match al with
 |none=>ss
 |some (pos,path)=>(match Hl path it with
  |some n=>xO pos (.one (.ptr n 0)) ss
  |none=>ss)
def KW {α:Type} (al:Option (Nat×List Nat)) (ss:List α):List α:=
 match al with
 |none=>ss
 |some (pos,_)=>EP pos ss
def Y0 (al:Option (Nat×List Nat)) (ss:List SV) (it:IT):Bool:=
 match al with
 |none=>true
 |some (pos,path)=>(match ss[pos]?,Hl path it with
  |some (.one (.ptr b o)),some n=>Nat.beq b n&&Nat.beq o 0
  |_,_=>false)
def ZF (al:Option (Nat×List Nat)) (pl:PT):Prop:=
 match al with
 |none=>True
 |some (_,path)=>∃p,Fp path pl=some p/\p.nil=false
def N1 (al:Option (Nat×List Nat)):Nat:=
 match al with
 |none=>0
 |some _=>1
theorem VR {al:Option (Nat×List Nat)} {ss:List SV} {vs:List Value} (h:gF E ss vs):gF E (KW al ss) (KW al vs):=by
 cases al with
 |none=>exact h
 |some a=>exact h.del
theorem SJ {E1:Env} {al:Option (Nat×List Nat)} {ss:List SV} {vs:List Value} {it:IT} {pl:PT} (hle:E.le E1) (h:gF E ss vs) (mZ:nB E1 it pl) (ha:Y0 al ss it=true):vs=Bk al (KW al vs) pl/\ZF al pl:=by
 cases al with
 |none=>exact⟨rfl,trivial⟩
 |some a=>
  obtain⟨pos,path⟩:=a
  unfold Y0 at ha
  simp only at ha
  split at ha
  ·rename_i b o n hs hn
   simp only[Bool.and_eq_true] at ha
   have e1:=Nat.eq_of_beq_eq_true ha.1
   have e2:=Nat.eq_of_beq_eq_true ha.2
   subst e1 e2
   obtain⟨v,g1,g2⟩:=h.get hs
   obtain⟨c,hc,p,hp,qv,hv⟩:∃c,c=C.ptr b 0/\∃p,E.place b=some p/\p.nil=false/\v= .pointer (some ⟨p.bp,0,none⟩):=⟨_,rfl,g2⟩
   obtain⟨p',k1,k2⟩:=yQ mZ hn
   rw[hle.place _ _ hp] at k2
   cases k2
   refine⟨?_,p,k1,qv⟩
   show vs=match Fp path pl with |some p=>_|none=>_
   rw[k1]
   simp only
   rw[<-hv]
   exact(Pq g1).symm
  ·cases ha
structure fG where
 args:List eU
 outs:List eU
 pre:(cW args).den->Prop
 fn:(cW args).den->(cW outs).den
 fS:(cW args).den->(cW args).den:=fun x=>x
 al:Option (Nat×List Nat):=none
def Qw (outs:List eU) (v:Value) (vs:List Value):Prop:=
 match outs with
 |[_]=>vs=[v]
 |_=>v= .tuple vs.toArray
def Wy:List eU->List C->List (Bool×List C)
 |[],_=>[]
 |o::os,cs=>(o.isAgg,cs.take o.size)::Wy os (cs.drop o.size)
def MC (outs:List eU) (cs:List C):SV:=
 match outs with
 |[o]=>svO o cs
 |_=> .yv (Wy outs cs)
def ox (l:List Place) (b:Nat):Prop:=∃p∈l,p.nil=false/\p.bp=b
structure fq (P:Program) (f:Nat) (c:fG):Prop where
 fn:∃fn code,P.funcs[f]? =some fn/\(fn.name=="runtime.NumGoroutine")=false/\fn.body=some code
 Z4:∀o∈c.args,o.ok=true
 WZ:(cW c.outs).ok=true
 calls:∀(F:Mem) (w:World) (x:(cW c.args).den) (vs:List Value) (pl:PT),(∀b o,F b=some o->w.heap[b]? =some o)->lI F w (cW c.args) x (gB vs) pl->Shape c.args vs->mj pl.list->
  (∀p∈pl.list,p.nil=false->F p.bp=none)->c.pre x->ZF c.al pl->
  Calls P f (Bk c.al vs pl).toArray w fun e w'=>∃v F' Bv gP qs,e= .returned v/\F.le F'/\(∀b o,F' b=some o->w'.heap[b]? =some o)/\(∀b o,F' b=some o->F b=some o\/w.heap.size<=b\/ox pl.list b)/\
   sQ (ox pl.list) w w'/\Qw c.outs v Bv/\Shape c.outs Bv/\lI F' w' (cW c.outs) (c.fn x) (gB Bv) qs/\vh F' w' c.args (c.fS x) (gB vs) pl gP/\
   mj (gP.list++qs.list)/\∀p∈gP.list++qs.list,p.nil=false->(ox pl.list p.bp\/w.heap.size<=p.bp)/\F' p.bp=none
def CM:List Nat->Bool
 |[]=>true
 |n::l=>match has l n with
  |true=>false
  |false=>CM l
theorem xD:∀{l:List Nat},CM l=true->l.Nodup
 |[],_=>List.nodup_nil
 |n::l,h=>by
  unfold CM at h
  split at h
  ·cases h
  ·rename_i hb
   exact List.nodup_cons.2 ⟨fun hm=>(by rw[sJ.2 hm] at hb;cases hb),xD h⟩
def Ab (fr:ij):List Nat->Bool
 |[]=>true
 |n::l=>match vA fr n with
  |true=>Ab fr l
  |false=>false
theorem wm {fr:ij}:∀{l:List Nat},Ab fr l=true->∀n∈l,∀p∈fr,p.1≠n
 |[],_,n,hn=>by cases hn
 |m::l,h,n,hn=>by
  unfold Ab at h
  split at h
  ·rename_i hb
   rcases List.mem_cons.1 hn with rfl|hn
   ·exact As hb
   ·exact wm h n hn
  ·cases h
def J3:Nat->Nat->List Nat
 |_,0=>[]
 |n,k+1=>n::J3 (n+1) k
theorem tQ:∀{k n i:Nat},i∈J3 n k↔n<=i/\i<n+k
 |0,n,i=>⟨fun h=>(by cases h),fun h=>(by omega)⟩
 |k+1,n,i=>by simp only[J3,List.mem_cons,tQ];omega
def fG.run (c:fG) (args:List SV) (d:Nat):RM b9:=do
 let cs <-wy c.args (KW c.al args)
 let x <-mK (cW c.args) cs
 cS (Y0 c.al args x.2.2&&(CM x.2.2.ids&&Ab x.2.1 x.2.2.ids))
 let n:=1000*(d+1)
 let k:=pv c.args (c.fS x.1) x.2.2 n
 let q:=cO (cW c.outs) (c.fn x.1) k.2.2
 .ret {val:=some (MC c.outs q.1),cn:=x.2.1++(k.1++q.2.1),del:=x.2.2.ids,new:=J3 n (q.2.2.2 - n),conds:=[c.pre x.1]}
def fG.dD (c:fG):SX:={run:=c.run}
theorem sR:∀{t:IT} {q:PT},nB E t q->t.ids.Nodup->(∀i∈t.ids,∀j∈t.ids,i≠j->∀p r,E.place i=some p->E.place j=some r->p.nil=false->r.nil=false->p.bp≠r.bp)->
  mj q.list/\∀p∈q.list,p.nil=true\/∃i∈t.ids,E.place i=some p
 | .nil,.nil,_,_,_=>⟨List.Pairwise.nil,fun p hp=>(by cases hp)⟩
 | .row none,.row p,h,_,_=>⟨by simp[PT.list,mj],fun r hr=>by simp[PT.list] at hr;subst hr;have h:r=Au:=h;subst h;exact .inl rfl⟩
 | .row (some n),.row p,h,_,_=>⟨by simp[PT.list,mj],fun r hr=>by simp[PT.list] at hr;subst hr;exact .inr ⟨n,by simp[IT.ids],h⟩⟩
 | .cells n t,.cells p q,h,hn,hd=>by
  simp only[IT.ids,List.nodup_cons] at hn
  obtain⟨k1,k2⟩:=sR h.2 hn.2 fun i hi j hj=>hd i (by simp[IT.ids,hi]) j (by simp[IT.ids,hj])
  refine⟨List.pairwise_cons.2 ⟨fun r hr h1 h2=> ?_,k1⟩,fun r hr=> ?_⟩
  ·rcases k2 r hr with g|⟨i,hi,g⟩
   ·rw[g] at h2;cases h2
   ·exact hd n (by simp[IT.ids]) i (by simp[IT.ids,hi]) (fun e=>hn.1 (e▸hi)) p r h.1 g h1 h2
  ·simp only[PT.list,List.mem_cons] at hr
   rcases hr with rfl|hr
   ·exact .inr ⟨n,by simp[IT.ids],h.1⟩
   ·rcases k2 r hr with g|⟨i,hi,g⟩
    ·exact .inl g
    ·exact .inr ⟨i,by simp[IT.ids,hi],g⟩
 | .pair a b,.pair p q,h,hn,hd=>by
  simp only[IT.ids] at hn
  obtain⟨n1,n2,n3⟩:=List.nodup_append.1 hn
  obtain⟨k1,k2⟩:=sR h.1 n1 fun i hi j hj=>hd i (by simp[IT.ids,hi]) j (by simp[IT.ids,hj])
  obtain⟨l1,l2⟩:=sR h.2 n2 fun i hi j hj=>hd i (by simp[IT.ids,hi]) j (by simp[IT.ids,hj])
  refine⟨List.pairwise_append.2 ⟨k1,l1,fun r hr s hs h1 h2=> ?_⟩,fun r hr=> ?_⟩
  ·rcases k2 r hr with g|⟨i,hi,g⟩
   ·rw[g] at h1;cases h1
   ·rcases l2 s hs with g'|⟨j,hj,g'⟩
    ·rw[g'] at h2;cases h2
    ·exact hd i (by simp[IT.ids,hi]) j (by simp[IT.ids,hj]) (fun e=>n3 i hi j hj e) r s g g' h1 h2
  ·simp only[PT.list,List.mem_append] at hr
   rcases hr with hr|hr
   ·rcases k2 r hr with g|⟨i,hi,g⟩
    ·exact .inl g
    ·exact .inr ⟨i,by simp[IT.ids,hi],g⟩
   ·rcases l2 r hr with g|⟨i,hi,g⟩
    ·exact .inl g
    ·exact .inr ⟨i,by simp[IT.ids,hi],g⟩
theorem xc:∀{t:IT} {q:PT},nB E t q->∀i∈t.ids,∃p∈q.list,E.place i=some p
 | .nil,_,_,i,hi=>by cases hi
 | .row none,_,_,i,hi=>by cases hi
 | .row (some n),.row p,h,i,hi=>by simp[IT.ids] at hi;subst hi;exact⟨p,by simp[PT.list],h⟩
 | .cells n t,.cells p q,h,i,hi=>by
  simp only[IT.ids,List.mem_cons] at hi
  rcases hi with rfl|hi
  ·exact⟨p,by simp[PT.list],h.1⟩
  ·obtain⟨r,h1,h2⟩:=xc h.2 i hi
   exact⟨r,by simp[PT.list,h1],h2⟩
 | .pair a b,.pair p q,h,i,hi=>by
  simp only[IT.ids,List.mem_append] at hi
  rcases hi with hi|hi
  ·obtain⟨r,h1,h2⟩:=xc h.1 i hi
   exact⟨r,by simp[PT.list,h1],h2⟩
  ·obtain⟨r,h1,h2⟩:=xc h.2 i hi
   exact⟨r,by simp[PT.list,h1],h2⟩
theorem Q8 {outs:List eU} {cs:List C} {v:Value} {vs:List Value} (hv:Qw outs v vs) (hs:Shape outs vs) (hc:b7 E cs (gB vs)):fz E (MC outs cs) v:=by
 have yv:∀{os:List eU} {cs:List C} {vs:List Value},Shape os vs->b7 E cs (gB vs)->fz.go E (Wy os cs) vs:=by
  intro os
  induction os with
  |nil=>intro cs vs hs hc;have hs:vs=[]:=hs;subst hs;rfl
  |cons o os ih=>
   intro cs vs hs hc
   have hr:=Ak hc hs
   obtain⟨v,us,rfl,h1,h2⟩:=hs
   obtain⟨v',Gn,he,k1,k2⟩:=hr
   cases he
   simp only[gB,List.flatMap_cons] at hc
   have iT:v.cells.toList.length=o.size:=by
    cases hb:o.isAgg with
    |true=>rw[hb] at h1;obtain⟨ws,rfl,e⟩:=h1;simpa [Value.cells] using e
    |false=>rw[hb] at h1;rw[h1.1,h1.2];rfl
   have c2:b7 E (cs.drop o.size) (gB us):=by
    have:=hc.drop o.size
    rwa [List.drop_left' iT] at this
   refine⟨v,us,rfl,?_,ih h2 c2⟩
   have c1:b7 E (cs.take o.size) v.cells.toList:=by
    have:=hc.take o.size
    rwa [List.take_left' iT] at this
   cases hb:o.isAgg with
   |true=>rw[hb] at h1;obtain⟨ws,rfl,e⟩:=h1;exact⟨ws,rfl,c1⟩
   |false=>
    rw[hb] at h1
    have hl:=c1.length
    rw[h1.1] at c1 hl
    simp only[List.length_cons,List.length_nil] at hl
    obtain⟨c,BZ⟩:=List.length_eq_one_iff.1 hl.symm
    rw[BZ] at c1
    obtain⟨u,hu,c1⟩:=jB c1
    cases hu
    exact⟨c,BZ,c1⟩
 unfold Qw at hv
 unfold MC
 split at hv
 ·rename_i o
  subst hv
  obtain⟨_,_,he,k,_⟩:=Ak hc hs
  cases he
  have iT:o.size=cs.length:=by
   obtain⟨_,_,he,h1,_⟩:=hs
   cases he
   have:=hc.length
   simp only[gB,List.flatMap_cons,List.flatMap_nil,List.append_nil] at this
   cases hb:o.isAgg with
   |true=>rw[hb] at h1;obtain⟨ws,rfl,e⟩:=h1;simp[Value.cells] at this;omega
   |false=>rw[hb] at h1;rw[h1.1] at this;simp at this;omega
  rwa [iT,List.take_length] at k
 ·subst hv
  exact⟨vs.toArray,rfl,yv hs hc⟩
theorem fq.dD {f:Nat} {c:fG} (hc:fq P f c):mB P f c.dD where
 fn:=hc.fn
 calls:=by
  intro w0 foot base S ctx E w args vs d r hR hv hr cr qn
  unfold fG.dD fG.run at hr
  obtain⟨cs,h1,hr⟩:=RM.run_bind' hr
  obtain⟨⟨x,fr,it⟩,h2,hr⟩:=RM.run_bind' hr
  obtain⟨_,h3,hr⟩:=RM.run_bind' hr
  cases hr
  simp only at cr qn ⊢
  have hg:=bR h3
  simp only[Bool.and_eq_true] at hg
  obtain⟨aiI,hg⟩:=hg
  have hnd:=xD hg.1
  have o9:=wm hg.2
  have aas:=hv
  have hv:=VR (al:=c.al) hv
  obtain⟨mF,aay⟩:=xm h1 hv
  obtain⟨k1,k2,k3⟩:=lY h2
  obtain⟨E1,l1,q1,f1,zB⟩:=hR.cE k1
  have hfz:=ft.qi k1 zB
  have uV:∀n∈it.ids,find (cE fr S.bl) n=find S.bl n:=fun n hn=>iv (o9 n hn)
  have rC:∀n∈it.ids,∃B,find (cE fr S.bl) n=some B/\B.mut=true:=fun n hn=>by rw[uV n hn];exact k2 n hn
  obtain⟨pl,mZ,jJ⟩:=k3 E1 w (gB (KW c.al vs)) (mF.mono l1) hfz fun n hn B hB=>zB.cn n B (by rw[uV n hn];exact hB)
  have aeJ:∀i∈it.ids,∀j∈it.ids,i≠j->∀p r,E1.place i=some p->E1.place j=some r->p.nil=false->r.nil=false->p.bp≠r.bp:=fun i hi j hj k6 p r hp hr qv XP=>by
   obtain⟨B,hB,_⟩:=rC i hi
   obtain⟨D,hD,_⟩:=rC j hj
   exact zB.inj i j B D p r hB hD hp hr qv XP k6
  obtain⟨RZ,FU⟩:=sR mZ hnd aeJ
  have oN:∀b,ox pl.list b↔Ap it.ids E1 b:=fun b=>by
   constructor
   ·rintro⟨p,hp,hn,rfl⟩
    rcases FU p hp with h|⟨i,hi,h⟩
    ·rw[h] at hn;cases hn
    ·exact⟨i,hi,p,h,hn,rfl⟩
   ·rintro⟨i,hi,p,hp,hn,rfl⟩
    obtain⟨p',h1,h2⟩:=xc mZ i hi
    rw[hp] at h2
    cases h2
    exact⟨p,h1,hn,rfl⟩
  have EI:∀p∈pl.list,p.nil=false->E1.F p.bp=none:=fun p hp hn=>by
   rcases FU p hp with h|⟨i,hi,h⟩
   ·rw[h] at hn;cases hn
   ·obtain⟨B,hB,hm⟩:=rC i hi
    exact(zB.own i B p hB h hn).2 hm
  have pj:c.pre x:=cr _ (List.mem_singleton.2 rfl)
  obtain⟨aiF,EH⟩:=SJ l1 aas mZ aiI
  rw[aiF]
  generalize KW c.al vs=vs at *
  refine(hc.calls E1.F w x vs pl zB.m7 jJ aay RZ EI pj EH).mono fun e w' hp=> ?_
  obtain⟨v,F',Bv,gP,qs,rfl,hF,FW,wS,sX,hov,hos,XS,hk,aiv,aeo⟩:=hp
  generalize hko:pv c.args (c.fS x) it (1000*(d+1))=k at *
  have hI:=xL c.args (c.fS x) it (1000*(d+1))
  have zz:=zn (x:=c.fS x) (n:=1000*(d+1)) mZ hk
  have abM:=BS (x:=c.fS x) (n:=1000*(d+1)) mZ hk
  rw[hko] at hI zz abM
  generalize XQ:cO (cW c.outs) (c.fn x) k.2.2=q at *
  have hJ:=mq (cW c.outs) (c.fn x) k.2.2
  have R8:=fZ (x:=c.fn x) (n:=k.2.2) XS
  rw[XQ] at hJ R8
  obtain⟨j1,j2,j3,j4⟩:=hJ
  have EC:∀i∈it.ids,i∈S.used:=fun i hi=>by
   obtain⟨p,_,h⟩:=xc mZ i hi
   exact zB.used i p h
  have aaC:∀i,1000*(d+1)<=i->i<q.2.2.2->i∉S.used:=fun i h1 h2=>qn i (tQ.2 ⟨h1,by omega⟩)
  have vH:∀i∈it.ids,¬(1000*(d+1)<=i/\i<q.2.2.2):=fun i hi hh=>aaC i hh.1 hh.2 (EC i hi)
  have hle:=hI.le
  have nd1:k.2.1.ids.Nodup:=hI.nodup hnd fun i hi hh=>vH i hi ⟨hh.1,by omega⟩
  have abO:Fits (.pair k.2.1 q.2.2.1) (.pair gP qs):=⟨zz,R8⟩
  obtain⟨Pj,Tm⟩:=nQ abO
  have ndA:(IT.pair k.2.1 q.2.2.1).ids.Nodup:=by
   simp only[IT.ids]
   refine List.nodup_append.2 ⟨nd1,j3,fun i hi j hj e=> ?_⟩
   subst e
   have g:=j2 i hj
   rcases hI.lk i hi with h|h
   ·exact vH i h ⟨by omega,g.2⟩
   ·omega
  have Sf:∀i p,(i,p)∈cV (.pair k.2.1 q.2.2.1) (.pair gP qs)->find (cV (.pair k.2.1 q.2.2.1) (.pair gP qs)) i=some p:=fun i p hm=>vK (by rw[Pj];exact ndA) hm
  have place:∀i p,(i,p)∈cV (.pair k.2.1 q.2.2.1) (.pair gP qs)->(E1.rebind F' (cV (.pair k.2.1 q.2.2.1) (.pair gP qs))).place i=some p:=fun i p hm=>by
   show(match find _ i with |some p=>some p|none=>E1.place i)=some p
   rw[Sf i p hm]
  have PN:=r8 abO place
  have Tk:(k.1++q.2.1).map (·.1)=(IT.pair k.2.1 q.2.2.1).ids:=by simp only[List.map_append,IT.ids,hI.keys,j4]
  have ahh:∀i B,(i,B)∈k.1++q.2.1->∃p,(E1.rebind F' (cV (.pair k.2.1 q.2.2.1) (.pair gP qs))).place i=some p/\gg (E1.rebind F' (cV (.pair k.2.1 q.2.2.1) (.pair gP qs))) w' p B/\p∈gP.list++qs.list:=fun i B hm=>by
   rcases List.mem_append.1 hm with hm|hm
   ·have:=BR (E:=E1) (E':=E1.rebind F' (cV (.pair k.2.1 q.2.2.1) (.pair gP qs))) (n:=1000*(d+1)) rfl hc.Z4 mZ hk (by rw[hko];exact PN.1) i B (by rw[hko];exact hm)
    obtain⟨p,e1,e2,e3,_⟩:=this
    exact⟨p,e1,e2,List.mem_append_left _ e3⟩
   ·have:=(gK (E:=E1.rebind F' (cV (.pair k.2.1 q.2.2.1) (.pair gP qs))) (n:=k.2.2) rfl hc.WZ XS (by rw[XQ];exact PN.2)).2 i B (by rw[XQ];exact hm)
    obtain⟨p,e1,e2,e3,_⟩:=this
    exact⟨p,e1,e2,List.mem_append_right _ e3⟩
  have abx:∀i B,(i,B)∈k.1++q.2.1->∃p,(i,p)∈cV (.pair k.2.1 q.2.2.1) (.pair gP qs):=fun i B hm=>by
   have:i∈(cV (.pair k.2.1 q.2.2.1) (.pair gP qs)).map (·.1):=by
    rw[Pj,<-Tk]
    exact List.mem_map_of_mem (f:=(·.1)) hm
   obtain⟨⟨i',p⟩,h1,h2⟩:=List.mem_map.1 this
   cases h2
   exact⟨p,h1⟩
  have hsw:=zB.swap (L:=it.ids) rC (w':=w') (F':=F') (NB:=k.1++q.2.1) (fresh:=J3 (1000*(d+1)) (q.2.2.2 - 1000*(d+1))) (bd:=cV (.pair k.2.1 q.2.2.1) (.pair gP qs))
   hF FW (fun b o hb=>by rcases wS b o hb with h|h|h;exact .inl h;exact .inr (.inl h);exact .inr (.inr ((oN b).1 h)))
   ⟨sX.os,sX.tape,sX.output,sX.size,fun b hb hnb=>sX.block b hb fun h=>hnb ((oN b).1 h)⟩ qn
   (fun i p hf=>by
    have hm:=AD hf
    simp only[cV,List.mem_append] at hm
    rcases hm with hm|hm
    ·rcases abM i p hm with h|h
     ·exact .inl (tQ.2 ⟨h.1,by omega⟩)
     ·exact .inr h
    ·left
     have:i∈q.2.2.1.ids:=by
      rw[<-(nQ R8).1]
      exact List.mem_map_of_mem (f:=(·.1)) hm
     have:=j2 i this
     exact tQ.2 ⟨by omega,by omega⟩)
   (fun i B hm=>by
    have:i∈(IT.pair k.2.1 q.2.2.1).ids:=by rw[<-Tk];exact List.mem_map_of_mem (f:=(·.1)) hm
    simp only[IT.ids,List.mem_append] at this
    rcases this with h|h
    ·rcases hI.lk i h with h|h
     ·exact .inl h
     ·exact .inr (tQ.2 ⟨h.1,by omega⟩)
    ·have:=j2 i h
     exact .inr (tQ.2 ⟨by omega,by omega⟩))
   (fun i B hm=>by
    obtain⟨p,e1,e2,e3⟩:=ahh i B hm
    refine⟨p,e1,e2,fun hn=> ?_⟩
    obtain⟨g1,g2⟩:=aeo p e3 hn
    exact⟨g1.imp_left (oN p.bp).1,g2⟩)
   (fun i B j D p r hi hj k6 hp hr qv XP=>by
    obtain⟨p',dn⟩:=abx i B hi
    obtain⟨r',Nj⟩:=abx j D hj
    have e1:=place i p' dn
    have e2:=place j r' Nj
    rw[hp] at e1
    rw[hr] at e2
    cases e1
    cases e2
    refine mj.apart (l:=cV (.pair k.2.1 q.2.2.1) (.pair gP qs)) ?_ dn Nj k6 qv XP
    rw[Tm]
    exact aiv)
  obtain⟨aiA,Ns⟩:=hsw
  refine⟨v,_,rfl,l1.trans aiA,?_,?_⟩
  ·refine Ns.congr (fun i B hf=> ?_) (by simp only;exact fun _ h=>h)
   have hf:find (vy (k.1++q.2.1) (cE fr (it.ids.foldl rem S.bl))) i=some B:=by
    have e:gU {val:=some (MC c.outs q.1),cn:=fr++(k.1++q.2.1),del:=it.ids,new:=J3 (1000*(d+1)) (q.2.2.2 - 1000*(d+1)),conds:=[c.pre x]} S.bl=vy (k.1++q.2.1) (cE fr (it.ids.foldl rem S.bl)):=by
     simp[gU,vy,cE,List.foldl_append]
    rw[<-e]
    exact hf
   have UC:∀{i:Nat},find (cE fr (it.ids.foldl rem S.bl)) i=find (it.ids.foldl rem (cE fr S.bl)) i:=fun {i}=>by
    by_cases hi:i∈it.ids
    ·have e2:find (it.ids.foldl rem (cE fr S.bl)) i=none:=by
      cases h:find (it.ids.foldl rem (cE fr S.bl)) i with
      |none=>rfl
      |some B=>exact absurd hi (tB h).2
     have e3:find (it.ids.foldl rem S.bl) i=none:=by
      cases h:find (it.ids.foldl rem S.bl) i with
      |none=>rfl
      |some B=>exact absurd hi (tB h).2
     rw[e2,iv (o9 i hi),e3]
    ·rw[qX hi]
     have gen:∀{fr:ij} {b1 b2:List (Nat×c7)},find b1 i=find b2 i->find (cE fr b1) i=find (cE fr b2) i:=by
      intro fr
      induction fr with
      |nil=>intro b1 b2 h;exact h
      |cons p fr ih=>
       intro b1 b2 h
       refine ih ?_
       by_cases e:p.1=i
       ·subst e;rw[bP,bP]
       ·rw[bn _ _ _ _ e,bn _ _ _ _ e];exact h
     exact gen (qX hi)
   have ajk:∀{l b1 b2:List (Nat×c7)},(∀{i:Nat},find b1 i=find b2 i)->∀{i:Nat},find (vy l b1) i=find (vy l b2) i:=by
    intro l
    induction l with
    |nil=>intro b1 b2 h i;exact h
    |cons p l ih=>
     intro b1 b2 h i
     refine ih fun {j}=> ?_
     by_cases e:p.1=j
     ·subst e;rw[bP,bP]
     ·rw[bn _ _ _ _ e,bn _ _ _ _ e];exact h
   rw[<-ajk UC]
   exact hf
  ·have:=(gK (E:=E1.rebind F' (cV (.pair k.2.1 q.2.2.1) (.pair gP qs))) (n:=k.2.2) rfl hc.WZ XS (by rw[XQ];exact PN.2)).1
   rw[XQ] at this
   exact Q8 hov hos this
end Go.Vc
end
