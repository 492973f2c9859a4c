/-
  The base of a small verification-condition generator: pure data types, symbolic values, how they lie in memory, and the basic facts about them. No program is na.
-/
import Derived.Calls
import Derived.Orders
import Derived.Laws.Sem
import Derived.Laws.World
import Derived.Laws.Cells
import Derived.Laws.CopyRow
import Derived.Below
import Derived.Laws.IdiomRangeMap
import Derived.IntWalk
import Derived.Laws.Entries
import Derived.Laws.MakeOwn
import Derived.Laws.AppendOwn
import Derived.Laws.StructEq
import Derived.Laws.Append
import Derived.Lib.Strings
import Derived.Lib.MinMax
import Derived.WideKeyRuns
import Derived.WideMake

section
set_option linter.unusedVariables false
set_option linter.unusedSimpArgs false
namespace Go.Vc
open Go
inductive Ty where
 |int (k:IntKind)
 |bool
 |str
 |list (t:Ty)
 |unit
 |pair (a b:Ty)
 |ref (t:Ty)
 |ptr (t:Ty)
 |lN (k:Nat) (t:Ty)
 |map (a b:Ty)
@[reducible] def Ty.den (t:Ty):Type:=Ty.rec (motive:=fun _=>Type) (fun _=>Int) Bool (List UInt8) (fun _ d=>List d) Unit (fun _ _ a b=>a×b) (fun _ d=>d) (fun _ d=>Option d) (fun _ _ d=>d) (fun _ _ a b=>List (a×b)) t
@[reducible] def Ty.L {t:Ty} (xs:(Ty.list t).den):List t.den:=xs
@[reducible] def Ty.M {a b:Ty} (m:(Ty.map a b).den):List (a.den×b.den):=m
@[reducible] def Ty.I {k:IntKind} (n:(Ty.int k).den):Int:=n
@[reducible] def Ty.B (b:Ty.bool.den):Bool:=b
@[reducible] def Ty.S (s:Ty.str.den):List UInt8:=s
def Ty.size:Ty->Nat
 | .int _| .bool| .str| .list _| .ref _| .ptr _| .lN _ _| .map _ _=>1
 | .unit=>0
 | .pair a b=>a.size+b.size
def Ty.Du:(t:Ty)->t.den
 | .int _=>(0:Int)
 | .bool=>false
 | .str=>([]:List UInt8)
 | .list _=>[]
 | .unit=>()
 | .pair a b=>(a.Du,b.Du)
 | .ref t=>t.Du
 | .ptr _=>none
 | .lN _ t=>t.Du
 | .map _ _=>[]
def Ty.isAgg:Ty->Bool
 | .unit| .pair _ _=>true
 |_=>false
def pF:IntKind->IntKind->Bool
 | .i8,.i8| .i16,.i16| .i32,.i32| .i64,.i64| .u8,.u8| .u16,.u16| .u32,.u32| .u64,.u64=>true
 |_,_=>false
theorem ql {a b:IntKind} (h:pF a b=true):a=b:=by
 cases a<;>cases b<;>simp[pF] at h<;>rfl
def Ty.beq:Ty->Ty->Bool
 | .int j,.int k=>pF j k
 | .bool,.bool=>true
 | .str,.str=>true
 | .list a,.list b=>a.beq b
 | .unit,.unit=>true
 | .pair a b,.pair c d=>a.beq c&&b.beq d
 | .ref a,.ref b=>a.beq b
 | .ptr a,.ptr b=>a.beq b
 | .lN j a,.lN k b=>Nat.beq j k&&a.beq b
 | .map a b,.map c d=>a.beq c&&b.beq d
 |_,_=>false
theorem Ty.beq_eq:∀{a b:Ty},a.beq b=true->a=b
 | .int j,.int k,h=>by rw[ql h]
 | .bool,.bool,_=>rfl
 | .str,.str,_=>rfl
 | .list a,.list b,h=>by rw[Ty.beq_eq (a:=a) (b:=b) h]
 | .unit,.unit,_=>rfl
 | .pair a b,.pair c d,h=>by
  simp only[Ty.beq,Bool.and_eq_true] at h
  rw[Ty.beq_eq h.1,Ty.beq_eq h.2]
 | .ref a,.ref b,h=>by rw[Ty.beq_eq (a:=a) (b:=b) h]
 | .ptr a,.ptr b,h=>by rw[Ty.beq_eq (a:=a) (b:=b) h]
 | .lN j a,.lN k b,h=>by
  simp only[Ty.beq,Bool.and_eq_true] at h
  rw[Nat.eq_of_beq_eq_true h.1,Ty.beq_eq h.2]
 | .map a b,.map c d,h=>by
  simp only[Ty.beq,Bool.and_eq_true] at h
  rw[Ty.beq_eq h.1,Ty.beq_eq h.2]
theorem JH (a:IntKind):pF a a=true:=by cases a<;>rfl
theorem Ty.beq_refl:∀(a:Ty),a.beq a=true
 | .int j=>JH j
 | .bool| .str| .unit=>rfl
 | .list a=>Ty.beq_refl a
 | .pair a b=>by simp[Ty.beq,Ty.beq_refl a,Ty.beq_refl b]
 | .ref a=>Ty.beq_refl a
 | .ptr a=>Ty.beq_refl a
 | .lN k a=>by simp[Ty.beq,Ty.beq_refl a]
 | .map a b=>by simp[Ty.beq,Ty.beq_refl a,Ty.beq_refl b]
def Ty.as {a:Ty} (b:Ty) (x:a.den):Option b.den:=
 match h:a.beq b with
 |true=>some (Ty.beq_eq h▸x)
 |false=>none
theorem Ty.Qs {a:Ty} (x:a.den):Ty.as a x=some x:=by
 unfold Ty.as
 split
 ·rfl
 ·rename_i h;rw[Ty.beq_refl] at h;cases h
theorem Ty.iQ {a b:Ty} {x:a.den} {y:b.den} (h:Ty.as b x=some y):∃e:a=b,y=e▸x:=by
 unfold Ty.as at h
 split at h
 ·rename_i hb
  exact⟨Ty.beq_eq hb,(Option.some.inj h).symm⟩
 ·cases h
def bo (k:IntKind) (n:Int):Prop:=k.min<=n/\n<=k.max
def aM:Nat:=9223372036854775807
def Ty.wf:(t:Ty)->t.den->Prop
 | .int k,n=>bo k n
 | .bool,_=>True
 | .str,s=>(Ty.S s).length<=aM
 | .list t,xs=>(Ty.L xs).length<=aM/\∀x∈Ty.L xs,t.wf x
 | .unit,_=>True
 | .pair a b,x=>a.wf x.1/\b.wf x.2
 | .ref t,x=>t.wf x
 | .ptr t,x=>∀y,x=some y->t.wf y
 | .lN _ t,x=>t.wf x
 | .map a b,m=>∀x∈Ty.M m,a.wf x.1/\b.wf x.2
inductive C where
 |aG (t:Ty) (x:t.den)
 |row (t:Ty) (b:Nat)
 |sub (t:Ty) (b lo len:Nat)
 |ptr (b o:Nat)
 |mD (t:Ty) (b i o:Nat)
 |ta (t:Ty) (xs:List t.den) (i o:Nat)
 |kq
 |o6
 |HH
 |iH (k:Nat) (bs:List Nat)
 |map (a b:Ty) (n:Nat)
 |pR
 |xo (d:Nat)
inductive SV where
 |one (c:C)
 |agg (cs:List C)
 |yv (vs:List (Bool×List C))
inductive c7 where
 |cells (cs:List C)
 |row (je:Bool) (e:Nat) (t:Ty) (xs:List t.den)
 |iA (t:Ty) (x:t.den)
 |map (je:Bool) (a b:Ty) (m:List (a.den×b.den)) (cur:Option (Nat×Nat))
 |iter (a b:Ty) (todo:List (a.den×b.den)) (cur:Option (a.den×b.den))
def flat:(t:Ty)->t.den->List C
 | .int k,n=>[.aG (.int k) n]
 | .bool,b=>[.aG .bool b]
 | .str,s=>[.aG .str s]
 | .list t,xs=>[.aG (.list t) xs]
 | .unit,_=>[]
 | .pair a b,x=>flat a x.1++flat b x.2
 | .ref t,x=>[.ta t [x] 0 0]
 | .ptr t,x=>[.aG (.ptr t) x]
 | .lN k t,x=>[.aG (.lN k t) x]
 | .map a b,m=>[.aG (.map a b) m]
theorem tz:∀(t:Ty) (x:t.den),(flat t x).length=t.size
 | .int _,_| .bool,_| .str,_| .list _,_| .unit,_| .ref _,_| .ptr _,_| .lN _ _,_| .map _ _,_=>rfl
 | .pair a b,x=>by simp[flat,Ty.size,tz a x.1,tz b x.2]
abbrev Mem:=Nat->Option Obj
def Mem.cell (F:Mem) (b o:Nat) (u:Value):Prop:=∃c e m,F b=some (.cells c e m)/\c[o]? =some u
def Mem.le (F F':Mem):Prop:=∀b o,F b=some o->F' b=some o
theorem Mem.le.refl (F:Mem):F.le F:=fun _ _ h=>h
theorem Mem.le.trans {F G H:Mem} (h:F.le G) (k:G.le H):F.le H:=fun b o e=>k b o (h b o e)
theorem Mem.cell.mono {F F':Mem} (h:F.le F') {b o:Nat} {u:Value} (k:F.cell b o u):F'.cell b o u:=
 let⟨c,e,m,h1,h2⟩:=k;⟨c,e,m,h _ _ h1,h2⟩
def AN (es:Array MapEntry) (cl:Nat):Prop:=es.toList.Pairwise (fun x y=>x.born<y.born)/\∀e∈es.toList,e.born<cl
def Ty.valOf (t:Ty) (us:List Value):Value:=
 match t.isAgg with
 |true=> .agg us.toArray
 |false=>us.headD undef
def dj (F:Mem):(t:Ty)->t.den->List Value->Prop
 | .int k,n,vs=>vs=[.int k n]/\bo k n
 | .bool,b,vs=>vs=[.bool b]
 | .str,s,vs=>vs=[.string ⟨⟨Ty.S s⟩⟩]/\(Ty.S s).length<=aM
 | .list t,xs,vs=>∃a cap,vs=[.slice a ((Ty.L xs).length) cap]/\(Ty.L xs).length<=cap/\cap<=aM/\
   (a=none->cap=0)/\(∀p:Addr,a=some p->∀(i:Nat) (x:t.den),(Ty.L xs)[i]? =some x->
    p.spot=none/\∃us:List Value,dj F t x us/\us.length=t.size/\∀(j:Nat) u,us[j]? =some u->F.cell p.block (p.off+(i*t.size+j)) u)
 | .unit,_,vs=>vs=[]
 | .pair a b,x,vs=>∃us ws,vs=us++ws/\dj F a x.1 us/\dj F b x.2 ws
 | .ref t,x,vs=>∃b off,vs=[.pointer (some ⟨b,off,none⟩)]/\∃us:List Value,dj F t x us/\us.length=t.size/\∀(j:Nat) u,us[j]? =some u->F.cell b (off+j) u
 | .ptr t,x,vs=>(x=none/\vs=[.pointer none])\/∃y,x=some y/\∃b off,vs=[.pointer (some ⟨b,off,none⟩)]/\∃us:List Value,dj F t y us/\us.length=t.size/\∀(j:Nat) u,us[j]? =some u->F.cell b (off+j) u
 | .lN k t,x,vs=>∃ws,vs=[.func (.func k) #[] ws]/\dj F t x ws.toList
 | .map a b,m,vs=>∃o,vs=[.map o]/\(o=none->Ty.M m=[])/\∀n,o=some n->∃(m0:List (a.den×b.den)) (es:Array MapEntry) (cl:Nat),m0.Perm (Ty.M m)/\F n=some (.map es cl)/\AN es cl/\(m0.map Prod.fst).Nodup/\es.size=m0.length/\
   ∀(i:Nat) (x:a.den×b.den),m0[i]? =some x->∃e us ws,es[i]? =some e/\dj F a x.1 us/\e.key=a.valOf us/\dj F b x.2 ws/\e.val=b.valOf ws
theorem dj.length {F:Mem}:∀{t:Ty} {x:t.den} {vs:List Value},dj F t x vs->vs.length=t.size
 | .int _,_,_,h=>by rw[h.1];rfl
 | .bool,_,_,h=>by rw[show _=_ from h];rfl
 | .str,_,_,h=>by rw[h.1];rfl
 | .list _,_,_,h=>by obtain⟨_,_,h,_⟩:=h;rw[h];rfl
 | .unit,_,_,h=>by rw[show _=_ from h];rfl
 | .pair _ _,_,_,h=>by obtain⟨_,_,rfl,h1,h2⟩:=h;simp[Ty.size,h1.length,h2.length]
 | .ref _,_,_,h=>by obtain⟨_,_,h,_⟩:=h;rw[h];rfl
 | .ptr _,_,_,h=>by
  rcases h with ⟨_,h⟩|⟨_,_,_,_,h,_⟩
  ·rw[h];rfl
  ·rw[h];rfl
 | .lN _ _,_,_,h=>by obtain⟨_,h,_⟩:=h;rw[h];rfl
 | .map _ _,_,_,h=>by obtain⟨_,h,_⟩:=h;rw[h];rfl
theorem dj.mono {F F':Mem} (hF:F.le F'):∀{t:Ty} {x:t.den} {vs:List Value},dj F t x vs->dj F' t x vs
 | .int _,_,_,h=>h
 | .bool,_,_,h=>h
 | .str,_,_,h=>h
 | .list t,xs,_,h=>by
  obtain⟨a,cap,h0,h1,h2,h3,h4⟩:=h
  refine⟨a,cap,h0,h1,h2,h3,fun p hp i x hx=> ?_⟩
  obtain⟨hs,us,k1,k2,k3⟩:=h4 p hp i x hx
  exact⟨hs,us,dj.mono hF k1,k2,fun j u hu=>(k3 j u hu).mono hF⟩
 | .unit,_,_,h=>h
 | .pair _ _,_,_,h=>by
  obtain⟨us,ws,h0,h1,h2⟩:=h
  exact⟨us,ws,h0,dj.mono hF h1,dj.mono hF h2⟩
 | .ref _,_,_,h=>by
  obtain⟨b,off,h0,us,k1,k2,k3⟩:=h
  exact⟨b,off,h0,us,dj.mono hF k1,k2,fun j u hu=>(k3 j u hu).mono hF⟩
 | .ptr _,_,_,h=>by
  rcases h with h|⟨y,hy,b,off,h0,us,k1,k2,k3⟩
  ·exact .inl h
  ·exact .inr ⟨y,hy,b,off,h0,us,dj.mono hF k1,k2,fun j u hu=>(k3 j u hu).mono hF⟩
 | .lN _ _,_,_,h=>by
  obtain⟨ws,h0,h1⟩:=h
  exact⟨ws,h0,dj.mono hF h1⟩
 | .map a b,m,_,h=>by
  obtain⟨o,h0,h1,h2⟩:=h
  refine⟨o,h0,h1,fun n hn=> ?_⟩
  obtain⟨m0,es,cl,k0,k1,k4,k5,k2,k3⟩:=h2 n hn
  refine⟨m0,es,cl,k0,hF _ _ k1,k4,k5,k2,fun i x hx=> ?_⟩
  obtain⟨e,us,ws,q1,q2,q3,q4,q5⟩:=k3 i x hx
  exact⟨e,us,ws,q1,dj.mono hF q2,q3,dj.mono hF q4,q5⟩
theorem dj.wf {F:Mem}:∀{t:Ty} {x:t.den} {vs:List Value},dj F t x vs->t.wf x
 | .int _,_,_,h=>h.2
 | .bool,_,_,_=>trivial
 | .str,_,_,h=>h.2
 | .list t,xs,_,h=>by
  obtain⟨a,cap,h0,h1,h2,h3,h4⟩:=h
  refine⟨Nat.le_trans h1 h2,fun x hx=> ?_⟩
  obtain⟨i,hi,rfl⟩:=List.mem_iff_getElem.1 hx
  cases a with
  |none=>have:=h3 rfl;subst this;exact absurd hi (by have:(Ty.L xs).length=0:=(by omega);omega)
  |some p=>
   obtain⟨_,us,k1,_⟩:=h4 p rfl i _ (List.getElem?_eq_getElem hi)
   exact dj.wf k1
 | .unit,_,_,_=>trivial
 | .pair _ _,_,_,h=>by
  obtain⟨us,ws,h0,h1,h2⟩:=h
  exact⟨dj.wf h1,dj.wf h2⟩
 | .ref t,x,_,h=>by
  obtain⟨_,_,_,us,k1,_⟩:=h
  exact dj.wf (t:=t) k1
 | .ptr t,x,_,h=>by
  rcases h with ⟨h,_⟩|⟨y,hy,_,_,_,us,k1,_⟩
  ·subst h;intro y hy;cases hy
  ·subst hy
   intro z hz
   cases hz
   exact dj.wf (t:=t) k1
 | .lN _ t,x,_,h=>by
  obtain⟨_,_,k1⟩:=h
  exact dj.wf (t:=t) k1
 | .map a b,m,_,h=>by
  obtain⟨o,_,h1,h2⟩:=h
  intro x hx
  cases o with
  |none=>rw[h1 rfl] at hx;cases hx
  |some n=>
   obtain⟨m0,es,cl,k0,_,_,_,_,k3⟩:=h2 n rfl
   obtain⟨i,hi,rfl⟩:=List.mem_iff_getElem.1 (k0.mem_iff.2 hx)
   obtain⟨e,us,ws,_,q2,_,q4,_⟩:=k3 i _ (List.getElem?_eq_getElem hi)
   exact⟨dj.wf q2,dj.wf q4⟩
structure Place where
 nil:Bool
 bp:Nat
 cap:Nat
 len:Nat
structure Env where
 F:Mem
 place:Nat->Option Place
structure Env.le (E E':Env):Prop where
 F:E.F.le E'.F
 place:∀b p,E.place b=some p->E'.place b=some p
theorem Env.le.refl (E:Env):E.le E:=⟨.refl _,fun _ _ h=>h⟩
theorem Env.le.trans {E E' E'':Env} (h:E.le E') (k:E'.le E''):E.le E'':=⟨h.F.trans k.F,fun b p e=>k.place b p (h.place b p e)⟩
def gV (E:Env):C->Value->Prop
 | .aG t x,v=>t.isAgg=false/\dj E.F t x [v]
 | .row _ b,v=>∃p,E.place b=some p/\
   ((p.nil=true/\v= .slice none 0 0/\p.len=0)\/(p.nil=false/\v= .slice (some ⟨p.bp,0,none⟩) p.len p.cap/\p.len<=p.cap/\p.cap<=aM))
 | .sub t b lo len,v=>∃p,E.place b=some p/\lo+len<=p.len/\
   ((p.nil=true/\v= .slice none 0 0/\p.len=0)\/
    (p.nil=false/\∃a:Addr,v= .slice (some a) len (p.cap - lo)/\p.len<=p.cap/\p.cap<=aM/\(lo=p.cap\/a=⟨p.bp,lo*t.size,none⟩)))
 | .ptr b o,v=>∃p,E.place b=some p/\p.nil=false/\v= .pointer (some ⟨p.bp,o,none⟩)
 | .mD t b i o,v=>∃p,E.place b=some p/\p.nil=false/\i<p.len/\v= .pointer (some ⟨p.bp,i*t.size+o,none⟩)
 | .ta t xs i o,v=>i<xs.length/\∃b off,v= .pointer (some ⟨b,off+(i*t.size+o),none⟩)/\
   ∀(i:Nat) (x:t.den),xs[i]? =some x->
    ∃us:List Value,dj E.F t x us/\us.length=t.size/\∀(j:Nat) u,us[j]? =some u->E.F.cell b (off+(i*t.size+j)) u
 | .kq,v=>v= .slice none 0 0
 | .o6,v=>v= .pointer none
 | .HH,v=>v= .nilFunc
 | .iH k bs,v=>∃ps:List Place,ps.length=bs.length/\(∀(i:Nat) b,bs[i]? =some b->∃p,ps[i]? =some p/\E.place b=some p/\p.nil=false)/\v= .func (.func k) #[] (ps.map fun p=>Value.pointer (some ⟨p.bp,0,none⟩)).toArray
 | .map _ _ n,v=>∃p,E.place n=some p/\p.nil=false/\v= .map (some p.bp)
 | .pR,v=>v= .map none
 | .xo d,v=>∃q,E.place d=some q/\q.nil=true/\v=goInt q.cap
theorem gV.mono {E E':Env} (h:E.le E') {c:C} {v:Value} (k:gV E c v):gV E' c v:=by
 cases c with
 |aG t x=>exact⟨k.1,k.2.mono h.F⟩
 |row t b=>obtain⟨p,hp,k⟩:=k;exact⟨p,h.place _ _ hp,k⟩
 |sub t b lo len=>obtain⟨p,hp,k⟩:=k;exact⟨p,h.place _ _ hp,k⟩
 |ptr b o=>obtain⟨p,hp,k⟩:=k;exact⟨p,h.place _ _ hp,k⟩
 |mD t b i o=>obtain⟨p,hp,k⟩:=k;exact⟨p,h.place _ _ hp,k⟩
 |ta t xs i o=>
  obtain⟨hi,b,off,hv,k⟩:=k
  refine⟨hi,b,off,hv,fun i x hx=> ?_⟩
  obtain⟨us,k1,k2,k3⟩:=k i x hx
  exact⟨us,k1.mono h.F,k2,fun j u hu=>(k3 j u hu).mono h.F⟩
 |kq=>exact k
 |o6=>exact k
 |HH=>exact k
 |iH k' bs=>
  obtain⟨ps,h1,h2,h3⟩:=k
  exact⟨ps,h1,fun i b hb=>let⟨p,g1,g2,g3⟩:=h2 i b hb;⟨p,g1,h.place _ _ g2,g3⟩,h3⟩
 |map a b n=>obtain⟨p,hp,k⟩:=k;exact⟨p,h.place _ _ hp,k⟩
 |pR=>exact k
 |xo d=>obtain⟨q,hq,k⟩:=k;exact⟨q,h.place _ _ hq,k⟩
theorem gV.oK {E:Env} {c:C} {v:Value} (k:gV E c v):v.oneCell'=true:=by
 cases c with
 |aG t x=>
  obtain⟨ha,k⟩:=k
  cases t with
  |int _=>obtain⟨k,_⟩:=k;simp at k;subst k;rfl
  |bool=>have k:_=_:=k;simp at k;subst k;rfl
  |str=>obtain⟨k,_⟩:=k;simp at k;subst k;rfl
  |list t=>obtain⟨_,_,k,_⟩:=k;simp at k;subst k;rfl
  |unit=>simp[Ty.isAgg] at ha
  |pair a b=>simp[Ty.isAgg] at ha
  |ref t=>obtain⟨_,_,k,_⟩:=k;simp at k;subst k;rfl
  |ptr t=>
   rcases k with ⟨_,k⟩|⟨_,_,_,_,k,_⟩
   ·simp at k;subst k;rfl
   ·simp at k;subst k;rfl
  |lN k' t=>obtain⟨_,k,_⟩:=k;simp at k;subst k;rfl
  |map a b=>obtain⟨_,k,_⟩:=k;simp at k;subst k;rfl
 |row t b=>
  obtain⟨p,_,⟨_,k,_⟩|⟨_,k,_⟩⟩:=k
  ·rw[k];rfl
  ·rw[k];rfl
 |sub t b lo len=>
  obtain⟨p,_,_,⟨_,k,_⟩|⟨_,a,k,_⟩⟩:=k
  ·rw[k];rfl
  ·rw[k];rfl
 |ptr b o=>obtain⟨p,_,_,k⟩:=k;rw[k];rfl
 |mD t b i o=>obtain⟨p,_,_,_,k⟩:=k;rw[k];rfl
 |ta t xs i o=>obtain⟨_,b,off,k,_⟩:=k;rw[k];rfl
 |kq=>rw[show v=_ from k];rfl
 |o6=>rw[show v=_ from k];rfl
 |HH=>rw[show v=_ from k];rfl
 |iH _ _=>obtain⟨_,_,_,k⟩:=k;rw[k];rfl
 |map a b n=>obtain⟨p,_,_,k⟩:=k;rw[k];rfl
 |pR=>rw[show v=_ from k];rfl
 |xo d=>obtain⟨q,_,_,k⟩:=k;rw[k];rfl
theorem Value.Cb {v:Value} (h:v.oneCell'=true):v.cells= #[v]:=by
 cases v<;>simp[Value.oneCell',Value.cells] at *
def b7 (E:Env):List C->List Value->Prop
 |[],vs=>vs=[]
 |c::cs,vs=>∃v us,vs=v::us/\gV E c v/\b7 E cs us
theorem b7.mono {E E':Env} (h:E.le E'):∀{cs:List C} {vs:List Value},b7 E cs vs->b7 E' cs vs
 |[],_,k=>k
 |_::_,_,⟨v,us,hv,k1,k2⟩=>⟨v,us,hv,k1.mono h,b7.mono h k2⟩
theorem b7.length {E:Env}:∀{cs:List C} {vs:List Value},b7 E cs vs->vs.length=cs.length
 |[],_,k=>by rw[show _=_ from k];rfl
 |_::_,_,⟨v,us,hv,_,k2⟩=>by rw[hv];simp[b7.length k2]
theorem b7.oK {E:Env}:∀{cs:List C} {vs:List Value},b7 E cs vs->∀v∈vs,v.oneCell'=true
 |[],_,k=>by rw[show _=_ from k];simp
 |_::_,_,⟨v,us,hv,k1,k2⟩=>by
  subst hv
  intro u hu
  rcases List.mem_cons.1 hu with rfl|hu
  ·exact k1.oK
  ·exact b7.oK k2 u hu
theorem b7.append {E:Env}:∀{cs ds:List C} {vs us:List Value},b7 E cs vs->b7 E ds us->b7 E (cs++ds) (vs++us)
 |[],_,_,_,k,l=>by rw[show _=_ from k];exact l
 |_::_,_,_,_,⟨v,ws,hv,k1,k2⟩,l=>⟨v,ws++_,by rw[hv];rfl,k1,b7.append k2 l⟩
theorem b7.get {E:Env}:∀{cs:List C} {vs:List Value},b7 E cs vs->∀(i:Nat) c,cs[i]? =some c->∃v,vs[i]? =some v/\gV E c v
 |[],_,_,i,c,h=>by simp at h
 |_::_,_,⟨v,us,hv,k1,k2⟩,0,c,h=>by subst hv;simp at h;subst h;exact⟨v,rfl,k1⟩
 |_::_,_,⟨v,us,hv,k1,k2⟩,i+1,c,h=>by subst hv;simpa using b7.get k2 i c (by simpa using h)
theorem b7.take {E:Env}:∀{cs:List C} {vs:List Value},b7 E cs vs->∀(n:Nat),b7 E (cs.take n) (vs.take n)
 |[],_,k,n=>by rw[show _=_ from k];simp[b7]
 |_::_,_,_,0=>rfl
 |_::_,_,⟨v,us,hv,k1,k2⟩,n+1=>by subst hv;exact⟨v,us.take n,rfl,k1,b7.take k2 n⟩
theorem b7.drop {E:Env}:∀{cs:List C} {vs:List Value},b7 E cs vs->∀(n:Nat),b7 E (cs.drop n) (vs.drop n)
 |[],_,k,n=>by rw[show _=_ from k];simp[b7]
 |_::_,_,k,0=>k
 |_::_,_,⟨v,us,hv,_,k2⟩,n+1=>by subst hv;exact b7.drop k2 n
theorem gN {E:Env}:∀{t:Ty} {x:t.den} {vs:List Value},dj E.F t x vs->b7 E (flat t x) vs
 | .int _,_,_,h=>⟨_,[],h.1,⟨rfl,rfl,h.2⟩,rfl⟩
 | .bool,_,_,h=>⟨_,[],h,⟨rfl,rfl⟩,rfl⟩
 | .str,_,_,h=>⟨_,[],h.1,⟨rfl,rfl,h.2⟩,rfl⟩
 | .list _,_,_,h=>by
  have h':=h
  obtain⟨a,cap,h0,h1⟩:=h
  exact⟨_,[],h0,⟨rfl,a,cap,rfl,h1⟩,rfl⟩
 | .unit,_,_,h=>h
 | .pair _ _,_,_,h=>by
  obtain⟨us,ws,rfl,h1,h2⟩:=h
  exact b7.append (gN h1) (gN h2)
 | .ref t,x,_,h=>by
  obtain⟨b,off,rfl,us,k1,k2,k3⟩:=h
  refine⟨_,[],rfl,⟨by simp,b,off,by simp,fun i y hy=> ?_⟩,rfl⟩
  cases i with
  |zero=>
   have hy:x=y:=by simpa using hy
   subst hy
   exact⟨us,k1,k2,fun j u hu=>by simpa using k3 j u hu⟩
  |succ i=>simp at hy
 | .ptr t,x,vs,h=>by
  have h':=h
  rcases h with ⟨_,h⟩|⟨_,_,_,_,h,_⟩
  ·subst h;exact⟨_,[],rfl,⟨rfl,h'⟩,rfl⟩
  ·subst h;exact⟨_,[],rfl,⟨rfl,h'⟩,rfl⟩
 | .lN k t,x,vs,h=>by
  have h':=h
  obtain⟨_,h,_⟩:=h
  subst h
  exact⟨_,[],rfl,⟨rfl,h'⟩,rfl⟩
 | .map a b,x,vs,h=>by
  have h':=h
  obtain⟨_,h,_⟩:=h
  subst h
  exact⟨_,[],rfl,⟨rfl,h'⟩,rfl⟩
def fz (E:Env):SV->Value->Prop
 | .one c,v=>gV E c v
 | .agg cs,v=>∃vs,v= .agg vs/\b7 E cs vs.toList
 | .yv l,v=>∃vs,v= .tuple vs/\go l vs.toList
where
 go:List (Bool×List C)->List Value->Prop
  |[],vs=>vs=[]
  |(g,cs)::l,vs=>∃v us,vs=v::us/\(match g with |true=>∃ws,v= .agg ws/\b7 E cs ws.toList|false=>∃c,cs=[c]/\gV E c v)/\go l us
theorem fz.PU {E E':Env} (h:E.le E'):∀{l:List (Bool×List C)} {vs:List Value},fz.go E l vs->fz.go E' l vs
 |[],_,k=>k
 |(g,cs)::l,_,k=>by
  obtain⟨v,us,hv,k1,k2⟩:=k
  refine⟨v,us,hv,?_,fz.PU h k2⟩
  cases g with
  |true=>obtain⟨ws,hw,k1⟩:=k1;exact⟨ws,hw,k1.mono h⟩
  |false=>obtain⟨c,hc,k1⟩:=k1;exact⟨c,hc,k1.mono h⟩
theorem fz.mono {E E':Env} (h:E.le E') {s:SV} {v:Value} (k:fz E s v):fz E' s v:=by
 cases s with
 |one c=>exact gV.mono h k
 |agg cs=>obtain⟨vs,hv,k⟩:=k;exact⟨vs,hv,k.mono h⟩
 |yv l=>obtain⟨vs,hv,k⟩:=k;exact⟨vs,hv,fz.PU h k⟩
def n6 (E:Env) (w:World) (p:Place) (je:Bool) (e:Nat) (t:Ty) (xs:List t.den):Prop:=
 p.cap<=aM/\(xs.length=p.len/\p.len<=p.cap)/\∃vs,w.heap[p.bp]? =some (.cells vs e (0,0))/\vs.size=p.cap*t.size/\(je=true->E.F p.bp=some (.cells vs e (0,0)))/\
  ∀(i:Nat) (x:t.den),xs[i]? =some x->∃us:List Value,dj E.F t x us/\us.length=t.size/\∀(j:Nat) u,us[j]? =some u->vs[i*t.size+j]? =some u
structure hY (F:Mem) (a b:Ty) (m:List (a.den×b.den)) (es:Array MapEntry) (cl:Nat):Prop where
 stamps:AN es cl
 keys:(m.map Prod.fst).Nodup
 size:es.size=m.length
 at_:∀(i:Nat) (x:a.den×b.den),m[i]? =some x->∃e us ws,es[i]? =some e/\dj F a x.1 us/\e.key=a.valOf us/\dj F b x.2 ws/\e.val=b.valOf ws
theorem hY.mono {F F':Mem} (hF:F.le F') {a b:Ty} {m:List (a.den×b.den)} {es:Array MapEntry} {cl:Nat} (h:hY F a b m es cl):hY F' a b m es cl:=by
 refine⟨h.stamps,h.keys,h.size,fun i x hx=> ?_⟩
 obtain⟨e,us,ws,q1,q2,q3,q4,q5⟩:=h.at_ i x hx
 exact⟨e,us,ws,q1,q2.mono hF,q3,q4.mono hF,q5⟩
def tG {α β:Type} (E:Env) (m0 m:List (α×β)) (es:Array MapEntry) (cur:Option (Nat×Nat)):Prop:=∀d i,cur=some (d,i)->∃(q:Place) (e:MapEntry) (j:Nat),E.place d=some q/\q.nil=true/\es[j]? =some e/\e.born=q.cap/\(m0[j]?).map Prod.fst=(m[i]?).map Prod.fst
theorem tG.mono {α β:Type} {E E':Env} (h:E.le E') {m0 m:List (α×β)} {es:Array MapEntry} {cur:Option (Nat×Nat)} (k:tG E m0 m es cur):tG E' m0 m es cur:=fun d i hc=>by
 obtain⟨q,e,j,h1,h2⟩:=k d i hc
 exact⟨q,e,j,h.place _ _ h1,h2⟩
theorem tG.none {α β:Type} {E:Env} {m0 m:List (α×β)} {es:Array MapEntry}:tG E m0 m es Option.none:=by
 intro d i h
 cases h
def qc (E:Env) (a b:Ty) (m:List (a.den×b.den)) (es:Array MapEntry) (cl:Nat) (cur:Option (Nat×Nat)):Prop:=∃m0,m0.Perm m/\hY E.F a b m0 es cl/\tG E m0 m es cur
theorem qc.mono {E E':Env} (h:E.le E') {a b:Ty} {m:List (a.den×b.den)} {es:Array MapEntry} {cl:Nat} {cur:Option (Nat×Nat)} (k:qc E a b m es cl cur):qc E' a b m es cl cur:=
 let⟨m0,k1,k2,k3⟩:=k;⟨m0,k1,k2.mono h.F,k3.mono h⟩
theorem qc.none {E:Env} {a b:Ty} {m:List (a.den×b.den)} {es:Array MapEntry} {cl:Nat} {cur:Option (Nat×Nat)} (k:qc E a b m es cl cur):qc E a b m es cl Option.none:=
 let⟨m0,k1,k2,_⟩:=k;⟨m0,k1,k2,tG.none⟩
theorem qc.akF {E E':Env} (h:E.F.le E'.F) {a b:Ty} {m:List (a.den×b.den)} {es:Array MapEntry} {cl:Nat} {cur:Option (Nat×Nat)} (k:qc E a b m es cl cur):qc E' a b m es cl Option.none:=
 let⟨m0,k1,k2,_⟩:=k;⟨m0,k1,k2.mono h,tG.none⟩
theorem qc.perm {E:Env} {a b:Ty} {m m':List (a.den×b.den)} {es:Array MapEntry} {cl:Nat} (k:qc E a b m es cl Option.none) (h:m.Perm m'):qc E a b m' es cl Option.none:=
 let⟨m0,k1,k2,_⟩:=k;⟨m0,k1.trans h,k2,tG.none⟩
def ye (F:Mem) (a b:Ty) (x:a.den×b.den) (e:MapEntry):Prop:=(∃us,dj F a x.1 us/\e.key=a.valOf us)/\∃ws,dj F b x.2 ws/\e.val=b.valOf ws
theorem ye.mono {F F':Mem} (hF:F.le F') {a b:Ty} {x:a.den×b.den} {e:MapEntry} (h:ye F a b x e):ye F' a b x e:=
 let⟨⟨us,h1,h2⟩,ws,h3,h4⟩:=h;⟨⟨us,h1.mono hF,h2⟩,ws,h3.mono hF,h4⟩
inductive jl (F:Mem) (a b:Ty):List (a.den×b.den)->List MapEntry->Prop
 |nil:jl F a b [] []
 |cons {x:a.den×b.den} {e:MapEntry} {m:List (a.den×b.den)} {l:List MapEntry} (h:ye F a b x e) (k:jl F a b m l):jl F a b (x::m) (e::l)
theorem jl.mono {F F':Mem} (hF:F.le F') {a b:Ty} {m:List (a.den×b.den)} {l:List MapEntry} (h:jl F a b m l):jl F' a b m l:=by
 induction h with
 |nil=>exact .nil
 |cons h k ih=>exact .cons (h.mono hF) ih
def DZ (F:Mem) (a b:Ty) (todo:List (a.den×b.den)) (cur:Option (a.den×b.den)) (mo:Option Nat) (since:Nat) (seen:Array Nat) (last:Nat):Prop:=
 (mo=none/\todo=[]/\cur=none)\/∃mb es cl Gr,mo=some mb/\F mb=some (.map es cl)/\AN es cl/\since=cl/\last=cl/\Gr.Perm (leftOf es seen).toList/\jl F a b todo Gr/\
  ∀x,cur=some x->∃e∈es.toList,seen.back?=some e.born/\ye F a b x e
theorem DZ.mono {F F':Mem} (hF:F.le F') {a b:Ty} {todo:List (a.den×b.den)} {cur:Option (a.den×b.den)} {mo:Option Nat} {since:Nat} {seen:Array Nat} {last:Nat} (h:DZ F a b todo cur mo since seen last):DZ F' a b todo cur mo since seen last:=by
 rcases h with h|⟨mb,es,cl,Gr,h1,h2,h3,h4,h5,h6,h7,h8⟩
 ·exact .inl h
 ·refine .inr ⟨mb,es,cl,Gr,h1,hF _ _ h2,h3,h4,h5,h6,h7.mono hF,fun x hx=> ?_⟩
  obtain⟨e,k1,k2,k3⟩:=h8 x hx
  exact⟨e,k1,k2,k3.mono hF⟩
def gg (E:Env) (w:World) (p:Place):c7->Prop
 | .cells cs=>p.nil=false/\∃vs e,w.heap[p.bp]? =some (.cells vs e (0,0))/\b7 E cs vs.toList
 | .row je e t xs=>(p.nil=true/\xs=[]/\p.len=0)\/(p.nil=false/\n6 E w p je e t xs)
 | .iA t x=>p.nil=false/\∃vs e,w.heap[p.bp]? =some (.cells vs e (0,0))/\E.F p.bp=some (.cells vs e (0,0))/\dj E.F t x vs.toList
 | .map je a b m cur=>p.nil=false/\∃es cl,w.heap[p.bp]? =some (.map es cl)/\(je=true->E.F p.bp=some (.map es cl))/\qc E a b m es cl cur
 | .iter a b todo cur=>p.nil=false/\∃mo since seen last,w.heap[p.bp]? =some (.mapIter mo since seen last)/\DZ E.F a b todo cur mo since seen last
theorem n6.mono {E E':Env} (h:E.le E') {w:World} {p:Place} {je:Bool} {e:Nat} {t:Ty} {xs:List t.den} (k:n6 E w p je e t xs):n6 E' w p je e t xs:=by
 obtain⟨h0,h1,vs,h2,h3,h4,h5⟩:=k
 refine⟨h0,h1,vs,h2,h3,fun hf=>h.F _ _ (h4 hf),fun i x hx=> ?_⟩
 obtain⟨us,k1,k2⟩:=h5 i x hx
 exact⟨us,k1.mono h.F,k2⟩
theorem gg.mono {E E':Env} (h:E.le E') {w:World} {p:Place} {B:c7} (k:gg E w p B):gg E' w p B:=by
 cases B with
 |cells cs=>obtain⟨h0,vs,e,h1,h2⟩:=k;exact⟨h0,vs,e,h1,h2.mono h⟩
 |row je e t xs=>exact k.imp id fun k=>⟨k.1,k.2.mono h⟩
 |iA t x=>obtain⟨h0,vs,e,h1,h2,h3⟩:=k;exact⟨h0,vs,e,h1,h.F _ _ h2,h3.mono h.F⟩
 |map je a b m cur=>obtain⟨h0,es,cl,h1,h2,h3⟩:=k;exact⟨h0,es,cl,h1,fun hf=>h.F _ _ (h2 hf),h3.mono h⟩
 |iter a b todo cur=>obtain⟨h0,mo,si,se,la,h1,h2⟩:=k;exact⟨h0,mo,si,se,la,h1,h2.mono h.F⟩
theorem gg.world {E:Env} {w w':World} {p:Place} {B:c7} (k:gg E w p B) (h:p.nil=false->w'.heap[p.bp]? =w.heap[p.bp]?):gg E w' p B:=by
 cases B with
 |cells cs=>obtain⟨h0,vs,e,h1,h2⟩:=k;exact⟨h0,vs,e,by rw[h h0];exact h1,h2⟩
 |row je e t xs=>
  rcases k with k|⟨hn,h0,h1,vs,h2,h3⟩
  ·exact .inl k
  ·exact .inr ⟨hn,h0,h1,vs,by rw[h hn];exact h2,h3⟩
 |iA t x=>obtain⟨h0,vs,e,h1,h2⟩:=k;exact⟨h0,vs,e,by rw[h h0];exact h1,h2⟩
 |map je a b m cur=>obtain⟨h0,es,cl,h1,h2⟩:=k;exact⟨h0,es,cl,by rw[h h0];exact h1,h2⟩
 |iter a b todo cur=>obtain⟨h0,mo,si,se,la,h1,h2⟩:=k;exact⟨h0,mo,si,se,la,by rw[h h0];exact h1,h2⟩
def find {α:Type}:List (Nat×α)->Nat->Option α
 |[],_=>none
 |(m,a)::l,n=>match Nat.beq m n with
  |true=>some a
  |false=>find l n
def rem {α:Type}:List (Nat×α)->Nat->List (Nat×α)
 |[],_=>[]
 |(m,a)::l,n=>match Nat.beq m n with
  |true=>rem l n
  |false=>(m,a)::rem l n
def put {α:Type} (l:List (Nat×α)) (n:Nat) (a:α):List (Nat×α):=(n,a)::rem l n
def has:List Nat->Nat->Bool
 |[],_=>false
 |m::l,n=>match Nat.beq m n with
  |true=>true
  |false=>has l n
theorem sJ:∀{l:List Nat} {n:Nat},has l n=true↔n∈l
 |[],n=>by simp[has]
 |m::l,n=>by
  unfold has
  split
  ·rename_i h;simp[Nat.eq_of_beq_eq_true h]
  ·rename_i h
   have:m≠n:=fun e=>by subst e;simp at h
   rw[sJ (l:=l)]
   simp[this.symm]
theorem m8 {α:Type}:∀(l:List (Nat×α)) (n:Nat),find (rem l n) n=none
 |[],_=>rfl
 |(m,a)::l,n=>by
  unfold rem
  split
  ·exact m8 l n
  ·rename_i h;unfold find;rw[h];exact m8 l n
theorem hU {α:Type}:∀(l:List (Nat×α)) (n k:Nat),n≠k->find (rem l n) k=find l k
 |[],_,_,_=>rfl
 |(m,a)::l,n,k,h=>by
  unfold rem
  split
  ·rename_i hb
   have e:=Nat.eq_of_beq_eq_true hb
   subst e
   rw[hU l m k h,find]
   split
   ·rename_i hk;exact absurd (Nat.eq_of_beq_eq_true hk) h
   ·rfl
  ·simp only[find];rw[hU l n k h]
theorem gp {α:Type} {l:List (Nat×α)} {n k:Nat} {a:α} (h:find (rem l n) k=some a):find l k=some a/\n≠k:=by
 by_cases e:n=k
 ·subst e;rw[m8] at h;cases h
 ·rw[hU _ _ _ e] at h;exact⟨h,e⟩
theorem bP {α:Type} (l:List (Nat×α)) (n:Nat) (a:α):find (put l n a) n=some a:=by
 simp[put,find]
theorem bn {α:Type} (l:List (Nat×α)) (n k:Nat) (a:α) (h:n≠k):find (put l n a) k=find l k:=by
 simp only[put,find]
 split
 ·rename_i hk;exact absurd (Nat.eq_of_beq_eq_true hk) h
 ·exact hU l n k h
abbrev c9:=List (Nat×Bool)
structure St where
 sl:List (Nat×(c9×SV))
 bl:List (Nat×c7)
 used:List Nat
 n:Nat
 oJ:List Nat:=[]
def CR:List Nat->List Nat->Bool
 |[],[]=>true
 |m::l,n::k=>Nat.beq m n&&CR l k
 |_,_=>false
theorem BO:∀{l k:List Nat},CR l k=true->l=k
 |[],[],_=>rfl
 |m::l,n::k,h=>by
  simp only[CR,Bool.and_eq_true] at h
  rw[Nat.eq_of_beq_eq_true h.1,BO h.2]
 |[],_::_,h=>by cases h
 |_::_,[],h=>by cases h
inductive Loc where
 |slot (n:Nat)
 |bp (n:Nat)
def Loc.beq:Loc->Loc->Bool
 | .slot a,.slot b=>Nat.beq a b
 | .bp a,.bp b=>Nat.beq a b
 |_,_=>false
theorem Loc.beq_eq {a b:Loc} (h:a.beq b=true):a=b:=by
 cases a<;>cases b<;>simp[Loc.beq] at h<;>simp_all
theorem Loc.beq_refl (a:Loc):a.beq a=true:=by cases a<;>simp[Loc.beq]
inductive RM (α:Type) where
 |ret (a:α)
 |fail
 |slot (ex:c9) (n:Nat) (k:SV->RM α)
 |bp (n:Nat) (k:c7->RM α)
def RM.bind {α β:Type}:RM α->(α->RM β)->RM β
 | .ret a,f=>f a
 | .fail,_=> .fail
 | .slot ex n k,f=> .slot ex n fun v=>(k v).bind f
 | .bp n k,f=> .bp n fun v=>(k v).bind f
instance:Monad RM where
 pure:=RM.ret
 bind:=RM.bind
def Ml:c9->Nat×Bool->Bool
 |[],_=>false
 |(m,b)::l,t=>match Nat.beq m t.1&&(b==t.2) with
  |true=>true
  |false=>Ml l t
def CA (l:c9):c9->Bool
 |[]=>true
 |t::ts=>match Ml l t with
  |true=>CA l ts
  |false=>false
def RM.run {α:Type} (S:St) (ctx:c9):RM α->Option α
 | .ret a=>some a
 | .fail=>none
 | .slot ex n k=>match find S.sl n with
  |some (tags,v)=>(match CA (ex++ctx) tags with
   |true=>(k v).run S ctx
   |false=>none)
  |none=>none
 | .bp n k=>match find S.bl n with
  |some B=>(k B).run S ctx
  |none=>none
def RM.reads {α:Type} (S:St) (ctx:c9):RM α->List Loc
 | .ret _=>[]
 | .fail=>[]
 | .slot _ n k=> .slot n::(match find S.sl n with
  |some (_,v)=>(k v).reads S ctx
  |none=>[])
 | .bp n k=> .bp n::(match find S.bl n with
  |some B=>(k B).reads S ctx
  |none=>[])
def gW (S S':St):Loc->Prop
 | .slot n=>find S'.sl n=find S.sl n
 | .bp n=>find S'.bl n=find S.bl n
theorem RM.BE {α:Type} {S S':St} {ctx:c9}:∀{m:RM α},(∀l∈m.reads S ctx,gW S S' l)->m.run S' ctx=m.run S ctx
 | .ret _,_=>rfl
 | .fail,_=>rfl
 | .slot ex n k,h=>by
  have h0:find S'.sl n=find S.sl n:=h (.slot n) (by simp[RM.reads])
  simp only[RM.run,h0]
  cases hf:find S.sl n with
  |none=>rfl
  |some x=>
   obtain⟨tags,v⟩:=x
   simp only
   split
   ·refine RM.BE fun l hl=>h l ?_
    simp only[RM.reads,hf]
    exact List.mem_cons_of_mem _ hl
   ·rfl
 | .bp n k,h=>by
  have h0:find S'.bl n=find S.bl n:=h (.bp n) (by simp[RM.reads])
  simp only[RM.run,h0]
  cases hf:find S.bl n with
  |none=>rfl
  |some B=>
   refine RM.BE fun l hl=>h l ?_
   simp only[RM.reads,hf]
   exact List.mem_cons_of_mem _ hl
theorem RM.run_bind {α β:Type} {S:St} {ctx:c9}:∀{m:RM α} {f:α->RM β} {b:β},(m.bind f).run S ctx=some b->∃a,m.run S ctx=some a/\(f a).run S ctx=some b
 | .ret a,f,b,h=>⟨a,rfl,h⟩
 | .fail,f,b,h=>by cases h
 | .slot ex n k,f,b,h=>by
  simp only[RM.bind,RM.run] at h ⊢
  split at h
  ·split at h
   ·obtain⟨a,h1,h2⟩:=RM.run_bind h
    exact⟨a,h1,h2⟩
   ·cases h
  ·cases h
 | .bp n k,f,b,h=>by
  simp only[RM.bind,RM.run] at h ⊢
  split at h
  ·exact RM.run_bind h
  ·cases h
theorem RM.run_bind' {α β:Type} {S:St} {ctx:c9} {m:RM α} {f:α->RM β} {b:β} (h:(m>>=f).run S ctx=some b):∃a,m.run S ctx=some a/\(f a).run S ctx=some b:=RM.run_bind h
theorem RM.run_pure' {α:Type} {S:St} {ctx:c9} {a b:α} (h:(pure a:RM α).run S ctx=some b):a=b:=Option.some.inj h
theorem Hb:∀{l:c9} {t:Nat×Bool},Ml l t=true->t∈l
 |[],_,h=>by cases h
 |(m,b)::l,t,h=>by
  unfold Ml at h
  split at h
  ·rename_i hb
   simp only[Bool.and_eq_true,beq_iff_eq] at hb
   have:=Nat.eq_of_beq_eq_true hb.1
   obtain⟨t1,t2⟩:=t
   simp only at this hb
   rw[<-this,<-hb.2]
   exact List.mem_cons_self
  ·exact List.mem_cons_of_mem _ (Hb h)
theorem Fg {l:c9}:∀{ts:c9},CA l ts=true->∀t∈ts,t∈l
 |[],_,t,ht=>by cases ht
 |t'::ts,h,t,ht=>by
  unfold CA at h
  split at h
  ·rename_i hb
   rcases List.mem_cons.1 ht with rfl|ht
   ·exact Hb hb
   ·exact Fg h t ht
  ·cases h
def br (a:Act) (ts:c9):Prop:=∀t∈ts,a.tmps[t.1]? =some (.bool t.2)
structure gM where
 at_:Nat->Prop
 oJ:Nat->Option Place:=fun _=>none
instance:CoeFun gM (fun _=>Nat->Prop):=⟨gM.at_⟩
def GG:gM:=⟨fun _=>False,fun _=>none⟩
structure sQ (foot:Nat->Prop) (w w':World):Prop where
 os:w'.os=w.os
 tape:w'.tape=w.tape
 output:w'.output=w.output
 size:w.heap.size<=w'.heap.size
 block:∀k,k<w.heap.size->¬foot k->w'.heap[k]? =w.heap[k]?
theorem sQ.refl (foot:Nat->Prop) (w:World):sQ foot w w:=⟨rfl,rfl,rfl,Nat.le_refl _,fun _ _ _=>rfl⟩
theorem sQ.trans {foot:Nat->Prop} {a b c:World} (h:sQ foot a b) (k:sQ foot b c):sQ foot a c:=
 ⟨k.os.trans h.os,k.tape.trans h.tape,k.output.trans h.output,Nat.le_trans h.size k.size,fun i hi hf=>(k.block i (Nat.lt_of_lt_of_le hi h.size) hf).trans (h.block i hi hf)⟩
def c7.mut:c7->Bool
 | .cells _=>true
 | .row je _ _ _=> !je
 | .iA _ _=>false
 | .map je _ _ _ _=> !je
 | .iter _ _ _ _=>true
structure HRel (w0:World) (foot:gM) (base:Mem) (bl:List (Nat×c7)) (used:List Nat) (E:Env) (w:World):Prop where
 keep:sQ foot.at_ w0 w
 m7:∀b o,E.F b=some o->w.heap[b]? =some o
 src:∀b o,E.F b=some o->base b=some o\/w0.heap.size<=b\/foot b
 cn:∀id B,find bl id=some B->∃p,E.place id=some p/\gg E w p B
 own:∀id B p,find bl id=some B->E.place id=some p->p.nil=false->(w0.heap.size<=p.bp\/foot p.bp)/\(B.mut=true->E.F p.bp=none)
 inj:∀id Na B B' p p',find bl id=some B->find bl Na=some B'->E.place id=some p->E.place Na=some p'->p.nil=false->p'.nil=false->id≠Na->p.bp≠p'.bp
 used:∀id p,E.place id=some p->id∈used
structure SRel (w0:World) (foot:gM) (base:Mem) (S:St) (E:Env) (a:Act) (w:World):Prop extends HRel w0 foot base S.bl S.used E w where
 ib:∀n ts v,find S.sl n=some (ts,v)->br a ts->fz E v (a.tmps.getD n undef)
 size:a.tmps.size=S.n
 defers:a.defers=[]
 pins:∀n p,foot.oJ n=some p->n∈S.oJ/\E.place n=some p
theorem HRel.congr {w0:World} {foot:gM} {base:Mem} {bl NX:List (Nat×c7)} {used Wu:List Nat} {E:Env} {w:World}
  (h:HRel w0 foot base bl used E w) (hb:∀id B,find NX id=some B->find bl id=some B) (hu:∀i,i∈used->i∈Wu):HRel w0 foot base NX Wu E w:=
 ⟨h.keep,h.m7,h.src,fun id B hf=>h.cn id B (hb _ _ hf),fun id B p hf=>h.own id B p (hb _ _ hf),fun id Na B B' p p' hf eh=>h.inj id Na B B' p p' (hb _ _ hf) (hb _ _ eh),fun id p hp=>hu _ (h.used id p hp)⟩
theorem HRel.drew {w0:World} {foot:gM} {base:Mem} {bl:List (Nat×c7)} {used:List Nat} {E:Env} {w:World} (h:HRel w0 foot base bl used E w) (n:Nat):
  HRel w0 foot base bl used E {w with drawn:=n}:=
 ⟨⟨h.keep.os,h.keep.tape,h.keep.output,h.keep.size,h.keep.block⟩,h.m7,h.src,fun id B hf=>by
  obtain⟨p,hp,hB⟩:=h.cn id B hf
  exact⟨p,hp,hB.world fun _=>rfl⟩,h.own,h.inj,h.used⟩
theorem dR {w:World} {b:Nat} {o:Obj} (h:w.heap[b]? =some o):b<w.heap.size:=by
 rcases Nat.lt_or_ge b w.heap.size with h'|h'
 ·exact h'
 ·rw[Array.getElem?_eq_none h'] at h;cases h
theorem gg.lt {E:Env} {w:World} {p:Place} {B:c7} (k:gg E w p B) (hn:p.nil=false):p.bp<w.heap.size:=by
 cases B with
 |cells cs=>obtain⟨_,vs,e,h,_⟩:=k;exact dR h
 |iA t x=>obtain⟨_,vs,e,h,_⟩:=k;exact dR h
 |map je a b m cur=>obtain⟨_,es,cl,h,_⟩:=k;exact dR h
 |iter a b todo cur=>obtain⟨_,_,_,_,_,h,_⟩:=k;exact dR h
 |row je e t xs=>
  rcases k with ⟨k,_,_⟩|⟨_,_,_,vs,h,_⟩
  ·rw[hn] at k;cases k
  ·exact dR h
def Env.new (E:Env) (id:Nat) (p:Place):Env:={E with place:=fun b=>if b=id then some p else E.place b}
theorem Env.nH {E:Env} {id:Nat} {p:Place} (h:E.place id=none):E.le (E.new id p):=
 ⟨.refl _,fun b q hb=>by
  unfold Env.new
  simp only
  split
  ·rename_i e;subst e;rw[h] at hb;cases hb
  ·exact hb⟩
theorem Env.fb {E:Env} {id:Nat} {p:Place}:(E.new id p).place id=some p:=by simp[Env.new]
theorem Env.gm {E:Env} {id b:Nat} {p:Place} (h:b≠id):(E.new id p).place b=E.place b:=by simp[Env.new,h]
theorem rh {w:World} {o:Obj} {k:Nat} (h:k<w.heap.size):(w.alloc o).heap[k]? =w.heap[k]? :=Go.RowKit.Below.heap_alloc _ _ _ h
theorem qu {w:World} {o:Obj}:(w.alloc o).heap[w.heap.size]? =some o:=by show(w.heap.push o)[w.heap.size]? =_;simp
theorem HRel.alloc {w0:World} {foot:gM} {base:Mem} {bl:List (Nat×c7)} {used:List Nat} {E:Env} {w:World} (h:HRel w0 foot base bl used E w)
  {id:Nat} {p:Place} {B:c7} {o:Obj} (uU:id∉used) (hp:p.nil=false->p.bp=w.heap.size)
  (hB:gg (E.new id p) (w.alloc o) p B):HRel w0 foot base (put bl id B) (id::used) (E.new id p) (w.alloc o):=by
 have jY:E.place id=none:=by
  cases he:E.place id with
  |none=>rfl
  |some q=>exact absurd (h.used id q he) uU
 have hle:=Env.nH (p:=p) jY
 have hF:E.F w.heap.size=none:=by
  cases he:E.F w.heap.size with
  |none=>rfl
  |some o=>have:=dR (h.m7 _ _ he);omega
 have pI:∀i B',i≠id->find (put bl id B) i=some B'->find bl i=some B':=fun i B' hi hf=>by rwa [bn _ _ _ _ (Ne.symm hi)] at hf
 refine⟨h.keep.trans ⟨rfl,rfl,rfl,by simp,fun k hk _=>rh hk⟩,fun b o hb=> ?_,h.src,fun i B' hf=> ?_,fun i B' q hf hq hn=> ?_,fun i j B' nS q q' hf eh hq nr hn dB k6=> ?_,fun i q hq=> ?_⟩
 ·have:=h.m7 b o hb
  rw[rh (dR this)]
  exact this
 ·by_cases hi:i=id
  ·subst hi
   rw[bP] at hf
   cases hf
   exact⟨p,Env.fb,hB⟩
  ·obtain⟨q,hq,k⟩:=h.cn i B' (pI i B' hi hf)
   exact⟨q,hle.place _ _ hq,(k.mono hle).world fun hn=>rh (k.lt hn)⟩
 ·by_cases hi:i=id
  ·subst hi
   rw[Env.fb] at hq
   cases hq
   rw[hp hn]
   exact⟨.inl h.keep.size,fun _=>hF⟩
  ·rw[Env.gm hi] at hq
   exact h.own i B' q (pI i B' hi hf) hq hn
 ·have lk:∀i B' q,i≠id->find (put bl id B) i=some B'->(E.new id p).place i=some q->q.nil=false->q.bp<w.heap.size:=fun i B' q hi hf hq hn=>by
   rw[Env.gm hi] at hq
   obtain⟨q',nr,k⟩:=h.cn i B' (pI i B' hi hf)
   rw[hq] at nr
   cases nr
   exact k.lt hn
  by_cases hi:i=id
  ·have hj:j≠id:=fun e=>k6 (hi.trans e.symm)
   have:=lk j nS q' hj eh nr dB
   subst hi
   rw[Env.fb] at hq
   cases hq
   have:=hp hn
   omega
  ·by_cases hj:j=id
   ·have:=lk i B' q hi hf hq hn
    subst hj
    rw[Env.fb] at nr
    cases nr
    have:=hp dB
    omega
   ·rw[Env.gm hi] at hq
    rw[Env.gm hj] at nr
    exact h.inj i j B' nS q q' (pI i B' hi hf) (pI j nS hj eh) hq nr hn dB k6
 ·by_cases hi:i=id
  ·exact hi▸List.mem_cons_self
  ·rw[Env.gm hi] at hq
   exact List.mem_cons_of_mem _ (h.used i q hq)
theorem HRel.MI {w0:World} {foot:gM} {base:Mem} {bl:List (Nat×c7)} {used:List Nat} {E:Env} {w:World} (h:HRel w0 foot base bl used E w)
  {id:Nat} {p:Place} {B:c7} (uU:id∉used) (hp:p.nil=true) (hB:gg (E.new id p) w p B):HRel w0 foot base (put bl id B) (id::used) (E.new id p) w:=by
 have jY:E.place id=none:=by
  cases he:E.place id with
  |none=>rfl
  |some q=>exact absurd (h.used id q he) uU
 have hle:=Env.nH (p:=p) jY
 have pI:∀i B',i≠id->find (put bl id B) i=some B'->find bl i=some B':=fun i B' hi hf=>by rwa [bn _ _ _ _ (Ne.symm hi)] at hf
 have ne:∀i q,(E.new id p).place i=some q->q.nil=false->i≠id:=fun i q hq hn e=>by
  subst e;rw[Env.fb] at hq;cases hq;rw[hp] at hn;cases hn
 refine⟨h.keep,h.m7,h.src,fun i B' hf=> ?_,fun i B' q hf hq hn=> ?_,fun i j B' nS q q' hf eh hq nr hn dB k6=> ?_,fun i q hq=> ?_⟩
 ·by_cases hi:i=id
  ·subst hi
   rw[bP] at hf
   cases hf
   exact⟨p,Env.fb,hB⟩
  ·obtain⟨q,hq,k⟩:=h.cn i B' (pI i B' hi hf)
   exact⟨q,hle.place _ _ hq,k.mono hle⟩
 ·have hi:=ne i q hq hn
  rw[Env.gm hi] at hq
  exact h.own i B' q (pI i B' hi hf) hq hn
 ·have hi:=ne i q hq hn
  have hj:=ne j q' nr dB
  rw[Env.gm hi] at hq
  rw[Env.gm hj] at nr
  exact h.inj i j B' nS q q' (pI i B' hi hf) (pI j nS hj eh) hq nr hn dB k6
 ·by_cases hi:i=id
  ·exact hi▸List.mem_cons_self
  ·rw[Env.gm hi] at hq
   exact List.mem_cons_of_mem _ (h.used i q hq)
def eu (w:World) (b:Nat) (o:Obj):World:={w with heap:=w.heap.setIfInBounds b o}
theorem iK {w:World} {b:Nat} {o:Obj} (h:b<w.heap.size):(eu w b o).heap[b]? =some o:=by simp[eu,h]
theorem n8 {w:World} {b k:Nat} {o:Obj} (h:k≠b):(eu w b o).heap[k]? =w.heap[k]? :=by
 simp[eu,Array.getElem?_setIfInBounds_ne (Ne.symm h)]
theorem HRel.write {w0:World} {foot:gM} {base:Mem} {bl:List (Nat×c7)} {used:List Nat} {E:Env} {w:World} (h:HRel w0 foot base bl used E w)
  {id:Nat} {p:Place} {B B':c7} {o:Obj} (hf:find bl id=some B) (hp:E.place id=some p) (hn:p.nil=false) (hm:B.mut=true)
  (hB:gg E (eu w p.bp o) p B'):HRel w0 foot base (put bl id B') used E (eu w p.bp o):=by
 have dQ:p.bp<w.heap.size:=by
  obtain⟨q,hq,k⟩:=h.cn id B hf
  rw[hp] at hq;cases hq
  exact k.lt hn
 have rC:=h.own id B p hf hp hn
 have pI:∀i nS,i≠id->find (put bl id B') i=some nS->find bl i=some nS:=fun i B' hi hf=>by rwa [bn _ _ _ _ (Ne.symm hi)] at hf
 have any:∀i nS,find (put bl id B') i=some nS->∃D3,find bl i=some D3:=fun i nS eh=>by
  by_cases hi:i=id
  ·exact hi▸⟨B,hf⟩
  ·exact⟨nS,pI i nS hi eh⟩
 refine⟨⟨h.keep.os,h.keep.tape,h.keep.output,Nat.le_trans h.keep.size (by simp[eu]),fun k hk PK=>(n8 fun e=> ?_).trans (h.keep.block k hk PK)⟩,fun b o' hb=> ?_,h.src,fun i nS eh=> ?_,fun i nS q eh hq dB=> ?_,fun i j D2 D1 q q' h1 h2 hq nr hn dB k6=> ?_,h.used⟩
 ·subst e
  rcases rC.1 with h1|h1
  ·omega
  ·exact PK h1
 ·have ju:=h.m7 b o' hb
  rw[n8]
  ·exact ju
  ·rintro rfl
   rw[rC.2 hm] at hb
   cases hb
 ·by_cases hi:i=id
  ·subst hi
   rw[bP] at eh
   cases eh
   exact⟨p,hp,hB⟩
  ·obtain⟨q,hq,k⟩:=h.cn i nS (pI i nS hi eh)
   refine⟨q,hq,k.world fun dB=>n8 ?_⟩
   exact h.inj i id nS B q p (pI i nS hi eh) hf hq hp dB hn hi
 ·by_cases hi:i=id
  ·subst hi
   rw[hp] at hq
   cases hq
   exact⟨rC.1,fun _=>rC.2 hm⟩
  ·exact h.own i nS q (pI i nS hi eh) hq dB
 ·obtain⟨afI,nY⟩:=any i D2 h1
  obtain⟨afH,zF⟩:=any j D1 h2
  exact h.inj i j afI afH q q' nY zF hq nr hn dB k6
theorem HRel.freeze {w0:World} {foot:gM} {base:Mem} {bl:List (Nat×c7)} {used:List Nat} {E:Env} {w:World} (h:HRel w0 foot base bl used E w)
  {id:Nat} {je:Bool} {e:Nat} {t:Ty} {xs:List t.den} (hf:find bl id=some (.row je e t xs)):
  ∃E',E.le E'/\E'.place=E.place/\(∀b o,E'.F b=some o->E.F b=some o\/(w.heap[b]? =some o/\(∃p,E.place id=some p/\p.nil=false/\p.bp=b)))/\HRel w0 foot base (put bl id (.row true e t xs)) used E' w:=by
 obtain⟨p,hp,hB⟩:=h.cn id _ hf
 rcases hB with ⟨hn,hx,hl⟩|⟨hn,h0,h1,vs,h2,h3,h4,h5⟩
 ·refine⟨E,.refl _,rfl,fun b o hb=> .inl hb,⟨h.keep,h.m7,h.src,fun i B' eh=> ?_,fun i B' q eh hq dB=> ?_,fun i j D2 D1 q q' h1 h2 hq nr hn dB k6=> ?_,h.used⟩⟩
  ·by_cases hi:i=id
   ·subst hi;rw[bP] at eh;cases eh;exact⟨p,hp,.inl ⟨hn,hx,hl⟩⟩
   ·rw[bn _ _ _ _ (Ne.symm hi)] at eh;exact h.cn i B' eh
  ·by_cases hi:i=id
   ·subst hi;rw[hp] at hq;cases hq;rw[hn] at dB;cases dB
   ·rw[bn _ _ _ _ (Ne.symm hi)] at eh;exact h.own i B' q eh hq dB
  ·have any:∀i nS,find (put bl id (c7.row true e t xs)) i=some nS->∃D3,find bl i=some D3:=fun i nS eh=>by
    by_cases hi:i=id
    ·exact hi▸⟨_,hf⟩
    ·rw[bn _ _ _ _ (Ne.symm hi)] at eh;exact⟨_,eh⟩
   obtain⟨_,nY⟩:=any i D2 h1
   obtain⟨_,zF⟩:=any j D1 h2
   exact h.inj i j _ _ q q' nY zF hq nr hn dB k6
 ·have hle:E.le {E with F:=fun b=>if b=p.bp then some (.cells vs e (0,0)) else E.F b}:=by
   refine⟨fun b o hb=> ?_,fun _ _ h=>h⟩
   simp only
   split
   ·rename_i ju
    subst ju
    rw[<-h.m7 _ _ hb,h2]
   ·exact hb
  refine⟨_,hle,rfl,fun b o hb=> ?_,⟨h.keep,fun b o hb=> ?_,fun b o hb=> ?_,fun i B' eh=> ?_,fun i B' q eh hq dB=> ?_,fun i j D2 D1 q q' h1 h2 hq nr hn dB k6=> ?_,h.used⟩⟩
  ·simp only at hb
   split at hb
   ·rename_i ju;subst ju;cases hb;exact .inr ⟨h2,p,hp,hn,rfl⟩
   ·exact .inl hb
  ·simp only at hb
   split at hb
   ·rename_i ju;subst ju;cases hb;exact h2
   ·exact h.m7 _ _ hb
  ·simp only at hb
   split at hb
   ·rename_i ju;subst ju;exact .inr (h.own id _ p hf hp hn).1
   ·exact h.src _ _ hb
  ·by_cases hi:i=id
   ·subst hi
    rw[bP] at eh
    cases eh
    refine⟨p,hp,.inr ⟨hn,h0,h1,vs,h2,h3,fun _=>by simp,fun j x hx=> ?_⟩⟩
    obtain⟨us,k1,k2⟩:=h5 j x hx
    exact⟨us,k1.mono hle.F,k2⟩
   ·rw[bn _ _ _ _ (Ne.symm hi)] at eh
    obtain⟨q,hq,k⟩:=h.cn i B' eh
    exact⟨q,hq,k.mono hle⟩
  ·by_cases hi:i=id
   ·subst hi
    rw[bP] at eh
    cases eh
    exact⟨(h.own i _ q hf hq dB).1,fun hm=>by simp[c7.mut] at hm⟩
   ·rw[bn _ _ _ _ (Ne.symm hi)] at eh
    refine⟨(h.own i B' q eh hq dB).1,fun hm=> ?_⟩
    simp only
    rw[if_neg (h.inj i id B' _ q p eh hf hq hp dB hn hi)]
    exact(h.own i B' q eh hq dB).2 hm
  ·have any:∀i nS,find (put bl id (c7.row true e t xs)) i=some nS->∃D3,find bl i=some D3:=fun i nS eh=>by
    by_cases hi:i=id
    ·exact hi▸⟨_,hf⟩
    ·rw[bn _ _ _ _ (Ne.symm hi)] at eh;exact⟨_,eh⟩
   obtain⟨_,nY⟩:=any i D2 h1
   obtain⟨_,zF⟩:=any j D1 h2
   exact h.inj i j _ _ q q' nY zF hq nr hn dB k6
theorem HRel.Ny {w0:World} {foot:gM} {base:Mem} {bl:List (Nat×c7)} {used:List Nat} {E:Env} {w:World} (h:HRel w0 foot base bl used E w)
  {id:Nat} {cs:List C} {t:Ty} {x:t.den} (hf:find bl id=some (.cells cs)) (hr:∀vs:List Value,b7 E cs vs->dj E.F t x vs):
  ∃E',E.le E'/\E'.place=E.place/\(∀b o,E'.F b=some o->E.F b=some o\/(w.heap[b]? =some o/\(∃p,E.place id=some p/\p.nil=false/\p.bp=b)))/\HRel w0 foot base (put bl id (.iA t x)) used E' w:=by
 obtain⟨p,hp,hB⟩:=h.cn id _ hf
 obtain⟨hn,vs,e,h2,h3⟩:=hB
 have hle:E.le {E with F:=fun b=>if b=p.bp then some (.cells vs e (0,0)) else E.F b}:=by
  refine⟨fun b o hb=> ?_,fun _ _ h=>h⟩
  simp only
  split
  ·rename_i ju
   subst ju
   rw[<-h.m7 _ _ hb,h2]
  ·exact hb
 refine⟨_,hle,rfl,fun b o hb=> ?_,⟨h.keep,fun b o hb=> ?_,fun b o hb=> ?_,fun i B' eh=> ?_,fun i B' q eh hq dB=> ?_,fun i j D2 D1 q q' h1 h2 hq nr hn dB k6=> ?_,h.used⟩⟩
 ·simp only at hb
  split at hb
  ·rename_i ju;subst ju;cases hb;exact .inr ⟨h2,p,hp,hn,rfl⟩
  ·exact .inl hb
 ·simp only at hb
  split at hb
  ·rename_i ju;subst ju;cases hb;exact h2
  ·exact h.m7 _ _ hb
 ·simp only at hb
  split at hb
  ·rename_i ju;subst ju;exact .inr (h.own id _ p hf hp hn).1
  ·exact h.src _ _ hb
 ·by_cases hi:i=id
  ·subst hi
   rw[bP] at eh
   cases eh
   exact⟨p,hp,hn,vs,e,h2,by simp,(hr _ h3).mono hle.F⟩
  ·rw[bn _ _ _ _ (Ne.symm hi)] at eh
   obtain⟨q,hq,k⟩:=h.cn i B' eh
   exact⟨q,hq,k.mono hle⟩
 ·by_cases hi:i=id
  ·subst hi
   rw[bP] at eh
   cases eh
   exact⟨(h.own i _ q hf hq dB).1,fun hm=>by simp[c7.mut] at hm⟩
  ·rw[bn _ _ _ _ (Ne.symm hi)] at eh
   refine⟨(h.own i B' q eh hq dB).1,fun hm=> ?_⟩
   simp only
   rw[if_neg (h.inj i id B' _ q p eh hf hq hp dB hn hi)]
   exact(h.own i B' q eh hq dB).2 hm
 ·have any:∀i nS,find (put bl id (c7.iA t x)) i=some nS->∃D3,find bl i=some D3:=fun i nS eh=>by
   by_cases hi:i=id
   ·exact hi▸⟨_,hf⟩
   ·rw[bn _ _ _ _ (Ne.symm hi)] at eh;exact⟨_,eh⟩
  obtain⟨_,nY⟩:=any i D2 h1
  obtain⟨_,zF⟩:=any j D1 h2
  exact h.inj i j _ _ q q' nY zF hq nr hn dB k6
theorem HRel.Iw {w0:World} {foot:gM} {base:Mem} {bl:List (Nat×c7)} {used:List Nat} {E:Env} {w:World} (h:HRel w0 foot base bl used E w)
  {id:Nat} {je:Bool} {a b:Ty} {m:List (a.den×b.den)} {cur:Option (Nat×Nat)} (hf:find bl id=some (.map je a b m cur)):
  ∃E',E.le E'/\E'.place=E.place/\(∀b o,E'.F b=some o->E.F b=some o\/(w.heap[b]? =some o/\(∃p,E.place id=some p/\p.nil=false/\p.bp=b)))/\HRel w0 foot base (put bl id (.map true a b m none)) used E' w:=by
 obtain⟨p,hp,hB⟩:=h.cn id _ hf
 obtain⟨hn,es,cl,h2,h4,h3⟩:=hB
 have hle:E.le {E with F:=fun b=>if b=p.bp then some (.map es cl) else E.F b}:=by
  refine⟨fun b o hb=> ?_,fun _ _ h=>h⟩
  simp only
  split
  ·rename_i ju
   subst ju
   rw[<-h.m7 _ _ hb,h2]
  ·exact hb
 refine⟨_,hle,rfl,fun b o hb=> ?_,⟨h.keep,fun b o hb=> ?_,fun b o hb=> ?_,fun i B' eh=> ?_,fun i B' q eh hq dB=> ?_,fun i j D2 D1 q q' h1 h2 hq nr hn dB k6=> ?_,h.used⟩⟩
 ·simp only at hb
  split at hb
  ·rename_i ju;subst ju;cases hb;exact .inr ⟨h2,p,hp,hn,rfl⟩
  ·exact .inl hb
 ·simp only at hb
  split at hb
  ·rename_i ju;subst ju;cases hb;exact h2
  ·exact h.m7 _ _ hb
 ·simp only at hb
  split at hb
  ·rename_i ju;subst ju;exact .inr (h.own id _ p hf hp hn).1
  ·exact h.src _ _ hb
 ·by_cases hi:i=id
  ·subst hi
   rw[bP] at eh
   cases eh
   exact⟨p,hp,hn,es,cl,h2,fun _=>by simp,(h3.mono hle).none⟩
  ·rw[bn _ _ _ _ (Ne.symm hi)] at eh
   obtain⟨q,hq,k⟩:=h.cn i B' eh
   exact⟨q,hq,k.mono hle⟩
 ·by_cases hi:i=id
  ·subst hi
   rw[bP] at eh
   cases eh
   exact⟨(h.own i _ q hf hq dB).1,fun hm=>by simp[c7.mut] at hm⟩
  ·rw[bn _ _ _ _ (Ne.symm hi)] at eh
   refine⟨(h.own i B' q eh hq dB).1,fun hm=> ?_⟩
   simp only
   rw[if_neg (h.inj i id B' _ q p eh hf hq hp dB hn hi)]
   exact(h.own i B' q eh hq dB).2 hm
 ·have any:∀i nS,find (put bl id (c7.map true a b m none)) i=some nS->∃D3,find bl i=some D3:=fun i nS eh=>by
   by_cases hi:i=id
   ·exact hi▸⟨_,hf⟩
   ·rw[bn _ _ _ _ (Ne.symm hi)] at eh;exact⟨_,eh⟩
  obtain⟨_,nY⟩:=any i D2 h1
  obtain⟨_,zF⟩:=any j D1 h2
  exact h.inj i j _ _ q q' nY zF hq nr hn dB k6
end Go.Vc
end

section
set_option linter.unusedVariables false
set_option linter.unusedSimpArgs false
namespace Go.Vc
open Go
def Ty.A8:Ty->Bool
 | .int _| .bool| .str=>true
 |_=>false
def Ty.uy:Ty->Bool
 | .unit=>true
 | .pair a b=>a.A8&&(b.A8||b.uy)
 |_=>false
def Ty.isKey (t:Ty):Bool:=t.A8||t.uy
def Ty.jc:(t:Ty)->t.den->t.den->Bool
 | .int _,x,y=>Ty.I x==Ty.I y
 | .bool,x,y=>Ty.B x==Ty.B y
 | .str,x,y=>Ty.S x==Ty.S y
 | .unit,_,_=>true
 | .pair a b,x,y=>a.jc x.1 y.1&&b.jc x.2 y.2
 | .list _,_,_=>false
 | .ref _,_,_=>false
 | .ptr _,_,_=>false
 | .lN _ _,_,_=>false
 | .map _ _,_,_=>false
theorem Ty.Ez:∀{t:Ty},t.A8=true->∀(x y:t.den),t.jc x y=true↔x=y
 | .int _,_,x,y=>beq_iff_eq (α:=Int)
 | .bool,_,x,y=>beq_iff_eq (α:=Bool)
 | .str,_,x,y=>beq_iff_eq (α:=List UInt8)
theorem Ty.H2:∀{t:Ty},t.uy=true->∀(x y:t.den),t.jc x y=true↔x=y
 | .unit,_,x,y=>⟨fun _=>rfl,fun _=>rfl⟩
 | .pair a b,h,x,y=>by
  simp only[Ty.uy,Bool.and_eq_true,Bool.or_eq_true] at h
  have h2:b.jc x.2 y.2=true↔x.2=y.2:=by
   rcases h.2 with h2|h2
   ·exact Ty.Ez h2 x.2 y.2
   ·exact Ty.H2 h2 x.2 y.2
  simp only[Ty.jc,Bool.and_eq_true,Ty.Ez h.1,h2]
  obtain⟨x1,x2⟩:=x
  obtain⟨y1,y2⟩:=y
  simp
theorem Ty.nV {t:Ty} (h:t.isKey=true) (x y:t.den):t.jc x y=true↔x=y:=by
 simp only[Ty.isKey,Bool.or_eq_true] at h
 rcases h with h|h
 ·exact Ty.Ez h x y
 ·exact Ty.H2 h x y
def aW (a:Ty) {β:Type}:List (a.den×β)->a.den->Option β
 |[],_=>none
 |x::m,k=>bif a.jc k x.1 then some x.2 else aW a m k
def jV (a:Ty) {β:Type}:List (a.den×β)->a.den->Nat
 |[],_=>0
 |x::m,k=>bif a.jc k x.1 then 0 else jV a m k+1
def df (a:Ty) {β:Type}:List (a.den×β)->a.den->β->List (a.den×β)
 |[],k,v=>[(k,v)]
 |x::m,k,v=>bif a.jc k x.1 then(k,v)::m else x::df a m k v
def iV (a:Ty) {β:Type}:List (a.den×β)->a.den->List (a.den×β)
 |[],_=>[]
 |x::m,k=>bif a.jc k x.1 then m else x::iV a m k
def rA (a:Ty) {β:Type} (m:List (a.den×β)) (k:a.den) (z:β):List (a.den×β):=df a m k ((aW a m k).getD z)
def th {α β:Type} (m:List (α×β)) (i:Nat) (v:β):List (α×β):=m.modify i fun x=>(x.1,v)
section
variable {a:Ty} {β:Type}
theorem Xo:∀(m:List (a.den×β)) (k:a.den),jV a m k<=m.length
 |[],_=>Nat.le_refl _
 |x::m,k=>by
  unfold jV
  cases a.jc k x.1 with
  |true=>simp
  |false=>have:=Xo m k;simpa using this
theorem uJ (h:a.isKey=true):∀(m:List (a.den×β)) (k:a.den),
  (aW a m k=none/\(∀v,df a m k v=m++[(k,v)])/\iV a m k=m/\jV a m k=m.length/\∀x∈m,x.1≠k)\/
  ∃v0,aW a m k=some v0/\m[jV a m k]? =some (k,v0)/\(∀v,df a m k v=m.set (jV a m k) (k,v))/\iV a m k=m.eraseIdx (jV a m k)/\(∀(j:Nat) x,j<jV a m k->m[j]? =some x->x.1≠k)
 |[],k=> .inl ⟨rfl,fun _=>rfl,rfl,rfl,fun x hx=>by cases hx⟩
 |x::m,k=>by
  have hk:=Ty.nV h k x.1
  simp only[aW,df,iV,jV]
  cases hb:a.jc k x.1 with
  |true=>
   have e:=hk.1 hb
   subst e
   exact .inr ⟨x.2,rfl,rfl,fun v=>rfl,rfl,fun j y hj=>by simp at hj⟩
  |false=>
   have kz:x.1≠k:=fun e=>by rw[hk.2 e.symm] at hb;cases hb
   rcases uJ h m k with ⟨h1,h2,h3,h4,h5⟩|⟨v0,h1,h2,h3,h4,h5⟩
   ·refine .inl ⟨h1,fun v=>by simp[h2 v],by simp[h3],by simp[h4],fun y hy=> ?_⟩
    rcases List.mem_cons.1 hy with rfl|hy
    ·exact kz
    ·exact h5 y hy
   ·refine .inr ⟨v0,h1,by simpa using h2,fun v=>by simp[h3 v],by simp[h4],fun j y hj hy=> ?_⟩
    cases j with
    |zero=>
     have hy:x=y:=by simpa using hy
     subst hy;exact kz
    |succ j=>exact h5 j y (by simpa using hj) (by simpa using hy)
theorem wP (h:a.isKey=true):∀(m:List (a.den×β)) (k k':a.den) (v:β),aW a (df a m k v) k'=bif a.jc k' k then some v else aW a m k'
 |[],k,k',v=>by simp[df,aW]
 |x::m,k,k',v=>by
  simp only[df]
  cases hb:a.jc k x.1 with
  |true=>
   have e:=(Ty.nV h k x.1).1 hb
   subst e
   simp only[cond_true,aW]
   cases a.jc k' x.1<;>rfl
  |false=>
   simp only[cond_false,aW,wP h m k k' v]
   cases hc:a.jc k' x.1 with
   |true=>
    have e:=(Ty.nV h k' x.1).1 hc
    subst e
    have:a.jc x.1 k=false:=by
     cases hd:a.jc x.1 k with
     |false=>rfl
     |true=>
      have e:=(Ty.nV h x.1 k).1 hd
      rw[<-e] at hb
      rw[(Ty.nV h x.1 x.1).2 rfl] at hb
      cases hb
    rw[this];rfl
   |false=>rfl
theorem fM (h:a.isKey=true) {m:List (a.den×β)} {k:a.den} {v:β} (hg:aW a m k=some v):(k,v)∈m:=by
 rcases uJ h m k with ⟨h1,_⟩|⟨v0,h1,h2,_⟩
 ·rw[h1] at hg;cases hg
 ·rw[h1] at hg;cases hg;exact List.mem_of_getElem? h2
theorem o8 (h:a.isKey=true):∀{m:List (a.den×β)} {k:a.den} {v:β},(m.map Prod.fst).Nodup->(k,v)∈m->aW a m k=some v
 |[],_,_,_,hm=>by cases hm
 |x::m,k,v,hn,hm=>by
  simp only[List.map_cons,List.nodup_cons] at hn
  simp only[aW]
  rcases List.mem_cons.1 hm with rfl|hm
  ·rw[(Ty.nV h k k).2 rfl];rfl
  ·cases hb:a.jc k x.1 with
   |true=>
    have e:=(Ty.nV h k x.1).1 hb
    exact absurd (List.mem_map.2 ⟨_,hm,e⟩) hn.1
   |false=>exact o8 h hn.2 hm
theorem HM (h:a.isKey=true) (m:List (a.den×β)) (k:a.den) (z v:β):th (rA a m k z) (jV a m k) v=df a m k v:=by
 unfold th rA
 rcases uJ h m k with ⟨h1,h2,h3,h4,h5⟩|⟨v0,h1,h2,h3,h4,h5⟩
 ·rw[h2,h2,h4]
  apply List.ext_getElem?
  intro j
  rw[List.getElem?_modify]
  by_cases hj:m.length=j
  ·subst hj;simp
  ·simp only[hj,if_false]
   cases hq:(m++[(k,(aW a m k).getD z)])[j]? with
   |none=>
    rw[List.getElem?_eq_none_iff] at hq
    rw[List.getElem?_eq_none (by simpa using hq)];rfl
   |some q=>
    have dQ:=(List.getElem?_eq_some_iff.1 hq).1
    have dQ:j<m.length:=by simp at dQ;omega
    rw[List.getElem?_append_left dQ] at hq ⊢
    rw[hq];rfl
 ·have dQ:=(List.getElem?_eq_some_iff.1 h2).1
  rw[h3,h3]
  apply List.ext_getElem?
  intro j
  rw[List.getElem?_modify]
  by_cases hj:jV a m k=j
  ·subst hj;simp[dQ]
  ·simp only[hj,if_false]
   rw[List.getElem?_set_ne hj,List.getElem?_set_ne hj]
   cases m[j]? <;>rfl
theorem qm (h:a.isKey=true) (m:List (a.den×β)) (k:a.den) (v:β) (hn:(m.map Prod.fst).Nodup):((df a m k v).map Prod.fst).Nodup:=by
 rcases uJ h m k with ⟨h1,h2,h3,h4,h5⟩|⟨v0,h1,h2,h3,h4,h5⟩
 ·rw[h2,List.map_append,List.nodup_append]
  refine⟨hn,by simp,fun x hx y hy=> ?_⟩
  obtain⟨z,hz,rfl⟩:=List.mem_map.1 hx
  simp only[List.map_cons,List.map_nil,List.mem_singleton] at hy
  subst hy
  exact h5 z hz
 ·rw[h3]
  have:(m.set (jV a m k) (k,v)).map Prod.fst=m.map Prod.fst:=by
   apply List.ext_getElem?
   intro i
   simp only[List.getElem?_map,List.getElem?_set]
   split
   ·rename_i hi
    subst hi
    split
    ·rw[h2];rfl
    ·rename_i dQ;rw[List.getElem?_eq_none (by omega)]
   ·rfl
  rw[this]
  exact hn
theorem tS (m:List (a.den×β)) (k:a.den) (h:a.isKey=true) (hn:(m.map Prod.fst).Nodup):((iV a m k).map Prod.fst).Nodup:=by
 rcases uJ h m k with ⟨h1,h2,h3,h4,h5⟩|⟨v0,h1,h2,h3,h4,h5⟩
 ·rw[h3];exact hn
 ·rw[h4]
  exact((List.eraseIdx_sublist _ _).map _).nodup hn
theorem Aw (h:a.isKey=true):∀(m:List (a.den×β)) (k k':a.den),(m.map Prod.fst).Nodup->aW a (iV a m k) k'=bif a.jc k' k then none else aW a m k'
 |[],k,k',_=>by simp[iV,aW]
 |x::m,k,k',hn=>by
  simp only[List.map_cons,List.nodup_cons] at hn
  have ih:=Aw h m k k' hn.2
  simp only[iV]
  cases hb:a.jc k x.1 with
  |true=>
   have e:=(Ty.nV h k x.1).1 hb
   subst e
   simp only[cond_true,aW]
   cases hc:a.jc k' x.1 with
   |true=>
    have e:=(Ty.nV h k' x.1).1 hc
    subst e
    simp only[cond_true]
    cases hg:aW a m x.1 with
    |none=>rfl
    |some v=>exact absurd (List.mem_map.2 ⟨_,fM h hg,rfl⟩) hn.1
   |false=>rfl
  |false=>
   simp only[cond_false,aW,ih]
   cases hc:a.jc k' x.1 with
   |true=>
    have e:=(Ty.nV h k' x.1).1 hc
    subst e
    have:a.jc x.1 k=false:=by
     cases hd:a.jc x.1 k with
     |false=>rfl
     |true=>
      have e:=(Ty.nV h x.1 k).1 hd
      rw[<-e,(Ty.nV h x.1 x.1).2 rfl] at hb
      cases hb
    rw[this];rfl
   |false=>rfl
theorem uI (h:a.isKey=true) {m0 m:List (a.den×β)} (hn:(m0.map Prod.fst).Nodup) (hp:m0.Perm m) (k:a.den):aW a m0 k=aW a m k:=by
 have hm:(m.map Prod.fst).Nodup:=(hp.map _).nodup_iff.1 hn
 cases h1:aW a m0 k with
 |some v=>exact(o8 h hm (hp.mem_iff.1 (fM h h1))).symm
 |none=>
  cases h2:aW a m k with
  |none=>rfl
  |some v=>rw[o8 h hn (hp.mem_iff.2 (fM h h2))] at h1;cases h1
theorem Bc (h:a.isKey=true) {m0 m:List (a.den×β)} (hn:(m0.map Prod.fst).Nodup) (hm:(m.map Prod.fst).Nodup) (hg:∀k,aW a m0 k=aW a m k):m0.Perm m:=by
 have nd:∀{l:List (a.den×β)},(l.map Prod.fst).Nodup->l.Nodup:=fun {l} h=>by
  have h:(l.map Prod.fst).Pairwise (· ≠ ·):=h
  rw[List.pairwise_map] at h
  exact h.imp fun kz e=>kz (by rw[e])
 refine(List.perm_ext_iff_of_nodup (nd hn) (nd hm)).2 fun x=> ?_
 obtain⟨k,v⟩:=x
 constructor
 ·intro hx
  exact fM h (by rw[<-hg];exact o8 h hn hx)
 ·intro hx
  exact fM h (by rw[hg];exact o8 h hm hx)
theorem HN (h:a.isKey=true) {m0 m:List (a.den×β)} (hn:(m0.map Prod.fst).Nodup) (hp:m0.Perm m) (k:a.den) (v:β):(df a m0 k v).Perm (df a m k v):=by
 have hm:(m.map Prod.fst).Nodup:=(hp.map _).nodup_iff.1 hn
 exact Bc h (qm h _ _ _ hn) (qm h _ _ _ hm) fun k'=>by rw[wP h,wP h,uI h hn hp]
theorem RC (h:a.isKey=true) {m0 m:List (a.den×β)} (hn:(m0.map Prod.fst).Nodup) (hp:m0.Perm m) (k:a.den) (z:β):(rA a m0 k z).Perm (rA a m k z):=by
 unfold rA
 rw[uI h hn hp]
 exact HN h hn hp _ _
theorem RD (h:a.isKey=true) {m0 m:List (a.den×β)} (hn:(m0.map Prod.fst).Nodup) (hp:m0.Perm m) (k:a.den):(iV a m0 k).Perm (iV a m k):=by
 have hm:(m.map Prod.fst).Nodup:=(hp.map _).nodup_iff.1 hn
 exact Bc h (tS _ _ h hn) (tS _ _ h hm) fun k'=>by rw[Aw h _ _ _ hn,Aw h _ _ _ hm,uI h hn hp]
theorem Pb (h:a.isKey=true) (m:List (a.den×β)) (k:a.den) (z:β):((rA a m k z)[jV a m k]?).map Prod.fst=some k:=by
 unfold rA
 rcases uJ h m k with ⟨h1,h2,h3,h4,h5⟩|⟨v0,h1,h2,h3,h4,h5⟩
 ·rw[h2,h4];simp
 ·have dQ:=(List.getElem?_eq_some_iff.1 h2).1
  rw[h3,List.getElem?_set_self dQ];rfl
end
end Go.Vc
end

section
set_option linter.unusedVariables false
set_option linter.unusedSimpArgs false
namespace Go.Vc
open Go
inductive TD where
 |int (k:IntKind)
 |bool
 |str
 |slice (e:Nat)
 |struct (fs:List (Nat×Nat×Nat))
 |plain
 |vX
 |array (n e:Nat)
 |map (k e:Nat)
 |other
structure TI where
 id:Nat
 d:TD
 size:Nat
 bytes:Nat
 zero:Value
 ty:Option Ty
 eq:Bool
def kb (P:Program) (t:Nat):TD:=
 match P.underlying t with
 |some (.int k)=> .int k
 |some .bool=> .bool
 |some .string=> .str
 |some (.slice e)=> .slice e
 |some (.struct fs)=> .struct (fs.toList.map fun f=>(f.offset,P.cellsOf f.type,f.type))
 |some (.pointer _)=> .vX
 |some (.array n e)=> .array n e
 |some (.map k e)=> .map k e
 |some (.func _ _ _)=> .plain
 |_=> .other
def Mm:List TI->Nat->Option TI
 |[],_=>none
 |i::l,t=>match Nat.beq i.id t with
  |true=>some i
  |false=>Mm l t
def uH (P:Program) (t:Nat):Bool:=
 !P.eqGuardType P.depth t&& !P.stoodInHeld t&&(match P.underlying t with
  |some (.struct fs)=>fs.toList.all fun f=>f.name !="_"
  |_=>false)
structure dx (P:Program) (aA:List TI):Prop where
 WD:aA.map (fun i=>kb P i.id)=aA.map (fun i=>i.d)
 infos:aA.map (fun i=>(P.info? i.id).map fun j=>(j.size,j.bytes,j.zero))=aA.map (fun i=>some (i.size,i.bytes,some i.zero))
 eqs:aA.map (fun i=>uH P i.id)=aA.map (fun i=>i.eq)
 mixed:P.follows .mixedOrders=true
def GV:Value->Option C
 | .bool b=>some (.aG .bool b)
 | .int k n=>(match decide (k.min<=n)&&decide (n<=k.max) with
  |true=>some (.aG (.int k) n)
  |false=>none)
 | .string s=>(match Nat.ble s.data.toList.length aM with
  |true=>some (.aG .str s.data.toList)
  |false=>none)
 | .slice none 0 0=>some .kq
 | .pointer none=>some .o6
 | .nilFunc=>some .HH
 | .map none=>some .pR
 |_=>none
def mi:List Value->Option (List C)
 |[]=>some []
 |v::vs=>match GV v,mi vs with
  |some c,some cs=>some (c::cs)
  |_,_=>none
def IS:Value->Option SV
 | .agg vs=>(mi vs.toList).map .agg
 |v=>(GV v).map .one
def RM.ofOption {α:Type}:Option α->RM α
 |some a=> .ret a
 |none=> .fail
def Sk (ex:c9):Operand->RM SV
 | .tmp t=> .slot ex t .ret
 | .const v=>RM.ofOption (IS v)
 | .func f=> .ret (.one (.aG (.lN f .unit) ()))
 |_=> .fail
def ev (x:Operand):RM SV:=Sk [] x
def asC:SV->RM C
 | .one c=> .ret c
 |_=> .fail
def lM (x:Operand):RM C:=do asC (<-ev x)
def oT:SV->RM (List C)
 | .one c=> .ret [c]
 | .agg cs=> .ret cs
 |_=> .fail
def JW:SV->RM Bool
 | .one (.aG .bool b)=> .ret b
 |_=> .fail
def Ci:SV->RM Int
 | .one (.aG (.int _) n)=> .ret n
 |_=> .fail
abbrev ij:=List (Nat×c7)
def cS (b:Bool):RM Unit:=
 match b with
 |true=> .ret ()
 |false=> .fail
def DQ {t:Ty} (xs:List t.den) (i:Nat):t.den:=xs.getD i t.Du
def lit {t:Ty} (x:List t.den):(Ty.list t).den:=x
def oZ (t:Ty):C->RM (t.den×ij)
 | .aG _ x=>do return (<-RM.ofOption (Ty.as t x),[])
 | .row tt b=> .bp b fun
  | .row _ e t' xs=>(match tt.beq t' with
   |true=>do return (<-RM.ofOption (Ty.as (a:= .list t') t (lit xs)),[(b,.row true e t' xs)])
   |false=> .fail)
  |_=> .fail
 | .sub tt b lo len=> .bp b fun
  | .row _ e t' xs=>(match tt.beq t' with
   |true=>do return (<-RM.ofOption (Ty.as (a:= .list t') t (lit ((xs.drop lo).take len))),[(b,.row true e t' xs)])
   |false=> .fail)
  |_=> .fail
 | .kq=>(match t with
  | .list _=> .ret ([],[])
  |_=> .fail)
 | .o6=>(match t with
  | .ptr _=> .ret (none,[])
  |_=> .fail)
 | .map _ _ n=> .bp n fun
  | .map _ a' b' m _=>do return (<-RM.ofOption (Ty.as (a:= .map a' b') t m),[(n,.map true a' b' m none)])
  |_=> .fail
 | .pR=>(match t with
  | .map _ _=> .ret ([],[])
  |_=> .fail)
 |_=> .fail
def vA:ij->Nat->Bool
 |[],_=>true
 |(m,_)::l,n=>match Nat.beq m n with
  |true=>false
  |false=>vA l n
def Xy:c7->Bool
 | .iA _ _=>true
 |_=>false
def noF:ij->Bool
 |[]=>true
 |(_,B)::l=> !Xy B&&noF l
def DR:ij->ij->Bool
 |[],_=>true
 |(m,B)::l,g=>(!Xy B||vA g m)&&DR l g
def pb (f g:ij):Bool:=DR f g&&DR g f
def reify:(t:Ty)->List C->RM (t.den×ij)
 | .unit,cs=>(match cs with
  |[]=> .ret ((),[])
  |_=> .fail)
 | .pair a b,cs=>do
  let x <-reify a (cs.take a.size)
  let y <-reify b (cs.drop a.size)
  cS (pb x.2 y.2)
  return ((x.1,y.1),x.2++y.2)
 | .int k,cs=>(match cs with
  |[c]=>oZ (.int k) c
  |_=> .fail)
 | .bool,cs=>(match cs with
  |[c]=>oZ .bool c
  |_=> .fail)
 | .str,cs=>(match cs with
  |[c]=>oZ .str c
  |_=> .fail)
 | .list t,cs=>(match cs with
  |[c]=>oZ (.list t) c
  |_=> .fail)
 | .ref t,cs=>(match cs with
  |[.ta t' xs i o]=>(match Nat.beq o 0 with
   |true=>do return (<-RM.ofOption (Ty.as (a:=t') t (DQ xs i)),[])
   |false=> .fail)
  |[.ptr b o]=>(match Nat.beq o 0 with
   |true=> .bp b fun
    | .cells cs=>do
     let y <-reify t cs
     cS (vA y.2 b)
     return (y.1,y.2++[(b,.iA t y.1)])
    | .iA t' x=>do return (<-RM.ofOption (Ty.as (a:=t') t x),[(b,.iA t' x)])
    |_=> .fail
   |false=> .fail)
  |[c]=>oZ (.ref t) c
  |_=> .fail)
 | .ptr t,cs=>(match cs with
  |[.ta t' xs i o]=>(match Nat.beq o 0 with
   |true=>do return (some (<-RM.ofOption (Ty.as (a:=t') t (DQ xs i))),[])
   |false=> .fail)
  |[.ptr b o]=>(match Nat.beq o 0 with
   |true=> .bp b fun
    | .cells cs=>do
     let y <-reify t cs
     cS (vA y.2 b)
     return (some y.1,y.2++[(b,.iA t y.1)])
    | .iA t' x=>do return (some (<-RM.ofOption (Ty.as (a:=t') t x)),[(b,.iA t' x)])
    |_=> .fail
   |false=> .fail)
  |[c]=>oZ (.ptr t) c
  |_=> .fail)
 | .lN k t,cs=>(match cs with
  |[c]=>oZ (.lN k t) c
  |_=> .fail)
 | .map a b,cs=>(match cs with
  |[c]=>oZ (.map a b) c
  |_=> .fail)
def AB:ij->RM Bool
 |[]=> .ret true
 |(b,_)::l=> .bp b fun
  | .iA _ _=>AB l
  |_=> .ret false
def C8 (k:IntKind):List C->Option (List Int)
 |[]=>some []
 | .aG t x::l=>(match Ty.as (a:=t) (.int k) x with
  |some y=>(match C8 k l with
   |some ys=>some (Ty.I y::ys)
   |none=>none)
  |none=>none)
 |_::_=>none
structure b9 where
 val:Option SV:=none
 cn:List (Nat×c7):=[]
 del:List Nat:=[]
 new:List Nat:=[]
 conds:List Prop:=[]
def kL (v:SV):RM b9:= .ret {val:=some v}
def cM (c:C):RM b9:= .ret {val:=some (.one c)}
def o2 (p:Prop) (c:C):RM b9:= .ret {val:=some (.one c),conds:=[p]}
structure SX where
 run:List SV->Nat->RM b9
structure Ctx where
 aA:List TI
 dD:Nat->Option SX
 wraps:List Nat:=[]
 clos:List (Nat×Ty):=[]
 mclos:List Nat:=[]
def ti (X:Ctx) (t:Nat):RM TI:=RM.ofOption (Mm X.aA t)
def afO:TD->Bool
 | .struct _=>true
 |_=>false
def CS (d:TD) (cs:List C):RM SV:=
 match d with
 | .struct _=> .ret (.agg cs)
 | .array _ _=> .ret (.agg cs)
 | .other=> .fail
 |_=>(match cs with
  |[c]=> .ret (.one c)
  |_=> .fail)
def Hc (t:Ty) (x:t.den):SV:=
 match t.isAgg with
 |true=> .agg (flat t x)
 |false=>(match flat t x with
  |[c]=> .one c
  |_=> .one (.aG t x))
def Jk (t:Ty):SV->RM (List C)
 | .one c=>(match t.isAgg with
  |true=> .fail
  |false=> .ret [c])
 | .agg cs=>(match t.isAgg with
  |true=> .ret cs
  |false=> .fail)
 |_=> .fail
def SE (n size e:Nat):List (Nat×Nat×Nat):=(List.range n).map fun i=>(i*size,size,e)
def qD (cs:List C) (o:Nat) (ds:List C):List C:=cs.take o++ds++cs.drop (o+ds.length)
def GM:IntKind->IntKind->Bool
 | .u8,.u8| .u8,.u16| .u8,.u32| .u8,.u64| .u8,.i16| .u8,.i32| .u8,.i64=>true
 | .u16,.u16| .u16,.u32| .u16,.u64| .u16,.i32| .u16,.i64=>true
 | .u32,.u32| .u32,.u64| .u32,.i64=>true
 | .u64,.u64=>true
 | .i8,.i8| .i8,.i16| .i8,.i32| .i8,.i64=>true
 | .i16,.i16| .i16,.i32| .i16,.i64=>true
 | .i32,.i32| .i32,.i64=>true
 | .i64,.i64=>true
 |_,_=>false
def bitsOf (op:BinOp) (k:IntKind) (x y:Int):Int:=
 match op with
 | .and=>k.wrap ((BitVec.ofInt k.bits x&&&BitVec.ofInt k.bits y).toNat)
 | .or=>k.wrap ((BitVec.ofInt k.bits x|||BitVec.ofInt k.bits y).toNat)
 | .xor=>k.wrap ((BitVec.ofInt k.bits x ^^^ BitVec.ofInt k.bits y).toNat)
 |_=>k.wrap ((BitVec.ofInt k.bits x&&& ~~~ (BitVec.ofInt k.bits y)).toNat)
def arith (w:Bool) (k:IntKind) (n:Int):RM b9:=
 match w|| !k.signed with
 |true=>cM (.aG (.int k) (k.wrap n))
 |false=>o2 (bo k n) (.aG (.int k) n)
def RQ (w:Bool) (op:BinOp) (k:IntKind) (a b:Int):RM b9:=
 match op with
 | .add=>arith w k (a+b)
 | .sub=>arith w k (a - b)
 | .mul=>arith w k (a*b)
 | .quo=> .ret {val:=some (.one (.aG (.int k) (k.wrap (a.tdiv b)))),conds:=[b≠0]}
 | .rem=> .ret {val:=some (.one (.aG (.int k) (a.tmod b))),conds:=[b≠0]}
 | .and=>cM (.aG (.int k) (bitsOf .and k a b))
 | .or=>cM (.aG (.int k) (bitsOf .or k a b))
 | .xor=>cM (.aG (.int k) (bitsOf .xor k a b))
 | .andNot=>cM (.aG (.int k) (bitsOf .andNot k a b))
 | .eql=>cM (.aG .bool (a==b))
 | .neq=>cM (.aG .bool (a !=b))
 | .lss=>cM (.aG .bool (decide (a<b)))
 | .leq=>cM (.aG .bool (decide (a<=b)))
 | .gtr=>cM (.aG .bool (decide (a>b)))
 | .geq=>cM (.aG .bool (decide (a>=b)))
 |_=> .fail
def Hi (op:BinOp) (k:IntKind) (a b:Int):RM b9:=
 match op with
 | .shl=> .ret {val:=some (.one (.aG (.int k) (k.wrap (a*2 ^ (min b.toNat k.bits))))),conds:=[0<=b]}
 | .shr=> .ret {val:=some (.one (.aG (.int k) (a.fdiv (2 ^ (min b.toNat k.bits))))),conds:=[0<=b]}
 |_=> .fail
def QQ (op:BinOp) (a b:List UInt8):RM b9:=
 match op with
 | .add=>o2 (a.length+b.length<=aM) (.aG .str (a++b))
 | .eql=>cM (.aG .bool (a==b))
 | .neq=>cM (.aG .bool (!(a==b)))
 | .lss=>cM (.aG .bool (Op.bytesLess a b))
 |_=> .fail
def VG:TD->C->C->Option Bool
 | .int _,.aG (.int j) a,.aG (.int k) b=>(match pF j k with
  |true=>some (Ty.I a==Ty.I b)
  |false=>none)
 | .bool,.aG .bool a,.aG .bool b=>some (Ty.B a==Ty.B b)
 | .str,.aG .str a,.aG .str b=>some (Ty.S a==Ty.S b)
 |_,_,_=>none
def Xx:BinOp->Bool
 | .shl| .shr=>true
 |_=>false
def GH (op:BinOp) (b:Bool):RM b9:=
 match op with
 | .eql=>cM (.aG .bool b)
 | .neq=>cM (.aG .bool (!b))
 |_=> .fail
def Xl (op:BinOp):C->RM b9
 | .aG (.ptr t) o=>GH op (Option.isNone (α:=t.den) o)
 | .ptr _ _| .mD _ _ _ _| .ta _ _ _ _=>GH op false
 |_=> .fail
def L7 (w:Bool) (op:BinOp):SV->SV->RM b9
 | .one (.aG (.int j) a),.one (.aG (.int k) b)=>(match Xx op with
  |true=>Hi op j a b
  |false=>(match pF j k with
   |true=>RQ w op j a b
   |false=> .fail))
 | .one (.aG .str a),.one (.aG .str b)=>QQ op a b
 | .one (.aG .bool a),.one (.aG .bool b)=>(match op with
  | .eql=>cM (.aG .bool (Ty.B a==Ty.B b))
  | .neq=>cM (.aG .bool (!(Ty.B a==Ty.B b)))
  |_=> .fail)
 |_,_=> .fail
def eqFields (X:Ctx):List (Nat×Nat×Nat)->List C->List C->RM Bool
 |[],_,_=> .ret true
 |(off,_,t)::fs,cs,ds=>do
  let i <-ti X t
  match cs[off]?,ds[off]? with
  |some c,some d=>(do
   let b <-RM.ofOption (VG i.d c d)
   let r <-eqFields X fs cs ds
   return (b&&r))
  |_,_=> .fail
def nO (X:Ctx):List (Nat×Nat×Nat)->List C->List C->RM Bool
 |[],_,_=> .ret true
 |(off,size,t)::fs,cs,ds=>do
  let i <-ti X t
  match i.d with
  | .struct gs=>(do
   cS (i.eq&&(Nat.beq i.size size&&(Nat.ble (off+size) cs.length&&Nat.ble (off+size) ds.length)))
   let b <-eqFields X gs ((cs.drop off).take size) ((ds.drop off).take size)
   let r <-nO X fs cs ds
   return (b&&r))
  |_=>match cs[off]?,ds[off]? with
   |some c,some d=>(do
    let b <-RM.ofOption (VG i.d c d)
    let r <-nO X fs cs ds
    return (b&&r))
   |_,_=> .fail
def uQ:C->RM b9
 | .aG (.list _) xs=>cM (.aG (.int .i64) ((Ty.L xs).length:Int))
 | .aG .str s=>cM (.aG (.int .i64) ((Ty.S s).length:Int))
 | .row tt b=> .bp b fun
  | .row _ _ t xs=>(match tt.beq t with
   |true=>cM (.aG (.int .i64) (xs.length:Int))
   |false=> .fail)
  |_=> .fail
 | .sub _ _ _ len=>cM (.aG (.int .i64) (len:Int))
 | .kq=>cM (.aG (.int .i64) (0:Int))
 |_=> .fail
def aL (n:Int) (len:Nat):Prop:=0<=n/\n<len
def M6 (size:Nat) (n:Int):C->RM b9
 | .aG (.list t) xs=>(match Nat.beq size t.size with
  |true=>o2 (aL n (Ty.L xs).length) (.ta t xs n.toNat 0)
  |false=> .fail)
 | .row tt b=> .bp b fun
  | .row _ _ t xs=>(match Nat.beq size t.size&&tt.beq t with
   |true=>o2 (aL n xs.length) (.mD t b n.toNat 0)
   |false=> .fail)
  |_=> .fail
 | .sub tt b lo len=> .bp b fun
  | .row _ _ t _=>(match Nat.beq size t.size&&tt.beq t with
   |true=>o2 (aL n len) (.mD t b (lo+n.toNat) 0)
   |false=> .fail)
  |_=> .fail
 |_=> .fail
def CY (size:Nat):C->RM (List C)
 | .ptr b o=> .bp b fun
  | .cells cs=> .ret ((cs.drop o).take size)
  | .iA t x=> .ret (((flat t x).drop o).take size)
  |_=> .fail
 | .mD tt b i o=> .bp b fun
  | .row _ _ t xs=>(match tt.beq t with
   |true=> .ret (((flat t (DQ xs i)).drop o).take size)
   |false=> .fail)
  |_=> .fail
 | .ta t xs i o=> .ret (((flat t (DQ xs i)).drop o).take size)
 |_=> .fail
def M7 (size len:Nat) (n:Int):C->RM b9
 | .mD tt b i o=> .bp b fun
  | .row _ _ t xs=>(match Nat.beq i 0&&(Nat.beq o 0&&(Nat.beq size t.size&&tt.beq t)) with
   |true=>o2 (aL n len/\xs.length=len) (.mD t b n.toNat 0)
   |false=> .fail)
  |_=> .fail
 |_=> .fail
def Al (size:Nat) (cs:List C):C->RM b9
 | .ptr b o=> .bp b fun
  | .cells lk=>(match Nat.beq cs.length size&&Nat.ble (o+size) lk.length with
   |true=> .ret {cn:=[(b,.cells (qD lk o cs))]}
   |false=> .fail)
  |_=> .fail
 | .mD tt b i o=> .bp b fun
  | .row false e t xs=>(match tt.beq t&&Nat.beq cs.length size&&Nat.ble (o+size) t.size with
   |true=>(match Nat.beq size t.size with
    |true=>do
     let y <-reify t cs
     cS (vA y.2 b)
     .ret {cn:=y.2++[(b,.row false e t (xs.set i y.1))]}
    |false=>do
     let y <-reify t (qD (flat t (DQ xs i)) o cs)
     cS (vA y.2 b)
     .ret {cn:=y.2++[(b,.row false e t (xs.set i y.1))]})
   |false=> .fail)
  |_=> .fail
 |_=> .fail
def Df:List C->Option (Ty×Nat×Nat)
 |[.sub tt sb lo len]=>(match lo with
  |0=>some (tt,sb,len)
  |_+1=>none)
 |_=>none
def storeT (size:Nat) (cs:List C) (tt:Ty) (sb len:Nat):C->RM b9
 | .ptr bb o=> .bp sb fun
  | .row false e t xs=> .bp bb fun
   | .cells lk=>(match tt.beq t&&(Nat.beq size 1&&(Nat.ble (o+1) lk.length&& !Nat.beq bb sb)) with
    |true=> .ret {cn:=[(sb+7000000,.row false e t (xs.take len)),(bb,.cells (qD lk o [.row t (sb+7000000)]))],del:=[sb],new:=[sb+7000000],conds:=[0<xs.length]}
    |false=> .fail)
   |_=> .fail
  |_=>Al size cs (.ptr bb o)
 |c=>Al size cs c
def cut {α:Type} (xs:List α) (lo hi:Option Int):List α:=
 match lo,hi with
 |none,none=>xs
 |some l,none=>xs.drop l.toNat
 |none,some h=>xs.take h.toNat
 |some l,some h=>(xs.take h.toNat).drop l.toNat
def qb (len:Nat):Option Int->Option Int->List Prop
 |none,none=>[]
 |some l,none=>[0<=l/\l<=len]
 |none,some h=>[0<=h/\h<=len]
 |some l,some h=>[0<=l/\l<=h,h<=len]
def gb:Option Int->Nat
 |none=>0
 |some l=>l.toNat
def hX (len:Nat):Option Int->Option Int->Nat
 |none,none=>len
 |some l,none=>len - l.toNat
 |none,some h=>h.toNat
 |some l,some h=>h.toNat - l.toNat
def VF:Option Operand->RM (Option Int)
 |none=> .ret none
 |some x=>do return some (<-Ci (<-ev x))
def pP (lo hi:Option Int):C->RM b9
 | .aG (.list t) xs=> .ret {val:=some (.one (.aG (.list t) (cut (Ty.L xs) lo hi))),conds:=qb (Ty.L xs).length lo hi}
 | .aG .str s=> .ret {val:=some (.one (.aG .str (cut (Ty.S s) lo hi))),conds:=qb ((Ty.S s).length) lo hi}
 | .row tt b=> .bp b fun
  | .row _ _ t xs=>(match tt.beq t with
   |true=> .ret {val:=some (.one (.sub t b (gb lo) (hX xs.length lo hi))),conds:=qb xs.length lo hi}
   |false=> .fail)
  |_=> .fail
 | .sub t b l len=> .ret {val:=some (.one (.sub t b (l+gb lo) (hX len lo hi))),conds:=qb len lo hi}
 |_=> .fail
def Ot (t:Ty):C->RM (List t.den)
 | .aG (.list t') xs=>RM.ofOption (Ty.as (a:= .list t') (.list t) xs)
 | .row tt b=> .bp b fun
  | .row _ _ t' xs=>(match tt.beq t' with
   |true=>RM.ofOption (Ty.as (a:= .list t') (.list t) (lit xs))
   |false=> .fail)
  |_=> .fail
 | .sub tt b lo len=> .bp b fun
  | .row _ _ t' xs=>(match tt.beq t' with
   |true=>RM.ofOption (Ty.as (a:= .list t') (.list t) (lit ((xs.drop lo).take len)))
   |false=> .fail)
  |_=> .fail
 | .kq=> .ret []
 |_=> .fail
def roomFor (n bytes:Nat):Prop:=n*(bytes+1)<=140737488355328
def Jn (d e:Nat) (i:TI) (t:Ty) (s x:C):RM b9:=do
 let ys <-Ot t x
 match s with
 | .kq=> .ret {val:=some (.one (.row t d)),cn:=[(d,.row false e t ys)],new:=[d],conds:=[roomFor ys.length i.bytes]}
 | .row tt b=> .bp b fun
  | .row false e' t' xs=>(match tt.beq t'&&Nat.beq e e' with
   |true=>do
    let zs <-RM.ofOption (Ty.as (a:= .list t') (.list t) (lit xs))
    .ret {val:=some (.one (.row t d)),cn:=[(d,.row false e t (Ty.L zs++ys))],del:=[b],new:=[d],conds:=[roomFor ((Ty.L zs).length+ys.length) i.bytes]}
   |false=> .fail)
  |_=> .fail
 |_=> .fail
def ve (fs:List (Nat×Nat×Nat)):List (Nat×Operand)->List C->RM (List C)
 |[],cs=> .ret cs
 |(i,x)::ps,cs=>do
  let v <-oT (<-ev x)
  match fs[i]? with
  |some (off,size,_)=>(match Nat.beq v.length size&&Nat.ble (off+size) cs.length with
   |true=>ve fs ps (qD cs off v)
   |false=> .fail)
  |none=> .fail
def re (t:Ty):List (Nat×Operand)->List t.den->RM (List t.den×ij)
 |[],xs=> .ret (xs,[])
 |(i,x)::ps,xs=>do
  let v <-oT (<-ev x)
  let y <-reify t v
  cS (Nat.blt i xs.length)
  let r <-re t ps (xs.set i y.1)
  cS (pb y.2 r.2)
  return (r.1,y.2++r.2)
def uk (j:TI) (ty:Ty):RM ty.den:=do
 let cs <-RM.ofOption (mi j.zero.cells.toList)
 cS (Nat.beq cs.length j.size&&Nat.beq ty.size j.size&&Nat.blt 0 j.size)
 let z <-reify ty cs
 cS z.2.isEmpty
 return z.1
def u7 (t:Ty):Nat->List C->RM (List t.den)
 |0,cs=>(match cs with
  |[]=> .ret []
  |_::_=> .fail)
 |n+1,cs=>do
  let y <-reify t (cs.take t.size)
  cS y.2.isEmpty
  let r <-u7 t n (cs.drop t.size)
  return y.1::r
def sZ:List Operand->RM (List SV)
 |[]=> .ret []
 |x::xs=>do
  let v <-ev x
  let vs <-sZ xs
  return (v::vs)
def Mo (n size:Nat) (cs:List C):C->RM b9
 | .mD tt b i o=> .bp b fun
  | .row false e t xs=>(match tt.beq t&&(Nat.beq i 0&&(Nat.beq o 0&&(Nat.beq cs.length (n*t.size)&&Nat.beq cs.length size))) with
   |true=>do
    let ys <-u7 t n cs
    .ret {cn:=[(b,.row false e t ys)],conds:=[xs.length=n]}
   |false=> .fail)
  |_=> .fail
 |_=> .fail
def GB:TD->Ty->Bool
 | .int j,.int k=>pF j k
 | .bool,.bool=>true
 | .str,.str=>true
 |_,_=>false
def zl (X:Ctx):List (Nat×Nat×Nat)->Ty->Nat->RM Unit
 |[],t,_=>(match t with
  | .unit=> .ret ()
  |_=> .fail)
 |(off,_,tf)::fs,t,o=>(match t with
  | .pair a b=>do
   let i <-ti X tf
   cS (Nat.beq off o&&GB i.d a)
   zl X fs b (o+1)
  |t=>do
   let i <-ti X tf
   cS (Nat.beq off o&&(fs.isEmpty&&GB i.d t)))
def RO (X:Ctx) (kt:Nat) (a:Ty):RM Unit:=do
 let i <-ti X kt
 match i.d with
 | .struct fs=>(do
  cS i.eq
  cS a.isAgg
  zl X fs a 0)
 |d=>cS (GB d a)
def C0 (X:Ctx) (kt:Nat) (a:Ty) (x:Operand):RM a.den:=do
 RO X kt a
 let y <-reify a (<-Jk a (<-ev x))
 cS y.2.isEmpty
 return y.1
def akH:Value->Bool
 | .agg _=>true
 |_=>false
def G2 (X:Ctx) (et:Nat) (b:Ty):RM b.den:=do
 let l <-ti X et
 cS (akH l.zero==b.isAgg)
 uk l b
def qR (X:Ctx) (t:Nat):RM (Nat×Nat):=do
 let i <-ti X t
 match i.d with
 | .map k e=> .ret (k,e)
 |_=> .fail
def MS (X:Ctx) (kt et:Nat) (ok:Bool) (ix:Operand) (a b:Ty) (m:List (a.den×b.den)):RM b9:=do
 let k <-C0 X kt a ix
 let z <-G2 X et b
 match ok with
 |true=>kL (.yv [(b.isAgg,flat b ((aW a m k).getD z)),(false,[.aG .bool (aW a m k).isSome])])
 |false=>kL (Hc b ((aW a m k).getD z))
def HT (X:Ctx) (kt et:Nat) (ok:Bool) (ix:Operand):C->RM b9
 | .map _ _ n=> .bp n fun
  | .map _ a b m _=>MS X kt et ok ix a b m
  |_=> .fail
 | .aG (.map a b) m=>MS X kt et ok ix a b m
 |_=> .fail
def Mx (d:Nat):C->RM b9
 | .aG (.map a b) m=> .ret {val:=some (.one (.ptr d 0)),cn:=[(d,.iter a b m none)],new:=[d]}
 | .map _ _ n=> .bp n fun
  | .map _ a b m _=> .ret {val:=some (.one (.ptr d 0)),cn:=[(n,.map true a b m none),(d,.iter a b m none)],new:=[d]}
  |_=> .fail
 |_=> .fail
def NJ:C->RM b9
 | .ptr d o=> .bp d fun
  | .iter a b _ cur=>(match Nat.beq o 0,cur with
   |true,some x=>kL (.yv [(a.isAgg,flat a x.1),(b.isAgg,flat b x.2)])
   |_,_=> .fail)
  |_=> .fail
 |_=> .fail
def sf (k:(n:Nat)->(a b:Ty)->List (a.den×b.den)->Option (Nat×Nat)->RM b9):C->RM b9
 | .map _ _ n=> .bp n fun
  | .map false a b m cur=>k n a b m cur
  |_=> .fail
 |_=> .fail
def J1 (b:Ty) (n:Nat) (v:Operand):RM (b.den×ij):=do
 let y <-reify b (<-Jk b (<-ev v))
 cS (vA y.2 n)
 return y
def Jl:C->RM Nat
 | .xo d=> .ret d
 |_=> .fail
def tO:List SV->RM (List C)
 |[]=> .ret []
 |v::vs=>do
  let c <-asC v
  let cs <-tO vs
  return (c::cs)
def DA:(t:Ty)->t.den->Option (List SV)
 | .unit,_=>some []
 | .pair a b,x=>(match flat a x.1,DA b x.2 with
  |[c],some vs=>some (.one c::vs)
  |_,_=>none)
 |_,_=>none
def CH:List C->RM (List Nat)
 |[]=> .ret []
 | .ptr b o::cs=>(match Nat.beq o 0 with
  |true=>do
   let bs <-CH cs
   return (b::bs)
  |false=> .fail)
 |_::_=> .fail
def GI (big:Bool):SV->SV->RM b9
 | .one (.aG (.int j) a),.one (.aG (.int k) b)=>(match pF j k with
  |true=>(match big with
   |true=>cM (.aG (.int j) (max (Ty.I a) (Ty.I b)))
   |false=>cM (.aG (.int j) (min (Ty.I a) (Ty.I b))))
  |false=> .fail)
 |_,_=> .fail
def fH (X:Ctx) (o:Oper):RM b9:=
 let d:=o.dst.getD 0
 match o.op with
 | .move x| .assign x=>do kL (<-ev x)
 | .pick (.tmp c) a b=>do
  let g <-JW (<-ev (.tmp c))
  let x <-JW (<-Sk [(c,true)] a)
  let y <-JW (<-Sk [(c,false)] b)
  cM (.aG .bool (bif g then x else y))
 | .alloc t=>do
  let i <-ti X t
  match i.d with
  | .array n e=>(do
   let j <-ti X e
   let ty <-RM.ofOption j.ty
   let cs <-RM.ofOption (mi i.zero.cells.toList)
   cS (Nat.blt 0 n&&Nat.ble n 16777216)
   let xs <-u7 ty n cs
   .ret {val:=some (.one (.mD ty d 0 0)),cn:=[(d,.row false t ty xs)],new:=[d]})
  |_=>(do
   let cs <-RM.ofOption (mi i.zero.cells.toList)
   .ret {val:=some (.one (.ptr d 0)),cn:=[(d,.cells cs)],new:=[d]})
 | .box t x=>do
  let cs <-oT (<-ev x)
  .ret {val:=some (.one (.ptr d 0)),cn:=[(d,.cells cs)],new:=[d]}
 | .build t ps=>do
  let i <-ti X t
  match i.d with
  | .struct fs=>(do
   cS (fs.all fun f=>Nat.blt 0 f.2.1)
   let z <-RM.ofOption (mi i.zero.cells.toList)
   let cs <-ve fs ps.toList z
   kL (.agg cs))
  | .array n e=>(do
   let j <-ti X e
   let z <-RM.ofOption (mi i.zero.cells.toList)
   let cs <-ve (SE n j.size e) ps.toList z
   kL (.agg cs))
  |_=> .fail
 | .buildSlice t n ps=>match o.guard with
  |none=>do
   let i <-ti X t
   match i.d with
   | .slice e=>(do
    let j <-ti X e
    let ty <-RM.ofOption j.ty
    cS (Nat.ble (n*j.size) 16777216)
    let z <-uk j ty
    let r <-re ty ps.toList (List.replicate n z)
    .ret {val:=some (.one (.row ty d)),cn:=r.2++[(d,.row false e ty r.1)],new:=[d]})
   |_=> .fail
  |some _=>do
   let i <-ti X t
   match i.d with
   | .slice e=>(do
    let j <-ti X e
    let ty <-RM.ofOption j.ty
    cS (Nat.ble (n*j.size) 16777216)
    let z <-uk j ty
    let r <-re ty ps.toList (List.replicate n z)
    cS r.2.isEmpty
    kL (.one (.aG (.list ty) r.1)))
   |_=> .fail
 | .load t a=>do
  let i <-ti X t
  let cs <-CY i.size (<-lM a)
  cS (Nat.beq cs.length i.size)
  kL (<-CS i.d cs)
 | .store t a v=>do
  let i <-ti X t
  let cs <-oT (<-ev v)
  match i.d with
  | .array n _=>(do Mo n i.size cs (<-lM a))
  |_=>(match Df cs with
   |some (tt,sb,len)=>(do storeT i.size cs tt sb len (<-lM a))
   |none=>(do Al i.size cs (<-lM a)))
 | .nilCheck x=>do
  match <-lM x with
  | .ptr b o=>cM (.ptr b o)
  | .mD t b i o=>cM (.mD t b i o)
  | .ta t xs i o=>cM (.ta t xs i o)
  | .aG (.ptr t) x=> .ret {val:=some (.one (.ta t [x.getD t.Du] 0 0)),conds:=[x≠none]}
  |_=> .fail
 | .makeFunc (.func k) first pT=>(match first.toList with
  |[]=>do
   let vs <-sZ pT.toList
   let cs <-tO vs
   match has X.mclos k with
   |true=>do
    let bs <-CH cs
    cM (.iH k bs)
   |false=>do
    let ty <-RM.ofOption (find X.clos k)
    let y <-reify ty cs
    match <-AB y.2 with
    |true=>cM (.aG (.lN k ty) y.1)
    |false=> .ret {val:=some (.one (.aG (.lN k ty) y.1)),cn:=y.2}
  |_=> .fail)
 | .binOp op t x y _=>do
  let a <-ev x
  let b <-ev y
  match a,b with
  | .agg cs,.agg ds=>(do
   let i <-ti X t
   cS i.eq
   match op,i.d with
   | .eql,.struct fs=>(do cM (.aG .bool (<-nO X fs cs ds)))
   | .neq,.struct fs=>(do cM (.aG .bool (!(<-nO X fs cs ds))))
   |_,_=> .fail)
  | .one (.aG .bool _),.one (.aG .bool _)=>(do
   let i <-ti X t
   match i.d with
   | .bool=>L7 (has X.wraps d) op a b
   |_=> .fail)
  | .one c,.one .o6=>(do
   let i <-ti X t
   match i.d with
   | .vX=>Xl op c
   |_=> .fail)
  |_,_=>L7 (has X.wraps d) op a b
 | .unOp op _ x=>do
  match op,<-ev x with
  | .not,.one (.aG .bool b)=>cM (.aG .bool (!b))
  | .neg,.one (.aG (.int k) n)=>arith (has X.wraps d) k (0 - Ty.I n)
  |_,_=> .fail
 | .convert s t x=>do
  let i' <-ti X s
  let i <-ti X t
  match i'.d,i.d,<-ev x with
  | .int _,.int k,.one (.aG (.int j) n)=>(match GM j k with
   |true=>cM (.aG (.int k) n)
   |false=>cM (.aG (.int k) (k.wrap n)))
  | .slice e,.str,.one c=>(do
   let j <-ti X e
   match j.d with
   | .int .u8=>(do
    let ys <-Ot (.int .u8) c
    cM (.aG .str (ys.map fun(n:Int)=>UInt8.ofNat n.toNat)))
   |_=> .fail)
  |_,_,_=> .fail
 | .makeSlice t l c=>do
  let i <-ti X t
  match i.d with
  | .slice e=>(do
   let j <-ti X e
   let ty <-RM.ofOption j.ty
   let n <-Ci (<-ev l)
   let m <-Ci (<-ev c)
   let z <-uk j ty
   .ret {val:=some (.one (.row ty d)),cn:=[(d,.row false e ty (List.replicate n.toNat z))],new:=[d],conds:=[0<=n/\n<=m,roomFor m.toNat j.bytes/\m<=aM]})
  |_=> .fail
 | .makeMap t none=>do
  let ke <-qR X t
  let j <-ti X ke.1
  let l <-ti X ke.2
  let a <-RM.ofOption j.ty
  let b <-RM.ofOption l.ty
  .ret {val:=some (.one (.map a b d)),cn:=[(d,.map false a b [] none)],new:=[d]}
 | .lookup t x ix ok=>do
  let ke <-qR X t
  HT X ke.1 ke.2 ok ix (<-lM x)
 | .range t x=>do
  let _ <-qR X t
  Mx d (<-lM x)
 | .entry it=>do NJ (<-lM it)
 | .mapUpdate t m k v=>do
  let ke <-qR X t
  sf (fun n a b xs _=>do
   let x <-C0 X ke.1 a k
   let y <-J1 b n v
   .ret {cn:=y.2++[(n,.map false a b (df a xs x y.1) none)]}) (<-lM m)
 | .mapEntry t m k=>do
  let ke <-qR X t
  sf (fun n a b xs _=>do
   let x <-C0 X ke.1 a k
   let z <-G2 X ke.2 b
   .ret {val:=some (.yv [(b.isAgg,flat b ((aW a xs x).getD z)),(false,[.xo d])]),cn:=[(n,.map false a b (rA a xs x z) (some (d,jV a xs x)))],new:=[d]}) (<-lM m)
 | .entryStore _ m s v=>do
  let st <-Jl (<-lM s)
  sf (fun n a b xs cur=>match cur with
   |some (d',i)=>(do
    cS (Nat.beq st d')
    let y <-J1 b n v
    .ret {cn:=y.2++[(n,.map false a b (th xs i y.1) none)]})
   |none=> .fail) (<-lM m)
 | .slice t x lo hi none=>do
  let i <-ti X t
  let c <-lM x
  let l <-VF lo
  let h <-VF hi
  match i.d,c with
  | .slice e,.aG (.list tt) _=>(do
   let j <-ti X e
   cS (Nat.beq tt.size j.size)
   pP l h c)
  | .slice e,.row tt _=>(do
   let j <-ti X e
   cS (Nat.beq tt.size j.size)
   pP l h c)
  | .slice e,.sub tt _ _ _=>(do
   let j <-ti X e
   cS (Nat.beq tt.size j.size)
   pP l h c)
  | .str,.aG .str _=>pP l h c
  |_,_=> .fail
 | .fieldAddr s x f=>do
  let i <-ti X s
  match i.d with
  | .struct fs=>(match fs[f]? with
   |some (off,size,_)=>(do
    cS (Nat.blt 0 size)
    match <-lM x with
    | .ptr b o=>cM (.ptr b (o+off))
    | .mD t b i o=>cM (.mD t b i (o+off))
    | .ta t xs i o=>cM (.ta t xs i (o+off))
    |_=> .fail)
   |none=> .fail)
  |_=> .fail
 | .field s x f=>do
  let i <-ti X s
  match i.d,<-ev x with
  | .struct fs,.agg cs=>(match fs[f]? with
   |some (off,size,t)=>(do
    let j <-ti X t
    cS (Nat.ble (off+size) cs.length&&Nat.beq j.size size)
    kL (<-CS j.d ((cs.drop off).take size)))
   |none=> .fail)
  |_,_=> .fail
 | .indexAddr t x ix=>do
  let i <-ti X t
  match i.d with
  | .slice e=>(do
   let j <-ti X e
   let c <-lM x
   M6 j.size (<-Ci (<-ev ix)) c)
  | .array n e=>(do
   let j <-ti X e
   let c <-lM x
   M7 j.size n (<-Ci (<-ev ix)) c)
  |_=> .fail
 | .index t x ix=>do
  let i <-ti X t
  match i.d,<-ev x with
  | .str,.one (.aG .str s)=>(do
   let n <-Ci (<-ev ix)
   o2 (aL n ((Ty.S s).length)) (.aG (.int .u8) (((Ty.S s).getD n.toNat 0).toNat:Int)))
  | .array n e,.agg cs=>(do
   let j <-ti X e
   match j.d with
   | .int k=>(do
    cS (Nat.beq j.size 1&&Nat.beq n cs.length)
    let xs <-RM.ofOption (C8 k cs)
    let m <-Ci (<-ev ix)
    o2 (aL m xs.length) (.aG (.int k) (xs.getD m.toNat 0)))
   |_=> .fail)
  |_,_=> .fail
 | .extract x k=>do
  match <-ev x with
  | .yv vs=>(match vs[k]? with
   |some (true,cs)=>kL (.agg cs)
   |some (false,[c])=>cM c
   |_=> .fail)
  |_=> .fail
 | .call {callee:= .value (.func f),args,.. }=>do
  let dD <-RM.ofOption (X.dD f)
  let vs <-sZ args.toList
  dD.run vs d
 | .call {callee:= .value (.tmp f),args,.. }=>do
  match <-lM (.tmp f) with
  | .aG (.lN k ty) y=>(do
   let dD <-RM.ofOption (X.dD k)
   let vs <-sZ args.toList
   let us <-RM.ofOption (DA ty y)
   dD.run (vs++us) d)
  | .iH k bs=>(do
   let dD <-RM.ofOption (X.dD k)
   let vs <-sZ args.toList
   dD.run (vs++bs.map fun b=> .one (.ptr b 0)) d)
  |_=> .fail
 | .call {callee:= .builtin .len,args,argTypes}=>(match args.toList,argTypes.toList with
  |[x],[t]=>(do
   let i <-ti X t
   let c <-lM x
   match i.d,c with
   | .str,.aG .str _=>uQ c
   | .slice _,.aG (.list _) _=>uQ c
   | .slice _,.row _ _=>uQ c
   | .slice _,.sub _ _ _ _=>uQ c
   | .slice _,.kq=>uQ c
   |_,_=> .fail)
  |_,_=> .fail)
 | .call {callee:= .builtin .max,args,.. }=>(match args.toList with
  |[x,y]=>(do GI true (<-ev x) (<-ev y))
  |_=> .fail)
 | .call {callee:= .builtin .min,args,.. }=>(match args.toList with
  |[x,y]=>(do GI false (<-ev x) (<-ev y))
  |_=> .fail)
 | .call {callee:= .builtin .delete,args,argTypes}=>(match args.toList,argTypes.toList with
  |[m,k],[t,_]=>(do
   let ke <-qR X t
   sf (fun n a b xs _=>do
    let x <-C0 X ke.1 a k
    .ret {cn:=[(n,.map false a b (iV a xs x) none)]}) (<-lM m))
  |_,_=> .fail)
 | .call {callee:= .builtin .append,args,argTypes}=>(match args.toList,argTypes.toList with
  |[s,x],[t,u]=>(do
   cS (Nat.beq t u)
   let i <-ti X t
   match i.d with
   | .slice e=>(do
    let j <-ti X e
    let ty <-RM.ofOption j.ty
    let _ <-uk j ty
    let c <-lM s
    Jn d e j ty c (<-lM x))
   |_=> .fail)
  |_,_=> .fail)
 |_=> .fail
end Go.Vc
end

section
set_option linter.unusedVariables false
set_option linter.unusedSimpArgs false
namespace Go.Vc
open Go
variable {P:Program} {X:Ctx} {w0:World} {foot:gM} {base:Mem} {S:St} {E:Env} {a:Act} {w:World} {ctx:c9}
theorem b0 {α:Type} {x:Option α} {y:α} (h:(RM.ofOption x).run S ctx=some y):x=some y:=by
 cases x with
 |none=>cases h
 |some z=>exact h
theorem F6 {v:Value} {c:C} (h:GV v=some c):gV E c v:=by
 unfold GV at h
 split at h
 ·cases h;exact⟨rfl,rfl⟩
 ·split at h
  ·rename_i k n hk
   cases h
   simp only[Bool.and_eq_true,decide_eq_true_eq] at hk
   exact⟨rfl,rfl,hk⟩
  ·cases h
 ·split at h
  ·rename_i s hs
   cases h
   exact⟨rfl,rfl,Nat.le_of_ble_eq_true hs⟩
  ·cases h
 ·cases h;rfl
 ·cases h;rfl
 ·cases h;rfl
 ·cases h;rfl
 ·cases h
theorem nP:∀{vs:List Value} {cs:List C},mi vs=some cs->b7 E cs vs
 |[],cs,h=>by cases h;rfl
 |v::vs,cs,h=>by
  unfold mi at h
  split at h
  ·rename_i c YD h1 h2
   cases h
   exact⟨v,vs,rfl,F6 h1,nP h2⟩
  ·cases h
theorem NM {v:Value} {s:SV} (h:IS v=some s):fz E s v:=by
 unfold IS at h
 split at h
 ·obtain⟨cs,h1,rfl⟩:=Option.map_eq_some_iff.1 h
  exact⟨_,rfl,nP h1⟩
 ·obtain⟨c,h1,rfl⟩:=Option.map_eq_some_iff.1 h
  exact F6 h1
theorem br.sub {ts us:c9} (h:br a us) (hs:CA us ts=true):br a ts:=fun t ht=>h t (Fg hs t ht)
theorem IH (h:SRel w0 foot base S E a w) {ex:c9} {x:Operand} {s:SV} (hc:br a (ex++ctx)) (hr:(Sk ex x).run S ctx=some s):fz E s (a.eval x):=by
 unfold Sk at hr
 split at hr
 ·rename_i t
  simp only[RM.run] at hr
  split at hr
  ·rename_i tags v hf
   split at hr
   ·rename_i ht
    cases hr
    exact h.ib _ _ _ hf (hc.sub ht)
   ·cases hr
  ·cases hr
 ·exact NM (b0 hr)
 ·cases hr
  exact⟨rfl, #[],rfl,rfl⟩
 ·cases hr
theorem gi (h:SRel w0 foot base S E a w) {x:Operand} {s:SV} (hc:br a ctx) (hr:(ev x).run S ctx=some s):fz E s (a.eval x):=
 IH h (ex:=[]) hc hr
theorem Qt {s:SV} {c:C} {v:Value} (hv:fz E s v) (hr:(asC s).run S ctx=some c):gV E c v:=by
 unfold asC at hr
 split at hr
 ·cases hr;exact hv
 ·cases hr
theorem gu (h:SRel w0 foot base S E a w) {x:Operand} {c:C} (hc:br a ctx) (hr:(lM x).run S ctx=some c):gV E c (a.eval x):=by
 obtain⟨s,h1,h2⟩:=RM.run_bind' hr
 exact Qt (gi h hc h1) h2
theorem NY {s:SV} {cs:List C} {v:Value} (hv:fz E s v) (hr:(oT s).run S ctx=some cs):b7 E cs v.cells.toList:=by
 unfold oT at hr
 split at hr
 ·cases hr
  have hv:gV E _ v:=hv
  rw[Value.Cb hv.oK]
  exact⟨v,[],rfl,hv,rfl⟩
 ·cases hr
  obtain⟨vs,rfl,hv⟩:=hv
  exact hv
 ·cases hr
theorem pe (h:SRel w0 foot base S E a w) {x:Operand} {cs:List C} (hc:br a ctx) {s:SV} (h1:(ev x).run S ctx=some s) (hr:(oT s).run S ctx=some cs):
  b7 E cs (a.eval x).cells.toList:=NY (gi h hc h1) hr
theorem z8 {s:SV} {b:Bool} {v:Value} (hv:fz E s v) (hr:(JW s).run S ctx=some b):v= .bool b:=by
 unfold JW at hr
 split at hr
 ·cases hr
  have:=hv.2
  simpa [dj] using this
 ·cases hr
theorem vf {s:SV} {n:Int} {v:Value} (hv:fz E s v) (hr:(Ci s).run S ctx=some n):∃k,v= .int k n/\bo k n:=by
 unfold Ci at hr
 split at hr
 ·rename_i k n
  cases hr
  have:=hv.2
  exact⟨k,by simpa using this.1,this.2⟩
 ·cases hr
def cE (fr:ij) (bl:List (Nat×c7)):List (Nat×c7):=fr.foldl (fun l p=>put l p.1 p.2) bl
def ft (bl:List (Nat×c7)) (E:Env) (w:World) (fr:ij):Prop:=
 ∀q∈fr,∃p,E.place q.1=some p/\gg E w p q.2
def rj (pre:ij) (B D:c7):Prop:=
 (∃f e t xs,D= .row true e t xs/\B= .row f e t xs)\/
 (∃t x,D= .iA t x/\(B= .iA t x\/∃cs g,B= .cells cs/\(∀q∈g,q∈pre)/\∀(E:Env) (w:World) (vs:List Value),b7 E cs vs->ft [] E w g->dj E.F t x vs))\/
 (∃f a b m c,D= .map true a b m none/\B= .map f a b m c)
theorem rj.again {pre:ij} {B D:c7} (h:rj pre B D):rj pre D D:=by
 rcases h with ⟨f,e,t,xs,rfl,rfl⟩|⟨t,x,rfl,h⟩|⟨f,a,b,m,c,rfl,rfl⟩
 ·exact .inl ⟨_,_,_,_,rfl,rfl⟩
 ·exact .inr (.inl ⟨_,_,rfl,.inl rfl⟩)
 ·exact .inr (.inr ⟨_,_,_,_,_,rfl,rfl⟩)
theorem rj.mono {pre pre':ij} (hp:∀q∈pre,q∈pre') {B D:c7} (h:rj pre B D):rj pre' B D:=by
 rcases h with h|⟨t,x,rfl,rfl|⟨cs,g,h1,h2,h3⟩⟩|h
 ·exact .inl h
 ·exact .inr (.inl ⟨_,_,rfl,.inl rfl⟩)
 ·exact .inr (.inl ⟨_,_,rfl,.inr ⟨cs,g,h1,fun q hq=>hp q (h2 q hq),h3⟩⟩)
 ·exact .inr (.inr h)
structure Ju (done:ij) (bl:List (Nat×c7)) (fr:ij):Prop where
 at_:∀l1 p l2,fr=l1++p::l2->∃B,find bl p.1=some B/\rj (done++l1) B p.2
 Gv:∀p∈done++fr,∀q∈done++fr,p.1=q.1->p.2=q.2
 Yo:∀q∈done,find bl q.1=some q.2
abbrev kV (bl:List (Nat×c7)) (fr:ij):Prop:=Ju [] bl fr
theorem kV.nil {bl:List (Nat×c7)}:kV bl [] where
 at_ l1 p l2 h:=by cases l1<;>cases h
 Gv p hp:=by cases hp
 Yo q hq:=by cases hq
theorem kV.one {bl:List (Nat×c7)} {n:Nat} {B D:c7} (hf:find bl n=some B) (hF:rj [] B D):kV bl [(n,D)] where
 at_ l1 p l2 h:=by
  cases l1 with
  |nil=>cases h;exact⟨B,hf,hF⟩
  |cons a l=>cases l<;>cases h
 Gv p hp q hq _:=by
  simp only[List.nil_append,List.mem_singleton] at hp hq
  rw[hp,hq]
 Yo q hq:=by cases hq
theorem Ju.tail {done:ij} {bl:List (Nat×c7)} {p:Nat×c7} {fr:ij} (ho:Ju done bl (p::fr)):Ju (done++[p]) (put bl p.1 p.2) fr where
 at_ l1 q l2 h:=by
  obtain⟨B,h1,h2⟩:=ho.at_ (p::l1) q l2 (by rw[h];rfl)
  have h2:rj (done++[p]++l1) B q.2:=by rw[List.append_assoc];exact h2
  by_cases hb:p.1=q.1
  ·have e:=ho.Gv p (by simp) q (by rw[h];simp) hb
   exact⟨p.2,by rw[<-hb,bP],e▸h2.again⟩
  ·exact⟨B,by rw[bn _ _ _ _ hb];exact h1,h2⟩
 Gv q hq r hr:=ho.Gv q (by simpa using hq) r (by simpa using hr)
 Yo q hq:=by
  rcases List.mem_append.1 hq with hq|hq
  ·by_cases hb:p.1=q.1
   ·have e:=ho.Gv p (by simp) q (by simp[hq]) hb
    rw[<-hb,bP,e]
   ·rw[bn _ _ _ _ hb]
    exact ho.Yo q hq
  ·rw[List.mem_singleton.1 hq,bP]
theorem As:∀{g:ij} {m:Nat},vA g m=true->∀q∈g,q.1≠m
 |[],_,_,q,hq=>by cases hq
 |(k,B)::g,m,h,q,hq=>by
  unfold vA at h
  split at h
  ·cases h
  ·rename_i hb
   rcases List.mem_cons.1 hq with rfl|hq
   ·intro e;simp only at e;subst e;simp at hb
   ·exact As h q hq
theorem ya:∀{f g:ij},DR f g=true->∀p∈f,∀q∈g,p.1=q.1->Xy p.2=false
 |[],_,_,p,hp=>by cases hp
 |(m,B)::f,g,h,p,hp=>by
  simp only[DR,Bool.and_eq_true,Bool.or_eq_true,Bool.not_eq_true'] at h
  rcases List.mem_cons.1 hp with rfl|hp
  ·intro q hq e
   rcases h.1 with h1|h1
   ·exact h1
   ·exact absurd e.symm (As h1 q hq)
  ·exact ya h.2 p hp
theorem rj.Gv {pre pre':ij} {B D D':c7} (h:rj pre B D) (k:rj pre' B D') (hD:Xy D=false) (Vr:Xy D'=false):D=D':=by
 rcases h with ⟨f,e,t,xs,rfl,rfl⟩|⟨t,x,rfl,_⟩|⟨f,a,b,m,c,rfl,rfl⟩
 ·rcases k with ⟨f,e,t,xs,rfl,k⟩|⟨t,x,rfl,_⟩|⟨f,a,b,m,c',rfl,k⟩
  ·cases k;rfl
  ·cases Vr
  ·cases k
 ·cases hD
 ·rcases k with ⟨f,e,t,xs,rfl,k⟩|⟨t,x,rfl,_⟩|⟨f,a,b,m,c',rfl,k⟩
  ·cases k
  ·cases Vr
  ·cases k;rfl
theorem kV.append {bl:List (Nat×c7)} {f g:ij} (h:kV bl f) (k:kV bl g) (ha:pb f g=true):kV bl (f++g):=by
 simp only[pb,Bool.and_eq_true] at ha
 have at1:∀{f:ij},kV bl f->∀p∈f,∃B pre,find bl p.1=some B/\rj pre B p.2:=fun {f} h p hp=>by
  obtain⟨l1,l2,e⟩:=List.append_of_mem hp
  obtain⟨B,h1,h2⟩:=h.at_ l1 p l2 e
  exact⟨B,_,h1,h2⟩
 have IQ:∀p∈f,∀q∈g,p.1=q.1->p.2=q.2:=fun p hp q hq e=>by
  obtain⟨B,_,h1,h2⟩:=at1 h p hp
  obtain⟨B',_,h3,h4⟩:=at1 k q hq
  rw[e,h3] at h1
  cases h1
  exact h2.Gv h4 (ya ha.1 p hp q hq e) (ya ha.2 q hq p hp e.symm)
 refine⟨fun l1 p l2 e=> ?_,fun p hp q hq e=> ?_,fun q hq=>by cases hq⟩
 ·rcases List.append_eq_append_iff.1 e with ⟨l,e1,e2⟩|⟨l,e1,e2⟩
  ·obtain⟨B,h1,h2⟩:=k.at_ l p l2 e2
   exact⟨B,h1,h2.mono fun q hq=>by rw[e1];simp only[List.nil_append] at hq ⊢;exact List.mem_append_right _ hq⟩
  ·cases l with
   |nil=>
    obtain⟨B,h1,h2⟩:=k.at_ [] p l2 (by simpa using e2.symm)
    exact⟨B,h1,h2.mono fun q hq=>by cases hq⟩
   |cons r l=>
    simp only[List.cons_append,List.cons.injEq] at e2
    obtain⟨rfl,_⟩:=e2
    obtain⟨B,h1,h2⟩:=h.at_ l1 p l e1
    exact⟨B,h1,h2⟩
 ·simp only[List.nil_append] at hp hq
  rcases List.mem_append.1 hp with hp|hp
  ·rcases List.mem_append.1 hq with hq|hq
   ·exact h.Gv p hp q hq e
   ·exact IQ p hp q hq e
  ·rcases List.mem_append.1 hq with hq|hq
   ·exact(IQ q hq p hp e.symm).symm
   ·exact k.Gv p hp q hq e
theorem kV.nest {bl:List (Nat×c7)} {g:ij} {b:Nat} {cs:List C} {t:Ty} {x:t.den} (h:kV bl g) (hb:find bl b=some (.cells cs)) (hg:vA g b=true)
  (hr:∀(E:Env) (w:World) (vs:List Value),b7 E cs vs->ft [] E w g->dj E.F t x vs):kV bl (g++[(b,.iA t x)]):=by
 have uU:=As hg
 refine⟨fun l1 p l2 e=> ?_,fun p hp q hq e=> ?_,fun q hq=>by cases hq⟩
 ·rcases List.append_eq_append_iff.1 e with ⟨l,e1,e2⟩|⟨l,e1,e2⟩
  ·cases l with
   |nil=>
    simp only[List.nil_append,List.cons.injEq] at e2
    obtain⟨rfl,_⟩:=e2
    exact⟨_,hb,.inr (.inl ⟨t,x,rfl,.inr ⟨cs,g,rfl,fun q hq=>by rw[e1];simpa using hq,hr⟩⟩)⟩
   |cons r l=>cases l<;>cases e2
  ·cases l with
   |nil=>
    simp only[List.nil_append,List.cons.injEq] at e2
    obtain⟨rfl,_⟩:=e2
    refine⟨_,hb,.inr (.inl ⟨t,x,rfl,.inr ⟨cs,g,rfl,fun q hq=> ?_,hr⟩⟩)⟩
    rw[e1] at hq;simpa using hq
   |cons r l=>
    simp only[List.cons_append,List.cons.injEq] at e2
    obtain⟨rfl,_⟩:=e2
    exact h.at_ l1 p l e1
 ·simp only[List.nil_append,List.mem_append,List.mem_singleton] at hp hq
  rcases hp with hp|rfl
  ·rcases hq with hq|rfl
   ·exact h.Gv p hp q hq e
   ·exact absurd e (uU p hp)
  ·rcases hq with hq|rfl
   ·exact absurd e.symm (uU q hq)
   ·rfl
theorem HRel.Vu {bl:List (Nat×c7)} {used:List Nat} (h:HRel w0 foot base bl used E w) {id:Nat} {B D:c7} {pre:ij} (hf:find bl id=some B) (hF:rj pre B D) (hg:∀q∈pre,find bl q.1=some q.2):
  ∃E',E.le E'/\E'.place=E.place/\(∀b o,E'.F b=some o->E.F b=some o\/(w.heap[b]? =some o/\(∃p,E.place id=some p/\p.nil=false/\p.bp=b)))/\HRel w0 foot base (put bl id D) used E' w:=by
 rcases hF with ⟨f,e,t,xs,rfl,rfl⟩|⟨t,x,rfl,rfl|⟨cs,g,rfl,hgp,hr⟩⟩|⟨f,a,b,m,c,rfl,rfl⟩
 ·exact h.freeze hf
 ·refine⟨E,.refl _,rfl,fun _ _ h=> .inl h,h.congr (fun i D hi=> ?_) (fun _ h=>h)⟩
  by_cases e:i=id
  ·subst e;rw[bP] at hi;rw[<-hi];exact hf
  ·rwa [bn _ _ _ _ (Ne.symm e)] at hi
 ·exact h.Ny hf fun vs hv=>hr E w vs hv fun q hq=>h.cn _ _ (hg q (hgp q hq))
 ·exact h.Iw hf
theorem HRel.Ge {used:List Nat}:∀{fr done:ij} {bl:List (Nat×c7)} {E:Env},HRel w0 foot base bl used E w->Ju done bl fr->
  ∃E',E.le E'/\E'.place=E.place/\(∀b o,E'.F b=some o->E.F b=some o\/(w.heap[b]? =some o/\∃q∈fr,∃p,E.place q.1=some p/\p.nil=false/\p.bp=b))/\HRel w0 foot base (cE fr bl) used E' w
 |[],_,_,E,h,_=>⟨E,.refl _,rfl,fun _ _ h=> .inl h,h⟩
 |q::fr,done,bl,E,h,ho=>by
  obtain⟨B,h3,h4⟩:=ho.at_ [] q fr rfl
  have aiH:=ho.Yo
  have ho:=ho.tail
  obtain⟨E1,l1,p1,f1,h1⟩:=h.Vu h3 h4 (by simpa using aiH)
  obtain⟨E2,l2,p2,f2,h2⟩:=HRel.Ge h1 ho
  refine⟨E2,l1.trans l2,p2.trans p1,fun b o hb=> ?_,h2⟩
  rcases f2 b o hb with h5|⟨h5,q',nr,p,h6⟩
  ·rcases f1 b o h5 with h5|⟨h5,p,h6⟩
   ·exact .inl h5
   ·exact .inr ⟨h5,q,List.mem_cons_self,p,h6⟩
  ·exact .inr ⟨h5,q',List.mem_cons_of_mem _ nr,p,p1▸h6⟩
theorem HRel.cE {used:List Nat} {fr:ij} {bl:List (Nat×c7)} {E:Env} (h:HRel w0 foot base bl used E w) (ho:kV bl fr):
  ∃E',E.le E'/\E'.place=E.place/\(∀b o,E'.F b=some o->E.F b=some o\/(w.heap[b]? =some o/\∃q∈fr,∃p,E.place q.1=some p/\p.nil=false/\p.bp=b))/\HRel w0 foot base (cE fr bl) used E' w:=
 HRel.Ge h ho
theorem u0 {q:Nat×c7}:∀{fr:ij} {bl:List (Nat×c7)},(∀p∈fr,p.1=q.1->p.2=q.2)->(find bl q.1=some q.2\/q∈fr)->find (cE fr bl) q.1=some q.2
 |[],bl,_,h=>by
  rcases h with h|h
  ·exact h
  ·cases h
 |r::fr,bl,hd,h=>by
  show find (Vc.cE fr (put bl r.1 r.2)) q.1=_
  refine u0 (fun p hp=>hd p (List.mem_cons_of_mem _ hp)) ?_
  by_cases hb:r.1=q.1
  ·left
   rw[<-hb,bP,hd r List.mem_cons_self hb]
  ·rw[bn _ _ _ _ hb]
   rcases h with h|h
   ·exact .inl h
   ·rcases List.mem_cons.1 h with rfl|h
    ·exact absurd rfl hb
    ·exact .inr h
theorem ft.qi {bl:List (Nat×c7)} {used:List Nat} {fr:ij} (ho:kV bl fr) (h:HRel w0 foot base (cE fr bl) used E w):ft bl E w fr:=fun q hq=>by
 obtain⟨p,hp,hB⟩:=h.cn q.1 q.2 (u0 (fun p hp e=>ho.Gv p (by simpa using hp) q (by simpa using hq) e) (.inr hq))
 exact⟨p,hp,hB⟩
theorem AO {F:Mem} {t t':Ty} {x:t.den} {y:t'.den} {vs:List Value} (h:Ty.as t' x=some y) (hr:dj F t x vs):dj F t' y vs:=by
 obtain⟨e,rfl⟩:=Ty.iQ h
 subst e
 exact hr
theorem Hq {p:Place} {e:Nat} {t:Ty} {xs:List t.den} (hB:gg E w p (.row true e t xs)) (lo len:Nat) (hl:lo+len<=p.len) {v:Value}
  (hv:(p.nil=true/\v= .slice none 0 0)\/(p.nil=false/\∃a:Addr,v= .slice (some a) len (p.cap - lo)/\(lo=p.cap\/a=⟨p.bp,lo*t.size,none⟩))):
  dj E.F (.list t) (lit ((xs.drop lo).take len)) [v]:=by
 rcases hB with ⟨hn,hx,hz⟩|⟨hn,h0,⟨h1,nY⟩,vs,h2,h3,h4,h5⟩
 ·rcases hv with ⟨_,rfl⟩|⟨dB,_⟩
  ·subst hx
   have BW:len=0:=by omega
   subst BW
   refine⟨none,0,by simp[lit],by simp[lit],by simp[aM],fun _=>rfl,fun p hp=>by cases hp⟩
  ·rw[hn] at dB;cases dB
 ·rcases hv with ⟨dB,_⟩|⟨_,a,rfl,ha⟩
  ·rw[hn] at dB;cases dB
  ·have hlen:(Ty.L (t:=t) (lit ((xs.drop lo).take len))).length=len:=by simp[lit,h1];omega
   refine⟨some a,p.cap - lo,by rw[hlen],by rw[hlen];omega,by omega,(fun h=>by cases h),fun p' hp i x hx=> ?_⟩
   cases hp
   have hi:i<len:=by
    have:=(List.getElem?_eq_some_iff.1 hx).1
    omega
   have XI:xs[lo+i]? =some x:=by
    have Pw:((xs.drop lo).take len)[i]? =some x:=hx
    rw[List.getElem?_take_of_lt hi,List.getElem?_drop] at Pw
    exact Pw
   rcases ha with ha|rfl
   ·omega
   ·obtain⟨us,k1,k2,k3⟩:=h5 _ x XI
    refine⟨rfl,us,k1,k2,fun j u hu=>⟨vs,e,(0,0),h4 rfl,?_⟩⟩
    have:=k3 j u hu
    rw[show lo*t.size+(i*t.size+j)=(lo+i)*t.size+j by rw[Nat.add_mul];omega]
    exact this
theorem Kw {t:Ty} (xs:List t.den):(xs.drop 0).take xs.length=xs:=by simp
theorem kY {t:Ty} {c:C} {x:t.den} {fr:ij} (hr:(oZ t c).run S ctx=some (x,fr)):kV S.bl fr:=by
 unfold oZ at hr
 split at hr
 ·obtain⟨y,_,h2⟩:=RM.run_bind' hr
  cases RM.run_pure' h2
  exact .nil
 ·simp only[RM.run] at hr
  split at hr
  ·rename_i B hf
   split at hr
   ·split at hr
    ·obtain⟨y,_,h2⟩:=RM.run_bind' hr
     cases RM.run_pure' h2
     exact .one hf (.inl ⟨_,_,_,_,rfl,rfl⟩)
    ·cases hr
   ·cases hr
  ·cases hr
 ·simp only[RM.run] at hr
  split at hr
  ·rename_i B hf
   split at hr
   ·split at hr
    ·obtain⟨y,_,h2⟩:=RM.run_bind' hr
     cases RM.run_pure' h2
     exact .one hf (.inl ⟨_,_,_,_,rfl,rfl⟩)
    ·cases hr
   ·cases hr
  ·cases hr
 ·split at hr
  ·cases hr;exact .nil
  ·cases hr
 ·split at hr
  ·cases hr;exact .nil
  ·cases hr
 ·simp only[RM.run] at hr
  split at hr
  ·rename_i B hf
   split at hr
   ·obtain⟨y,_,h2⟩:=RM.run_bind' hr
    cases RM.run_pure' h2
    exact .one hf (.inr (.inr ⟨_,_,_,_,_,rfl,rfl⟩))
   ·cases hr
  ·cases hr
 ·split at hr
  ·cases hr;exact .nil
  ·cases hr
 ·cases hr
theorem bR {b:Bool} {u:Unit} (h:(cS b).run S ctx=some u):b=true:=by
 unfold cS at h
 split at h
 ·rfl
 ·cases h
theorem ft.nil {bl:List (Nat×c7)}:ft bl E w []:=fun q hq=>(by cases hq)
theorem Xr {p:Place} {a b:Ty} {m:List (a.den×b.den)} {c:Option (Nat×Nat)} (hB:gg E w p (.map true a b m c)) {v:Value} (hv:v= .map (some p.bp)):dj E.F (.map a b) m [v]:=by
 obtain⟨_,es,cl,k1,k2,m0,k0,k3,_⟩:=hB
 refine⟨some p.bp,by rw[hv],(fun h=>by cases h),fun q hq=> ?_⟩
 cases hq
 exact⟨m0,es,cl,k0,k2 rfl,k3.stamps,k3.keys,k3.size,k3.at_⟩
theorem OP {t:Ty} {c:C} {x:t.den} {fr:ij} {v:Value} (hr:(oZ t c).run S ctx=some (x,fr)) (hv:gV E c v) (hf:ft S.bl E w fr):dj E.F t x [v]:=by
 unfold oZ at hr
 split at hr
 ·obtain⟨y,h1,h2⟩:=RM.run_bind' hr
  cases RM.run_pure' h2
  exact AO (b0 h1) hv.2
 ·rename_i tt b
  simp only[RM.run] at hr
  split at hr
  ·rename_i B hB
   split at hr
   ·rename_i f e t' xs
    split at hr
    ·rename_i ht
     obtain⟨y,h1,h2⟩:=RM.run_bind' hr
     cases RM.run_pure' h2
     refine AO (b0 h1) ?_
     obtain⟨p,hp,zD⟩:=hf (b,.row true e t' xs) (by simp)
     obtain⟨p',dn,k⟩:=hv
     rw[hp] at dn
     cases dn
     have hlen:p.len=xs.length:=by
      rcases zD with ⟨_,hx,hz⟩|⟨_,_,⟨h1,_⟩,_⟩
      ·subst hx;exact hz
      ·exact h1.symm
     have:=Hq (lo:=0) (len:=xs.length) zD (by omega) (v:=v) (by
      rcases k with ⟨hn,hv,_⟩|⟨hn,hv,_⟩
      ·exact .inl ⟨hn,hv⟩
      ·exact .inr ⟨hn,_,by rw[hv,hlen];rfl,.inr (by simp)⟩)
     rwa [Kw] at this
    ·cases hr
   ·cases hr
  ·cases hr
 ·rename_i tt b lo len
  simp only[RM.run] at hr
  split at hr
  ·rename_i B hB
   split at hr
   ·rename_i f e t' xs
    split at hr
    ·rename_i ht
     have ht:=Ty.beq_eq ht
     subst ht
     obtain⟨y,h1,h2⟩:=RM.run_bind' hr
     cases RM.run_pure' h2
     refine AO (b0 h1) ?_
     obtain⟨p,hp,zD⟩:=hf (b,.row true e tt xs) (by simp)
     obtain⟨p',dn,hl,k⟩:=hv
     rw[hp] at dn
     cases dn
     refine Hq zD lo len hl ?_
     rcases k with ⟨hn,hv,_⟩|⟨hn,a,hv,_,_,h⟩
     ·exact .inl ⟨hn,hv⟩
     ·exact .inr ⟨hn,a,hv,h⟩
    ·cases hr
   ·cases hr
  ·cases hr
 ·split at hr
  ·cases hr
   have hv:v=_:=hv
   subst hv
   exact⟨none,0,rfl,Nat.le_refl _,by simp[aM],fun _=>rfl,fun p hp=>by cases hp⟩
  ·cases hr
 ·split at hr
  ·cases hr
   have hv:v=_:=hv
   subst hv
   exact .inl ⟨rfl,rfl⟩
  ·cases hr
 ·rename_i a b n
  simp only[RM.run] at hr
  split at hr
  ·rename_i B hB
   split at hr
   ·rename_i f a' b' m c
    obtain⟨y,h1,h2⟩:=RM.run_bind' hr
    cases RM.run_pure' h2
    refine AO (b0 h1) ?_
    obtain⟨p,hp,zD⟩:=hf (n,.map true a' b' m none) (by simp)
    obtain⟨p',dn,hn,hv⟩:=hv
    rw[hp] at dn
    cases dn
    exact Xr zD hv
   ·cases hr
  ·cases hr
 ·split at hr
  ·cases hr
   have hv:v=_:=hv
   subst hv
   exact⟨none,rfl,fun _=>rfl,fun n hn=>by cases hn⟩
  ·cases hr
 ·cases hr
theorem ft.left {bl:List (Nat×c7)} {f g:ij} (h:ft bl E w (f++g)):ft bl E w f:=fun q hq=>h q (List.mem_append_left _ hq)
theorem ft.right {bl:List (Nat×c7)} {f g:ij} (h:ft bl E w (f++g)):ft bl E w g:=fun q hq=>h q (List.mem_append_right _ hq)
theorem one_cell {t:Ty} {c:C} {x:t.den} {fr:ij} {vs:List Value} (hr:(oZ t c).run S ctx=some (x,fr)) (hv:b7 E [c] vs) (hf:ft S.bl E w fr):dj E.F t x vs:=by
 obtain⟨v,us,rfl,h1,h2⟩:=hv
 rw[show us=[] from h2]
 exact OP hr h1 hf
theorem IL {t t':Ty} {xs:List t'.den} {i:Nat} {x:t.den} {v:Value} (hv:gV E (.ta t' xs i 0) v) (hx:Ty.as (a:=t') t (DQ xs i)=some x):dj E.F (.ref t) x [v]:=by
 obtain⟨hi,b,off,rfl,k⟩:=hv
 obtain⟨us,k1,k2,k3⟩:=k i (DQ xs i) (by unfold DQ;rw[List.getD_eq_getElem?_getD,List.getElem?_eq_getElem hi];rfl)
 have hr:=AO hx k1
 obtain⟨e,_⟩:=Ty.iQ hx
 subst e
 exact⟨b,off+(i*t'.size+0),rfl,us,hr,k2,fun j u hu=>by simpa [Nat.add_assoc] using k3 j u hu⟩
theorem vM {t t':Ty} {b:Nat} {y:t'.den} {x:t.den} {v:Value} (hv:gV E (.ptr b 0) v) (hf:ft S.bl E w [(b,.iA t' y)]) (hx:Ty.as (a:=t') t y=some x):dj E.F (.ref t) x [v]:=by
 obtain⟨p,hp,hB⟩:=hf (b,.iA t' y) (by simp)
 obtain⟨p',dn,hn,rfl⟩:=hv
 rw[hp] at dn
 cases dn
 obtain⟨_,vs,e,h1,h2,h3⟩:=hB
 have hr:=AO hx h3
 exact⟨p.bp,0,rfl,vs.toList,hr,hr.length,fun j u hu=>⟨vs,e,(0,0),h2,by simpa using hu⟩⟩
theorem dj.yY {F:Mem} {t:Ty} {x:t.den} {vs:List Value} (h:dj F (.ref t) x vs):dj F (.ptr t) (some x) vs:=by
 obtain⟨b,off,h0,h1⟩:=h
 exact .inr ⟨x,rfl,b,off,h0,h1⟩
theorem jB {c:C} {vs:List Value} (hv:b7 E [c] vs):∃v,vs=[v]/\gV E c v:=by
 obtain⟨v,us,rfl,h1,h2⟩:=hv
 exact⟨v,by rw[show us=[] from h2],h1⟩
theorem jA:∀{t:Ty} {cs:List C} {x:t.den} {fr:ij} {E:Env} {vs:List Value},(reify t cs).run S ctx=some (x,fr)->b7 E cs vs->ft S.bl E w fr->dj E.F t x vs
 | .unit,cs,x,fr,E,vs,hr,hv,hf=>by
  unfold reify at hr
  split at hr
  ·exact hv
  ·cases hr
 | .pair t u,cs,x,fr,E,vs,hr,hv,hf=>by
  unfold reify at hr
  obtain⟨⟨y,f⟩,h1,h2⟩:=RM.run_bind' hr
  obtain⟨⟨z,g⟩,h3,h4⟩:=RM.run_bind' h2
  obtain⟨_,h5,h6⟩:=RM.run_bind' h4
  cases RM.run_pure' h6
  exact⟨vs.take t.size,vs.drop t.size,(List.take_append_drop _ _).symm,jA h1 (hv.take _) hf.left,jA h3 (hv.drop _) hf.right⟩
 | .int k,cs,x,fr,E,vs,hr,hv,hf=>by
  unfold reify at hr
  split at hr
  ·exact one_cell hr hv hf
  ·cases hr
 | .bool,cs,x,fr,E,vs,hr,hv,hf=>by
  unfold reify at hr
  split at hr
  ·exact one_cell hr hv hf
  ·cases hr
 | .str,cs,x,fr,E,vs,hr,hv,hf=>by
  unfold reify at hr
  split at hr
  ·exact one_cell hr hv hf
  ·cases hr
 | .list t,cs,x,fr,E,vs,hr,hv,hf=>by
  unfold reify at hr
  split at hr
  ·exact one_cell hr hv hf
  ·cases hr
 | .lN k t,cs,x,fr,E,vs,hr,hv,hf=>by
  unfold reify at hr
  split at hr
  ·exact one_cell hr hv hf
  ·cases hr
 | .map a b,cs,x,fr,E,vs,hr,hv,hf=>by
  unfold reify at hr
  split at hr
  ·exact one_cell hr hv hf
  ·cases hr
 | .ref t,cs,x,fr,E,vs,hr,hv,hf=>by
  unfold reify at hr
  split at hr
  ·split at hr
   ·rename_i ho
    have ho:=Nat.eq_of_beq_eq_true ho
    subst ho
    obtain⟨y,h1,h2⟩:=RM.run_bind' hr
    cases RM.run_pure' h2
    obtain⟨v,rfl,rp⟩:=jB hv
    exact IL rp (b0 h1)
   ·cases hr
  ·split at hr
   ·rename_i ho
    have ho:=Nat.eq_of_beq_eq_true ho
    subst ho
    obtain⟨v,rfl,rp⟩:=jB hv
    simp only[RM.run] at hr
    split at hr
    ·split at hr
     ·obtain⟨⟨y,f⟩,h1,h2⟩:=RM.run_bind' hr
      obtain⟨_,h3,h4⟩:=RM.run_bind' h2
      cases RM.run_pure' h4
      exact vM rp hf.right (Ty.Qs y)
     ·obtain⟨y,h1,h2⟩:=RM.run_bind' hr
      cases RM.run_pure' h2
      exact vM rp hf (b0 h1)
     ·cases hr
    ·cases hr
   ·cases hr
  ·exact one_cell hr hv hf
  ·cases hr
 | .ptr t,cs,x,fr,E,vs,hr,hv,hf=>by
  unfold reify at hr
  split at hr
  ·split at hr
   ·rename_i ho
    have ho:=Nat.eq_of_beq_eq_true ho
    subst ho
    obtain⟨y,h1,h2⟩:=RM.run_bind' hr
    cases RM.run_pure' h2
    obtain⟨v,rfl,rp⟩:=jB hv
    exact(IL rp (b0 h1)).yY
   ·cases hr
  ·split at hr
   ·rename_i ho
    have ho:=Nat.eq_of_beq_eq_true ho
    subst ho
    obtain⟨v,rfl,rp⟩:=jB hv
    simp only[RM.run] at hr
    split at hr
    ·split at hr
     ·obtain⟨⟨y,f⟩,h1,h2⟩:=RM.run_bind' hr
      obtain⟨_,h3,h4⟩:=RM.run_bind' h2
      cases RM.run_pure' h4
      exact(vM rp hf.right (Ty.Qs y)).yY
     ·obtain⟨y,h1,h2⟩:=RM.run_bind' hr
      cases RM.run_pure' h2
      exact(vM rp hf (b0 h1)).yY
     ·cases hr
    ·cases hr
   ·cases hr
  ·exact one_cell hr hv hf
  ·cases hr
theorem gD:∀{t:Ty} {cs:List C} {x:t.den} {fr:ij},(reify t cs).run S ctx=some (x,fr)->kV S.bl fr
 | .unit,cs,x,fr,hr=>by
  unfold reify at hr
  split at hr
  ·cases hr;exact .nil
  ·cases hr
 | .pair t u,cs,x,fr,hr=>by
  unfold reify at hr
  obtain⟨⟨y,f⟩,h1,h2⟩:=RM.run_bind' hr
  obtain⟨⟨z,g⟩,h3,h4⟩:=RM.run_bind' h2
  obtain⟨_,h5,h6⟩:=RM.run_bind' h4
  cases RM.run_pure' h6
  exact(gD h1).append (gD h3) (bR h5)
 | .int k,cs,x,fr,hr=>by
  unfold reify at hr
  split at hr
  ·exact kY hr
  ·cases hr
 | .bool,cs,x,fr,hr=>by
  unfold reify at hr
  split at hr
  ·exact kY hr
  ·cases hr
 | .str,cs,x,fr,hr=>by
  unfold reify at hr
  split at hr
  ·exact kY hr
  ·cases hr
 | .list t,cs,x,fr,hr=>by
  unfold reify at hr
  split at hr
  ·exact kY hr
  ·cases hr
 | .lN k t,cs,x,fr,hr=>by
  unfold reify at hr
  split at hr
  ·exact kY hr
  ·cases hr
 | .map a b,cs,x,fr,hr=>by
  unfold reify at hr
  split at hr
  ·exact kY hr
  ·cases hr
 | .ref t,cs,x,fr,hr=>by
  unfold reify at hr
  split at hr
  ·split at hr
   ·obtain⟨y,h1,h2⟩:=RM.run_bind' hr
    cases RM.run_pure' h2
    exact .nil
   ·cases hr
  ·split at hr
   ·simp only[RM.run] at hr
    split at hr
    ·rename_i hB
     split at hr
     ·obtain⟨⟨y,f⟩,h1,h2⟩:=RM.run_bind' hr
      obtain⟨_,h3,h4⟩:=RM.run_bind' h2
      cases RM.run_pure' h4
      exact(gD h1).nest hB (bR h3) fun E w vs hv hf=>jA (w:=w) h1 hv hf
     ·obtain⟨y,h1,h2⟩:=RM.run_bind' hr
      cases RM.run_pure' h2
      exact .one hB (.inr (.inl ⟨_,_,rfl,.inl rfl⟩))
     ·cases hr
    ·cases hr
   ·cases hr
  ·exact kY hr
  ·cases hr
 | .ptr t,cs,x,fr,hr=>by
  unfold reify at hr
  split at hr
  ·split at hr
   ·obtain⟨y,h1,h2⟩:=RM.run_bind' hr
    cases RM.run_pure' h2
    exact .nil
   ·cases hr
  ·split at hr
   ·simp only[RM.run] at hr
    split at hr
    ·rename_i hB
     split at hr
     ·obtain⟨⟨y,f⟩,h1,h2⟩:=RM.run_bind' hr
      obtain⟨_,h3,h4⟩:=RM.run_bind' h2
      cases RM.run_pure' h4
      exact(gD h1).nest hB (bR h3) fun E w vs hv hf=>jA (w:=w) h1 hv hf
     ·obtain⟨y,h1,h2⟩:=RM.run_bind' hr
      cases RM.run_pure' h2
      exact .one hB (.inr (.inl ⟨_,_,rfl,.inl rfl⟩))
     ·cases hr
    ·cases hr
   ·cases hr
  ·exact kY hr
  ·cases hr
end Go.Vc
end

section
set_option linter.unusedVariables false
set_option linter.unusedSimpArgs false
namespace Go.Vc
open Go
variable {P:Program} {X:Ctx} {w0:World} {foot:gM} {base:Mem} {S:St} {E:Env} {a:Act} {w:World} {ctx:c9}
def gU (r:b9) (bl:List (Nat×c7)):List (Nat×c7):=r.cn.foldl (fun l p=>put l p.1 p.2) (r.del.foldl rem bl)
def afv (E:Env):Option SV->Value->Prop
 |none,_=>True
 |some s,v=>fz E s v
structure iF (w0:World) (foot:gM) (base:Mem) (bl:List (Nat×c7)) (used:List Nat) (E:Env) (r:b9) (E':Env) (w':World) (v:Value):Prop where
 le:E.le E'
 heap:HRel w0 foot base (gU r bl) (r.new++used) E' w'
 val:afv E' r.val v
def bZ (P:Program) (w0:World) (foot:gM) (base:Mem) (S:St) (E:Env) (a:Act) (w:World) (o:Oper) (r:b9):Prop:=
 ∀(next:Act->World->Prop) (Q:Exit->Act->World->Prop),(∀E' w' v,iF w0 foot base S.bl S.used E r E' w' v->next (a.put o.dst v) w')->o.wp P a w next Q
theorem bZ.value {o:Oper} {r:b9} {v:Value} {w':World} {E':Env} (dE:(execOp a.eval o).run P w= .ok (.value v) w') (hA:iF w0 foot base S.bl S.used E r E' w' v):
  bZ P w0 foot base S E a w o r:=fun next Q hn=>by
 unfold Oper.wp
 rw[dE]
 exact hn _ _ _ hA
theorem bZ.skip {o:Oper} {r:b9} {w':World} {E':Env} (dE:(execOp a.eval o).run P w= .ok .skip w') (hA:iF w0 foot base S.bl S.used E r E' w' undef):
  bZ P w0 foot base S E a w o r:=fun next Q hn=>by
 unfold Oper.wp
 rw[dE]
 exact hn _ _ _ hA
theorem iF.pure (h:HRel w0 foot base S.bl S.used E w) {s:SV} {v:Value} {cs:List Prop} (hv:fz E s v):iF w0 foot base S.bl S.used E {val:=some s,conds:=cs} E w v:=
 ⟨.refl _,h,hv⟩
theorem uv:∀{l:List TI} {t:Nat} {i:TI},Mm l t=some i->i∈l/\i.id=t
 |[],_,_,h=>by cases h
 |j::l,t,i,h=>by
  unfold Mm at h
  split at h
  ·rename_i hb
   cases h
   exact⟨List.mem_cons_self,Nat.eq_of_beq_eq_true hb⟩
  ·obtain⟨h1,h2⟩:=uv h
   exact⟨List.mem_cons_of_mem _ h1,h2⟩
theorem qj {α β:Type} {f g:α->β}:∀{l:List α},l.map f=l.map g->∀x∈l,f x=g x
 |[],_,x,hx=>by cases hx
 |y::l,h,x,hx=>by
  simp only[List.map_cons,List.cons.injEq] at h
  rcases List.mem_cons.1 hx with rfl|hx
  ·exact h.1
  ·exact qj h.2 x hx
theorem dh (hT:dx P X.aA) {t:Nat} {i:TI} (h:(ti X t).run S ctx=some i):
  kb P t=i.d/\∃j,P.info? t=some j/\j.size=i.size/\j.bytes=i.bytes/\j.zero=some i.zero:=by
 have h:=b0 h
 obtain⟨hm,rfl⟩:=uv h
 refine⟨qj hT.WD i hm,?_⟩
 have:=qj hT.infos i hm
 obtain⟨j,hj,e⟩:=Option.map_eq_some_iff.1 this
 simp only[Prod.mk.injEq] at e
 exact⟨j,hj,e.1,e.2.1,e.2.2⟩
theorem dO {t e:Nat} (h:kb P t= .slice e):P.underlying t=some (.slice e):=by
 unfold kb at h;split at h<;>first|cases h|skip
 assumption
theorem rG {t:Nat} {k:IntKind} (h:kb P t= .int k):P.underlying t=some (.int k):=by
 unfold kb at h;split at h<;>first|cases h|skip
 assumption
theorem ux {t:Nat} (h:kb P t= .bool):P.underlying t=some .bool:=by
 unfold kb at h;split at h<;>first|cases h|skip
 assumption
theorem qf {t:Nat} (h:kb P t= .str):P.underlying t=some .string:=by
 unfold kb at h;split at h<;>first|cases h|skip
 assumption
theorem lV {t:Nat} {fs:List (Nat×Nat×Nat)} (h:kb P t= .struct fs):
  ∃gs,P.underlying t=some (.struct gs)/\fs=gs.toList.map fun f=>(f.offset,P.cellsOf f.type,f.type):=by
 unfold kb at h;split at h<;>first|cases h|skip
 rename_i gs hg
 exact⟨gs,hg,rfl⟩
theorem sD {t n e:Nat} (h:kb P t= .array n e):P.underlying t=some (.array n e):=by
 unfold kb at h;split at h<;>first|cases h|skip
 assumption
theorem Kb {t k e:Nat} (h:kb P t= .map k e):P.underlying t=some (.map k e):=by
 unfold kb at h;split at h<;>first|cases h|skip
 assumption
theorem Ov {t:Nat} (h:kb P t= .plain):∃a b c,P.underlying t=some (.func a b c):=by
 unfold kb at h;split at h<;>first|cases h|skip
 rename_i a b c he;exact⟨a,b,c,he⟩
theorem Ka {t:Nat} (h:kb P t= .vX):∃e,P.underlying t=some (.pointer e):=by
 unfold kb at h;split at h<;>first|cases h|skip
 rename_i e he;exact⟨e,he⟩
theorem yS {t:Nat} {j:TypeInfo} (h:P.info? t=some j):(typeInfo t).run P w= .ok j w:=by
 simp[typeInfo,h]
theorem dZ {t:Nat} {j:TypeInfo} (h:P.info? t=some j):(sizeOf t).run P w= .ok j.size w:=by
 simp[sizeOf,yS h]
theorem kj {t:Nat} {j:TypeInfo} {z:Value} (h:P.info? t=some j) (hz:j.zero=some z):(zeroValue t).run P w= .ok z w:=by
 simp[zeroValue,yS h,hz]
theorem qI {t:Nat} {gs:Array Field} (h:P.underlying t=some (.struct gs)):(isAgg t).run P w= .ok true w:=by
 simp[isAgg,run_underlying h]
theorem wC {t n e:Nat} (h:P.underlying t=some (.array n e)):(isAgg t).run P w= .ok true w:=by
 simp[isAgg,run_underlying h]
theorem om {t:Nat} (h:(match kb P t with | .struct _=>false| .array _ _=>false| .map _ _=>true| .other=>false|_=>true)=true):(isAgg t).run P w= .ok false w:=by
 cases hs:kb P t with
 |int k=>simp[isAgg,run_underlying (rG hs)]
 |bool=>simp[isAgg,run_underlying (ux hs)]
 |str=>simp[isAgg,run_underlying (qf hs)]
 |slice e=>simp[isAgg,run_underlying (dO hs)]
 |struct fs=>rw[hs] at h;cases h
 |plain=>
  obtain⟨a,b,c,he⟩:=Ov hs
  simp[isAgg,run_underlying he]
 |vX=>
  obtain⟨e,he⟩:=Ka hs
  simp[isAgg,run_underlying he]
 |array n e=>rw[hs] at h;cases h
 |map k e=>simp[isAgg,run_underlying (Kb hs)]
 |other=>rw[hs] at h;cases h
def np (w:World) (b o:Nat) (us:List Value):Prop:=∀(j:Nat) u,us[j]? =some u->w.cell? ⟨b,o+j,none⟩=some u
theorem nk (b o n:Nat):(⟨b,o,none⟩:Addr).add n=⟨b,o+n,none⟩:=by
 unfold Addr.add
 split
 ·rename_i h;subst h;rfl
 ·rfl
theorem jO {w:World} {b:Nat} {vs:Array Value} {e:TypeId} {m:Nat×Nat} (h:w.heap[b]? =some (.cells vs e m)) (o:Nat):w.cell? ⟨b,o,none⟩=vs[o]? :=by
 simp[World.cell?,h]
theorem yi {b o:Nat} {us:List Value} (h:np w b o us):(loadCells ⟨b,o,none⟩ us.length).run P w= .ok us.toArray w:=
 run_loadCells_list w _ us fun j v hv=>by rw[nk];exact h j v hv
theorem Ba {t b o:Nat} {us:List Value} {cs:List C} {s:SV} {j:TypeInfo} (hd:(CS (kb P t) cs).run S ctx=some s) (hi:P.info? t=some j) (hl:us.length=j.size)
  (hr:b7 E cs us) (h:np w b o us):∃v,(loadVar t ⟨b,o,none⟩).run P w= .ok v w/\fz E s v:=by
 unfold CS at hd
 split at hd
 ·rename_i fs hs
  cases hd
  obtain⟨gs,hu,_⟩:=lV hs
  refine⟨.agg us.toArray,?_,_,rfl,hr⟩
  simp[loadVar,qI hu,dZ hi,<-hl,yi h]
 ·rename_i n e hs
  cases hd
  refine⟨.agg us.toArray,?_,_,rfl,hr⟩
  simp[loadVar,wC (sD hs),dZ hi,<-hl,yi h]
 ·cases hd
 ·rename_i h1 h2 h3
  split at hd
  ·rename_i c
   cases hd
   obtain⟨v,vs,rfl,k1,k2⟩:=hr
   have RU:vs=[]:=k2
   subst RU
   refine⟨v,?_,k1⟩
   have hc:=h 0 v rfl
   have:(isAgg t).run P w= .ok false w:=om (by
    cases hs:kb P t<;>simp_all)
   simp only[loadVar,Sem.run_bind,this,Result.andThen_ok]
   simp only[Bool.false_eq_true,if_false,run_load]
   simp only[Nat.add_zero] at hc
   rw[hc]
  ·cases hd
theorem Ht {p:Place} {je:Bool} {e:Nat} {t:Ty} {xs:List t.den} (hB:n6 E w p je e t xs) {i:Nat} (hi:i<p.len):
  ∃us,dj E.F t (DQ xs i) us/\us.length=t.size/\np w p.bp (i*t.size) us:=by
 obtain⟨h0,⟨h1,nY⟩,vs,h2,h3,h4,h5⟩:=hB
 have hx:xs[i]? =some (DQ xs i):=by
  unfold DQ
  rw[List.getD_eq_getElem?_getD,List.getElem?_eq_getElem (by omega)]
  rfl
 obtain⟨us,k1,k2,k3⟩:=h5 i _ hx
 exact⟨us,k1,k2,fun j u hu=>by rw[jO h2];exact k3 j u hu⟩
theorem np.drop {b o:Nat} {us:List Value} (h:np w b o us) (n:Nat):np w b (o+n) (us.drop n):=fun j u hu=>by
 rw[List.getElem?_drop] at hu
 have:=h _ _ hu
 rwa [<-Nat.add_assoc] at this
theorem np.take {b o:Nat} {us:List Value} (h:np w b o us) (n:Nat):np w b o (us.take n):=fun j u hu=>by
 have hj:j<n:=by
  have:=(List.getElem?_eq_some_iff.1 hu).1
  simp only[List.length_take] at this
  omega
 rw[List.getElem?_take_of_lt hj] at hu
 exact h _ _ hu
theorem Bg (h:HRel w0 foot base S.bl S.used E w) {size:Nat} {c:C} {cs:List C} {v:Value} (hr:(CY size c).run S ctx=some cs) (hv:gV E c v):
  ∃b o us,v= .pointer (some ⟨b,o,none⟩)/\b7 E cs us/\np w b o us:=by
 unfold CY at hr
 split at hr
 ·rename_i b o
  simp only[RM.run] at hr
  split at hr
  ·rename_i B hf
   split at hr
   ·rename_i lk
    cases hr
    obtain⟨p,hp,hn,rfl⟩:=hv
    obtain⟨p',dn,_,vs,e,h1,h2⟩:=h.cn _ _ hf
    rw[hp] at dn;cases dn
    refine⟨_,_,(vs.toList.drop o).take size,rfl,(h2.drop o).take size,?_⟩
    have:np w p.bp 0 vs.toList:=fun j u hu=>by rw[jO h1];simpa using hu
    simpa using (this.drop o).take size
   ·cases hr
    obtain⟨p,hp,hn,rfl⟩:=hv
    obtain⟨p',dn,_,vs,e,h1,_,h2⟩:=h.cn _ _ hf
    rw[hp] at dn;cases dn
    refine⟨_,_,(vs.toList.drop o).take size,rfl,((gN h2).drop o).take size,?_⟩
    have:np w p.bp 0 vs.toList:=fun j u hu=>by rw[jO h1];simpa using hu
    simpa using (this.drop o).take size
   ·cases hr
  ·cases hr
 ·rename_i tt b i o
  simp only[RM.run] at hr
  split at hr
  ·rename_i B hf
   split at hr
   ·rename_i je e t xs
    split at hr
    ·rename_i ht
     have ht:=Ty.beq_eq ht
     subst ht
     cases hr
     obtain⟨p,hp,hn,hi,rfl⟩:=hv
     obtain⟨p',dn,hB⟩:=h.cn _ _ hf
     rw[hp] at dn;cases dn
     rcases hB with ⟨dB,_⟩|⟨_,hB⟩
     ·rw[hn] at dB;cases dB
     ·obtain⟨us,k1,k2,k3⟩:=Ht hB hi
      exact⟨_,_,(us.drop o).take size,rfl,((gN k1).drop o).take size,(k3.drop o).take size⟩
    ·cases hr
   ·cases hr
  ·cases hr
 ·rename_i t xs i o
  cases hr
  obtain⟨hi,b,off,rfl,k⟩:=hv
  have hx:(Ty.L (t:=t) xs)[i]? =some (DQ xs i):=by
   unfold DQ
   rw[List.getD_eq_getElem?_getD,List.getElem?_eq_getElem hi]
   rfl
  obtain⟨us,k1,k2,k3⟩:=k i _ hx
  have:np w b (off+i*t.size) us:=fun j u hu=>by
   obtain⟨c,e,m,h1,h2⟩:=k3 j u hu
   rw[jO (h.m7 _ _ h1),Nat.add_assoc]
   exact h2
  have:=(this.drop o).take size
  rw[Nat.add_assoc] at this
  exact⟨_,_,(us.drop o).take size,rfl,((gN k1).drop o).take size,this⟩
 ·cases hr
theorem lW {s:SV} {r:b9} (h:(kL s).run S ctx=some r):r={val:=some s}:=by cases h;rfl
theorem fY {c:C} {r:b9} (h:(cM c).run S ctx=some r):r={val:=some (.one c)}:=by cases h;rfl
theorem CG {p:Prop} {c:C} {r:b9} (h:(o2 p c).run S ctx=some r):r={val:=some (.one c),conds:=[p]}:=by cases h;rfl
theorem Xs (hT:dx P X.aA) (h:SRel w0 foot base S E a w) (hc:br a ctx) {o:Oper} {t:Nat} {x:Operand} (ho:o.op= .load t x) {r:b9}
  (hr:(do let i <-ti X t;let cs <-CY i.size (<-lM x);cS (Nat.beq cs.length i.size);kL (<-CS i.d cs):RM b9).run S ctx=some r):bZ P w0 foot base S E a w o r:=by
 obtain⟨i,h1,hr⟩:=RM.run_bind' hr
 obtain⟨c,h2,hr⟩:=RM.run_bind' hr
 obtain⟨cs,h3,hr⟩:=RM.run_bind' hr
 obtain⟨u,h4,hr⟩:=RM.run_bind' hr
 obtain⟨s,h5,hr⟩:=RM.run_bind' hr
 obtain⟨hs,j,hj,e1,e2,e3⟩:=dh hT h1
 obtain⟨b,off,us,hv,k1,k2⟩:=Bg h.toHRel h3 (gu h hc h2)
 have hl:us.length=j.size:=by rw[k1.length,Nat.eq_of_beq_eq_true (bR h4),e1]
 rw[<-hs] at h5
 obtain⟨v,dE,jJ⟩:=Ba h5 hj hl k1 k2
 rw[lW hr]
 refine bZ.value (v:=v) (w':=w) ?_ (iF.pure h.toHRel jJ)
 simp[execOp,ho,Instr.loadAt,Instr.sureAddr,hv,dE]
theorem Jo (h:HRel w0 foot base S.bl S.used E w) {d:Nat} {cs:List C} {vs:Array Value} {e:TypeId} (hv:b7 E cs vs.toList) (hd:d∉S.used):
  iF w0 foot base S.bl S.used E {val:=some (.one (.ptr d 0)),cn:=[(d,.cells cs)],new:=[d]} (E.new d ⟨false,w.heap.size,0,0⟩) (w.alloc (.cells vs e)) (.pointer (some ⟨w.heap.size,0,none⟩)):=by
 have jY:E.place d=none:=by
  cases he:E.place d with
  |none=>rfl
  |some q=>exact absurd (h.used d q he) hd
 have hle:=Env.nH (p:=⟨false,w.heap.size,0,0⟩) jY
 exact⟨hle,h.alloc hd (fun _=>rfl) ⟨rfl,vs,e,qu,hv.mono hle⟩,⟨_,Env.fb,rfl,rfl⟩⟩
theorem Wm (hT:dx P X.aA) (h:SRel w0 foot base S E a w) {o:Oper} {t d:Nat} (ho:o.op= .alloc t) {r:b9} {i:TI} (h1:(ti X t).run S ctx=some i)
  (hr:(do let cs <-RM.ofOption (mi i.zero.cells.toList); .ret {val:=some (.one (.ptr d 0)),cn:=[(d,.cells cs)],new:=[d]}:RM b9).run S ctx=some r)
  (hn:∀i∈r.new,i∉S.used):bZ P w0 foot base S E a w o r:=by
 obtain⟨cs,h2,hr⟩:=RM.run_bind' hr
 obtain⟨hs,j,hj,e1,e2,e3⟩:=dh hT h1
 cases hr
 refine bZ.value (v:= .pointer (some ⟨w.heap.size,0,none⟩)) (w':=w.alloc (.cells i.zero.cells t)) ?_ (Jo h.toHRel (nP (b0 h2)) (hn d (by simp)))
 simp[execOp,ho,Instr.alloc,kj hj e3,newVar,newRow]
theorem aa7 (h:SRel w0 foot base S E a w) (hc:br a ctx) {o:Oper} {t d:Nat} {x:Operand} (ho:o.op= .box t x) {r:b9}
  (hr:(do let cs <-oT (<-ev x); .ret {val:=some (.one (.ptr d 0)),cn:=[(d,.cells cs)],new:=[d]}:RM b9).run S ctx=some r)
  (hn:∀i∈r.new,i∉S.used):bZ P w0 foot base S E a w o r:=by
 obtain⟨s,h1,hr⟩:=RM.run_bind' hr
 obtain⟨cs,h2,hr⟩:=RM.run_bind' hr
 cases hr
 refine bZ.value (v:= .pointer (some ⟨w.heap.size,0,none⟩)) (w':=w.alloc (.cells (a.eval x).cells t)) ?_ (Jo h.toHRel (pe h hc h1 h2) (hn d (by simp)))
 simp[execOp,ho,Instr.box,newVar,newRow]
theorem O7 (h:SRel w0 foot base S E a w) (hc:br a ctx) {o:Oper} {x:Operand} (ho:o.op= .move x\/o.op= .assign x) {r:b9}
  (hr:(do kL (<-ev x):RM b9).run S ctx=some r):bZ P w0 foot base S E a w o r:=by
 obtain⟨s,h1,hr⟩:=RM.run_bind' hr
 rw[lW hr]
 refine bZ.value (v:=a.eval x) (w':=w) ?_ (iF.pure h.toHRel (gi h hc h1))
 rcases ho with ho|ho<;>simp[execOp,ho]
theorem WW (h:SRel w0 foot base S E a w) (hc:br a ctx) {o:Oper} {c:Nat} {x y:Operand} (ho:o.op= .pick (.tmp c) x y) {r:b9}
  (hr:(do
   let g <-JW (<-ev (.tmp c))
   let x <-JW (<-Sk [(c,true)] x)
   let y <-JW (<-Sk [(c,false)] y)
   cM (.aG .bool (bif g then x else y)):RM b9).run S ctx=some r):bZ P w0 foot base S E a w o r:=by
 obtain⟨s,h1,hr⟩:=RM.run_bind' hr
 obtain⟨g,h2,hr⟩:=RM.run_bind' hr
 obtain⟨s',h3,hr⟩:=RM.run_bind' hr
 obtain⟨x',h4,hr⟩:=RM.run_bind' hr
 obtain⟨s'',h5,hr⟩:=RM.run_bind' hr
 obtain⟨y',h6,hr⟩:=RM.run_bind' hr
 rw[fY hr]
 have hg:=z8 (gi h hc h1) h2
 have Tp:br a ((c,g)::ctx):=fun t ht=>by
  rcases List.mem_cons.1 ht with rfl|ht
  ·have:a.tmps.getD c undef= .bool g:=hg
   simp only
   rw[Array.getD_eq_getD_getElem?] at this
   cases hh:a.tmps[c]? with
   |none=>rw[hh] at this;simp[undef] at this
   |some v=>rw[hh] at this;simpa using this
  ·exact hc t ht
 cases g with
 |true=>
  have hx:=z8 (IH h Tp h3) h4
  refine bZ.value (v:= .bool x') (w':=w) ?_ (iF.pure h.toHRel ⟨rfl,rfl⟩)
  simp[execOp,ho,hg,asBool,hx]
 |false=>
  have hy:=z8 (IH h Tp h5) h6
  refine bZ.value (v:= .bool y') (w':=w) ?_ (iF.pure h.toHRel ⟨rfl,rfl⟩)
  simp[execOp,ho,hg,asBool,hy]
theorem MK (h:SRel w0 foot base S E a w) (hc:br a ctx) {o:Oper} {x:Operand} (ho:o.op= .nilCheck x) {r:b9}
  (hr:(do
   match <-lM x with
   | .ptr b o=>cM (.ptr b o)
   | .mD t b i o=>cM (.mD t b i o)
   | .ta t xs i o=>cM (.ta t xs i o)
   | .aG (.ptr t) x=> .ret {val:=some (.one (.ta t [x.getD t.Du] 0 0)),conds:=[x≠none]}
   |_=> .fail:RM b9).run S ctx=some r) (cr:∀c∈r.conds,c):bZ P w0 foot base S E a w o r:=by
 obtain⟨c,h1,hr⟩:=RM.run_bind' hr
 have hv:=gu h hc h1
 have key:∀b off,a.eval x= .pointer (some ⟨b,off,none⟩)->r={val:=some (.one c)}->bZ P w0 foot base S E a w o r:=fun b off he er=>by
  rw[er]
  exact bZ.value (v:=a.eval x) (w':=w) (by simp[execOp,ho,he]) (iF.pure h.toHRel hv)
 split at hr
 ·obtain⟨p,_,_,he⟩:=hv;exact key _ _ he (fY hr)
 ·obtain⟨p,_,_,_,he⟩:=hv;exact key _ _ he (fY hr)
 ·obtain⟨_,b,off,he,_⟩:=hv;exact key _ _ he (fY hr)
 ·rename_i t y
  cases hr
  have hy:=cr _ (List.mem_singleton.2 rfl)
  obtain⟨_,⟨Nc,_⟩|⟨z,hz,b,off,he,us,k1,k2,k3⟩⟩:=hv
  ·exact absurd Nc hy
  ·subst hz
   simp only[List.cons.injEq,and_true] at he
   refine bZ.value (v:=a.eval x) (w':=w) (by simp[execOp,ho,he]) (iF.pure h.toHRel ⟨by simp,b,off,by simpa using he,fun i y hy=> ?_⟩)
   cases i with
   |zero=>
    have hy:z=y:=by simpa using hy
    subst hy
    exact⟨us,k1,k2,fun j u hu=>by simpa using k3 j u hu⟩
   |succ i=>simp at hy
 ·cases hr
theorem JQ (hT:dx P X.aA) (h:SRel w0 foot base S E a w) (hc:br a ctx) {o:Oper} {s:Nat} {x:Operand} {f:Nat} (ho:o.op= .fieldAddr s x f) {r:b9}
  (hr:(do
   let i <-ti X s
   match i.d with
   | .struct fs=>(match fs[f]? with
    |some (off,size,_)=>(do
     cS (Nat.blt 0 size)
     match <-lM x with
     | .ptr b o=>cM (.ptr b (o+off))
     | .mD t b i o=>cM (.mD t b i (o+off))
     | .ta t xs i o=>cM (.ta t xs i (o+off))
     |_=> .fail)
    |none=> .fail)
   |_=> .fail:RM b9).run S ctx=some r):bZ P w0 foot base S E a w o r:=by
 obtain⟨i,h1,hr⟩:=RM.run_bind' hr
 obtain⟨hs,j,hj,e1,e2,e3⟩:=dh hT h1
 split at hr
 ·rename_i fs hd
  rw[hd] at hs
  obtain⟨gs,hu,rfl⟩:=lV hs
  split at hr
  ·rename_i off size tf hf
   rw[List.getElem?_map] at hf
   obtain⟨g,hg,e⟩:=Option.map_eq_some_iff.1 hf
   simp only[Prod.mk.injEq] at e
   obtain⟨u,h2,hr⟩:=RM.run_bind' hr
   obtain⟨c,h3,hr⟩:=RM.run_bind' hr
   have iT:0<size:=Nat.le_of_ble_eq_true (bR h2)
   have hv:=gu h hc h3
   have hgi:∃jj,P.info? g.type=some jj/\jj.size=size:=by
    have:=e.2.1
    unfold Program.cellsOf at this
    cases hh:P.info? g.type with
    |none=>rw[hh] at this;simp at this;omega
    |some jj=>rw[hh] at this;exact⟨jj,rfl,by simpa using this⟩
   obtain⟨jj,PH,hjs⟩:=hgi
   have R7:gs[f]? =some g:=by simpa using hg
   have key:∀b oo c',a.eval x= .pointer (some ⟨b,oo,none⟩)->r={val:=some (.one c')}->gV E c' (.pointer (some ⟨b,oo+off,none⟩))->bZ P w0 foot base S E a w o r:=fun b oo c' he er jJ=>by
    rw[er]
    refine bZ.value (v:= .pointer (some ⟨b,oo+off,none⟩)) (w':=w) ?_ (iF.pure h.toHRel jJ)
    have kz:¬jj.size=0:=by omega
    simp[execOp,ho,Instr.fieldAt,run_underlying hu,R7,Instr.sureAddr,he,fieldPlace,dZ PH,kz,nk,e.1]
   split at hr
   ·obtain⟨p,hp,hn,he⟩:=hv
    exact key _ _ _ he (fY hr) ⟨p,hp,hn,rfl⟩
   ·obtain⟨p,hp,hn,hi,he⟩:=hv
    exact key _ _ _ he (fY hr) ⟨p,hp,hn,hi,by simp[Nat.add_assoc]⟩
   ·obtain⟨hi,b,oo,he,k⟩:=hv
    exact key _ _ _ he (fY hr) ⟨hi,b,oo,by simp[Nat.add_assoc],k⟩
   ·cases hr
  ·cases hr
 ·cases hr
end Go.Vc
end

section
set_option linter.unusedVariables false
set_option linter.unusedSimpArgs false
namespace Go.Vc
open Go
variable {P:Program} {X:Ctx} {w0:World} {foot:gM} {base:Mem} {S:St} {E:Env} {a:Act} {w:World} {ctx:c9}
theorem xw {g:Nat} {cur cs:Array Value} {e:TypeId} {m:Nat×Nat} (h:w.heap[g]? =some (.cells cur e m)):w.setRow g cs=eu w g (.cells cs e m):=by
 unfold World.setRow eu
 have hg:=dR h
 congr 1
 apply Array.ext_getElem?
 intro i
 rw[Array.getElem?_modify]
 by_cases hi:g=i
 ·subst hi
  rw[if_pos rfl,h,Array.getElem?_setIfInBounds_self_of_lt hg]
  rfl
 ·rw[if_neg hi,Array.getElem?_setIfInBounds_ne hi]
theorem qH {t g o:Nat} {cur:Array Value} {e:TypeId} {v:Value} {j:TypeInfo} (hi:P.info? t=some j) (hs:v.cells.toList.length=j.size)
  (hg:w.heap[g]? =some (.cells cur e (0,0))) (hl:o+v.cells.toList.length<=cur.size) (h1:∀u∈v.cells.toList,u.oneCell'=true):
  (storeVar t ⟨g,o,none⟩ v).run P w= .ok () (eu w g (.cells (cur.toList.take o++v.cells.toList++cur.toList.drop (o+v.cells.toList.length)).toArray e (0,0))):=by
 have:=run_storeCells_at (P:=P) g o e v.cells.toList 0 cur w hg (by simpa using hl) h1
 rw[xw hg] at this
 simp only[storeVar,Sem.run_bind,dZ hi,Result.andThen_ok]
 rw[if_neg (by simpa using hs)]
 simpa using this
theorem b7.qD {cs:List C} {us:List Value} (h:b7 E cs us) {lk:List C} {vs:List Value} (k:b7 E lk vs) (o:Nat):
  b7 E (qD lk o cs) (vs.take o++us++vs.drop (o+us.length)):=by
 unfold Vc.qD
 rw[h.length]
 exact((k.take o).append h).append (k.drop _)
theorem BN:∀{fr:ij} {b:Nat},vA fr b=true->∀p∈fr,p.1≠b
 |[],_,_,p,hp=>by cases hp
 |(m,B)::fr,b,h,p,hp=>by
  unfold vA at h
  split at h
  ·cases h
  ·rename_i hb
   rcases List.mem_cons.1 hp with rfl|hp
   ·intro e;simp only at e;subst e;simp at hb
   ·exact BN h p hp
theorem iv:∀{fr:ij} {bl:List (Nat×c7)} {b:Nat},(∀p∈fr,p.1≠b)->find (cE fr bl) b=find bl b
 |[],_,_,_=>rfl
 |q::fr,bl,b,h=>by
  show find (cE fr (put bl q.1 q.2)) b=_
  rw[iv fun p hp=>h p (List.mem_cons_of_mem _ hp),bn _ _ _ _ (h q List.mem_cons_self)]
theorem tE {fr:ij} {b:Nat} {B:c7} {bl:List (Nat×c7)} {v:Option SV} {cs:List Prop} {new:List Nat}:
  gU {val:=v,cn:=fr++[(b,B)],new:=new,conds:=cs} bl=put (cE fr bl) b B:=by
 simp[gU,cE,List.foldl_append]
theorem n6.set {p:Place} {e:Nat} {t:Ty} {xs:List t.den} (hB:n6 E w p false e t xs) {vs:Array Value} (hv:w.heap[p.bp]? =some (.cells vs e (0,0))) {i:Nat} (hi:i<p.len) {y:t.den} {us:List Value}
  (hy:dj E.F t y us):n6 E (eu w p.bp (.cells (vs.toList.take (i*t.size)++us++vs.toList.drop (i*t.size+t.size)).toArray e (0,0))) p false e t (xs.set i y):=by
 obtain⟨h0,⟨h1,nY⟩,Bv,h2,h3,h4,h5⟩:=hB
 rw[hv] at h2
 cases h2
 have AU:=hy.length
 have hmul:i*t.size+t.size<=p.cap*t.size:=by
  rw[<-Nat.succ_mul]
  exact Nat.mul_le_mul_right _ (by omega)
 have Nd:vs.toList.length=p.cap*t.size:=by simpa using h3
 refine⟨h0,⟨by simpa using h1,nY⟩,_,iK (dR hv),?_,(fun hf=>by cases hf),fun k x hx=> ?_⟩
 ·simp only[List.size_toArray,List.length_append,List.length_take,List.length_drop]
  omega
 ·by_cases hk:i=k
  ·subst hk
   rw[List.getElem?_set_self (by omega)] at hx
   cases hx
   refine⟨us,hy,AU,fun j u hu=> ?_⟩
   have hj:j<us.length:=(List.getElem?_eq_some_iff.1 hu).1
   simp only[List.getElem?_toArray]
   rw[List.getElem?_append_left (by simp;omega),List.getElem?_append_right (by simp;omega)]
   rw[<-hu]
   congr 1
   simp
   omega
  ·rw[List.getElem?_set_ne hk] at hx
   obtain⟨Gn,k1,k2,k3⟩:=h5 k x hx
   refine⟨Gn,k1,k2,fun j u hu=> ?_⟩
   have hj:j<Gn.length:=(List.getElem?_eq_some_iff.1 hu).1
   have:=k3 j u hu
   simp only[List.getElem?_toArray]
   rcases Nat.lt_or_gt_of_ne hk with dQ|dQ
   ·have hm:i*t.size+t.size<=k*t.size:=by
     rw[<-Nat.succ_mul]
     exact Nat.mul_le_mul_right _ (by omega)
    rw[List.getElem?_append_right (by simp;omega),List.getElem?_drop]
    rw[<-this,<-Array.getElem?_toList]
    congr 1
    simp
    omega
   ·have hm:k*t.size+t.size<=i*t.size:=by
     rw[<-Nat.succ_mul]
     exact Nat.mul_le_mul_right _ (by omega)
    rw[List.append_assoc,List.getElem?_append_left (by simp;omega),List.getElem?_take_of_lt (by omega)]
    rw[<-this,<-Array.getElem?_toList]
theorem J7 (hT:dx P X.aA) (h:SRel w0 foot base S E a w) (hc:br a ctx) {o:Oper} {t:Nat} {x v:Operand} (ho:o.op= .store t x v) {r:b9}
  {i:TI} (h1:(ti X t).run S ctx=some i) {s:SV} (h2:(ev v).run S ctx=some s) {cs:List C} (h3:(oT s).run S ctx=some cs)
  (hr:(do Al i.size cs (<-lM x):RM b9).run S ctx=some r):bZ P w0 foot base S E a w o r:=by
 obtain⟨c,h4,hr⟩:=RM.run_bind' hr
 obtain⟨hs,j,hj,e1,e2,e3⟩:=dh hT h1
 have mF:=pe h hc h2 h3
 have FT:=mF.oK
 have hlen:=mF.length
 have hx:=gu h hc h4
 unfold Al at hr
 split at hr
 ·rename_i b off
  simp only[RM.run] at hr
  split at hr
  ·rename_i B hf
   split at hr
   ·rename_i lk
    split at hr
    ·rename_i hb
     cases hr
     simp only[Bool.and_eq_true] at hb
     have yy:=Nat.eq_of_beq_eq_true hb.1
     have Dg:=Nat.le_of_ble_eq_true hb.2
     obtain⟨p,hp,hn,De⟩:=hx
     obtain⟨p',dn,_,vs,e,k1,k2⟩:=h.cn _ _ hf
     rw[hp] at dn;cases dn
     have Nd:=k2.length
     simp only[Array.length_toList] at Nd
     have dE:=qH (P:=P) (o:=off) hj (by rw[hlen,yy,e1]) k1 (by omega) FT
     refine bZ.skip (w':=eu w p.bp (.cells _ e (0,0))) (E':=E) ?_ ⟨.refl _,h.toHRel.write hf hp hn rfl ⟨hn,_,e,iK (dR k1),mF.qD k2 off⟩,trivial⟩
     simp[execOp,ho,Instr.storeAt,Instr.sureAddr,De,dE]
    ·cases hr
   ·cases hr
  ·cases hr
 ·rename_i tt b k off
  simp only[RM.run] at hr
  split at hr
  ·rename_i B hf
   split at hr
   ·rename_i e t' xs
    split at hr
    ·rename_i hb
     simp only[Bool.and_eq_true] at hb
     have ht:=Ty.beq_eq hb.1.1
     have yy:=Nat.eq_of_beq_eq_true hb.1.2
     have Dg:=Nat.le_of_ble_eq_true hb.2
     subst ht
     obtain⟨p,hp,hn,hi,De⟩:=hx
     obtain⟨p',dn,hB⟩:=h.cn _ _ hf
     rw[hp] at dn;cases dn
     have hB:n6 E w p false e tt xs:=by
      rcases hB with ⟨dB,_⟩|⟨_,hB⟩
      ·rw[hn] at dB;cases dB
      ·exact hB
     have zD:=hB
     obtain⟨g0,⟨g1,g1'⟩,vs,g2,g3,g4,g5⟩:=hB
     have hmul:k*tt.size+tt.size<=p.cap*tt.size:=by
      rw[<-Nat.succ_mul]
      exact Nat.mul_le_mul_right _ (by omega)
     have Nd:vs.toList.length=p.cap*tt.size:=by simpa using g3
     have dE:=qH (P:=P) (o:=k*tt.size+off) hj (by rw[hlen,yy,e1]) g2 (by rw[g3];omega) FT
     have key:∀(y:tt.den) (fr:ij) (ds:List C) (ws:List Value),(reify tt ds).run S ctx=some (y,fr)->vA fr b=true->b7 E ds ws->
       vs.toList.take (k*tt.size+off)++(a.eval v).cells.toList++vs.toList.drop (k*tt.size+off+(a.eval v).cells.toList.length)=vs.toList.take (k*tt.size)++ws++vs.toList.drop (k*tt.size+tt.size)->
       bZ P w0 foot base S E a w o {cn:=fr++[(b,.row false e tt (xs.set k y))]}:=fun y fr ds ws hy o9 hds heq=>by
      have Ii:=gD hy
      obtain⟨E1,l1,q1,f1,nY⟩:=h.toHRel.cE Ii
      have hfz:=ft.qi Ii nY
      have jJ:=jA hy (hds.mono l1) hfz
      have eh:find (cE fr S.bl) b=some (.row false e tt xs):=by rw[iv (BN o9)];exact hf
      have hw:=nY.write (B':= .row false e tt (xs.set k y)) eh (q1▸hp) hn rfl (Or.inr ⟨hn,(zD.mono l1).set g2 hi jJ⟩)
      refine bZ.skip (w':=eu w p.bp _) (E':=E1) ?_ ⟨l1,by rw[tE];exact hw,trivial⟩
      simp only[execOp,ho,Instr.storeAt,Instr.sureAddr,De,Sem.run_bind,Sem.run_pure,Result.andThen_ok]
      rw[dE,heq]
      rfl
     split at hr
     ·rename_i iT
      have iT:=Nat.eq_of_beq_eq_true iT
      obtain⟨⟨y,fr⟩,k1,hr⟩:=RM.run_bind' hr
      obtain⟨u,k2,hr⟩:=RM.run_bind' hr
      cases hr
      have Ts:off=0:=by omega
      subst Ts
      exact key y fr cs _ k1 (bR k2) mF (by simp only[Nat.add_zero,hlen,yy,iT])
     ·obtain⟨⟨y,fr⟩,k1,hr⟩:=RM.run_bind' hr
      obtain⟨u,k2,hr⟩:=RM.run_bind' hr
      cases hr
      obtain⟨us,m1,m2,m3⟩:=Ht zD hi
      have AU:us=(vs.toList.drop (k*tt.size)).take tt.size:=by
       apply List.ext_getElem?
       intro n
       by_cases dB:n<tt.size
       ·rw[List.getElem?_take_of_lt dB,List.getElem?_drop]
        have:=m3 n us[n] (List.getElem?_eq_getElem (by omega))
        rw[jO g2] at this
        rw[List.getElem?_eq_getElem (by omega),<-this]
        simp
       ·rw[List.getElem?_eq_none (by omega),List.getElem?_eq_none (by simp;omega)]
      refine key y fr _ _ k1 (bR k2) (mF.qD (gN m1) off) ?_
      rw[hlen,yy,AU]
      simp only[List.take_take,List.drop_take,List.drop_drop,List.append_assoc]
      rw[Nat.min_eq_left (by omega)]
      have e1:vs.toList.take (k*tt.size+off)=vs.toList.take (k*tt.size)++(vs.toList.drop (k*tt.size)).take off:=by
       rw[List.take_add]
      rw[e1]
      simp only[List.append_assoc]
      congr 3
      have e2:vs.toList.drop (k*tt.size+off+i.size)=(vs.toList.drop (k*tt.size+off+i.size)).take (tt.size - (off+i.size))++(vs.toList.drop (k*tt.size+off+i.size)).drop (tt.size - (off+i.size)):=(List.take_append_drop _ _).symm
      rw[e2,List.drop_drop]
      rw[show k*tt.size+off+i.size=k*tt.size+(off+i.size) by omega,show k*tt.size+(off+i.size)+(tt.size - (off+i.size))=k*tt.size+tt.size by omega]
    ·cases hr
   ·cases hr
  ·cases hr
 ·cases hr
theorem zK (cells:Array Value) (off:Nat):∀(us:List Value) (k:Nat) (cs:Array Value),off+k+us.length<=cs.size->
  ((us.zipIdx k).foldl (fun cs (p:Value×Nat)=>cs.setIfInBounds (off+p.2) p.1) cs).toList=cs.toList.take (off+k)++us++cs.toList.drop (off+k+us.length)
 |[],k,cs,_=>by simp
 |u::us,k,cs,h=>by
  simp only[List.zipIdx_cons,List.foldl_cons]
  rw[zK cells off us (k+1) _ (by simp at h ⊢;omega)]
  have hk:off+k<cs.toList.length:=by simp at h ⊢;omega
  simp only[Array.toList_setIfInBounds]
  apply List.ext_getElem?
  intro n
  simp only[List.length_cons]
  by_cases h1:n<off+k
  ·rw[List.append_assoc,List.append_assoc,List.getElem?_append_left (by simp;omega),List.getElem?_append_left (by simp;omega),List.getElem?_take_of_lt (by omega),List.getElem?_take_of_lt (by omega),List.getElem?_set_ne (by omega)]
  ·by_cases h2:n=off+k
   ·subst h2
    rw[List.append_assoc,List.append_assoc,List.getElem?_append_left (by simp at h ⊢;omega),List.getElem?_take_of_lt (by omega),List.getElem?_set_self (by omega),
     List.getElem?_append_right (by simp;omega),List.getElem?_append_left (by simp;omega)]
    simp only[List.length_take]
    rw[Nat.min_eq_left (by omega)]
    simp
   ·have hn:off+k+1<=n:=by omega
    by_cases h3:n<off+(k+1)+us.length
    ·rw[List.getElem?_append_left (by simp at h ⊢;omega),List.getElem?_append_right (by simp;omega),List.getElem?_append_left (by simp at h ⊢;omega),List.getElem?_append_right (by simp;omega)]
     simp only[List.length_take,List.length_set]
     rw[show n - min (off+k) cs.toList.length=(n - min (off+(k+1)) cs.toList.length)+1 by omega,List.getElem?_cons_succ]
    ·rw[List.getElem?_append_right (by simp at h ⊢;omega),List.getElem?_append_right (by simp at h ⊢;omega)]
     simp only[List.getElem?_drop,List.length_append,List.length_take,List.length_set,List.length_cons]
     rw[List.getElem?_set_ne (by omega)]
     congr 1
     omega
theorem vd (h:SRel w0 foot base S E a w) (hc:br a ctx) {pl:Nat->Option (Nat×Nat)} {fs:List (Nat×Nat×Nat)}
  (hp:∀(i:Nat) off size t,fs[i]? =some (off,size,t)->pl i=some (off,size)):∀{ps:List (Nat×Operand)} {cs ds:List C} {cells:Array Value},
  (ve fs ps cs).run S ctx=some ds->b7 E cs cells.toList->
  ∃fC,Instr.fill pl cells (ps.map fun(i,x)=>(i,a.eval x))=some fC/\b7 E ds fC.toList
 |[],cs,ds,cells,hr,mF=>by
  cases hr
  exact⟨cells,rfl,mF⟩
 |(i,x)::ps,cs,ds,cells,hr,mF=>by
  unfold ve at hr
  obtain⟨s,h1,hr⟩:=RM.run_bind' hr
  obtain⟨us,h2,hr⟩:=RM.run_bind' hr
  split at hr
  ·rename_i off size t hf
   split at hr
   ·rename_i hb
    simp only[Bool.and_eq_true] at hb
    have yy:=Nat.eq_of_beq_eq_true hb.1
    have Dg:=Nat.le_of_ble_eq_true hb.2
    have AU:=pe h hc h1 h2
    have hl:=AU.length
    have mr:=mF.length
    simp only[Array.length_toList] at hl mr
    have Ih:=zK cells off (a.eval x).cells.toList 0 cells (by simp only[Array.length_toList];omega)
    simp only[Nat.add_zero] at Ih
    obtain⟨fC,k1,k2⟩:=vd h hc hp (cells:=(a.eval x).cells.zipIdx.foldl (fun cs (c,j)=>cs.setIfInBounds (off+j) c) cells) hr (by
     have e:((a.eval x).cells.zipIdx.foldl (fun cs (c,j)=>cs.setIfInBounds (off+j) c) cells).toList=cells.toList.take off++(a.eval x).cells.toList++cells.toList.drop (off+(a.eval x).cells.toList.length):=by
      rw[<-Array.foldl_toList,Array.toList_zipIdx]
      exact Ih
     rw[e]
     exact AU.qD mF off)
    refine⟨fC,?_,k2⟩
    simp only[List.map_cons,Instr.fill,hp _ _ _ _ hf]
    rw[if_neg (by simp;omega)]
    exact k1
   ·cases hr
  ·cases hr
theorem Ei (gs:Array Field) (hi:∀f∈gs,∃j,P.info? f.type=some j):
  (gs.mapM fun(f:Field)=>(do pure (f.offset,<-sizeOf f.type):Sem (Nat×Nat))).run P w= .ok (gs.map fun f=>(f.offset,P.cellsOf f.type)) w:=by
 rw[Array.mapM_eq_mapM_toList]
 have key:∀l:List Field,(∀f∈l,∃j,P.info? f.type=some j)->(l.mapM fun(f:Field)=>(do pure (f.offset,<-sizeOf f.type):Sem (Nat×Nat))).run P w= .ok (l.map fun f=>(f.offset,P.cellsOf f.type)) w:=by
  intro l
  induction l with
  |nil=>intro _;rfl
  |cons f l ih=>
   intro hl
   obtain⟨j,hj⟩:=hl f List.mem_cons_self
   simp only[List.mapM_cons,Sem.run_bind,dZ hj,Result.andThen_ok,Sem.run_pure,ih fun g hg=>hl g (List.mem_cons_of_mem _ hg),List.map_cons]
   simp[Program.cellsOf,hj]
 rw[Sem.run_map,key gs.toList (fun f hf=>hi f (by simpa using hf)),Result.andThen_ok]
 have e:(gs.toList.map fun f=>(f.offset,P.cellsOf f.type)).toArray=gs.map fun f=>(f.offset,P.cellsOf f.type):=by
  apply Array.ext'
  rw[Array.toList_map]
 rw[e]
end Go.Vc
end

section
set_option linter.unusedVariables false
set_option linter.unusedSimpArgs false
namespace Go.Vc
open Go
variable {P:Program} {X:Ctx} {w0:World} {foot:gM} {base:Mem} {S:St} {E:Env} {a:Act} {w:World} {ctx:c9}
theorem EB {t:Nat} (h:0<P.cellsOf t):∃j,P.info? t=some j:=by
 unfold Program.cellsOf at h
 cases hh:P.info? t with
 |none=>rw[hh] at h;simp at h
 |some j=>exact⟨j,rfl⟩
theorem AH (hT:dx P X.aA) (h:SRel w0 foot base S E a w) (hc:br a ctx) {o:Oper} {t:Nat} {ps:Array (Nat×Operand)} (ho:o.op= .build t ps) {r:b9}
  (hr:(do
   let i <-ti X t
   match i.d with
   | .struct fs=>(do
    cS (fs.all fun f=>Nat.blt 0 f.2.1)
    let z <-RM.ofOption (mi i.zero.cells.toList)
    let cs <-ve fs ps.toList z
    kL (.agg cs))
   | .array n e=>(do
    let j <-ti X e
    let z <-RM.ofOption (mi i.zero.cells.toList)
    let cs <-ve (SE n j.size e) ps.toList z
    kL (.agg cs))
   |_=> .fail:RM b9).run S ctx=some r):bZ P w0 foot base S E a w o r:=by
 obtain⟨i,h1,hr⟩:=RM.run_bind' hr
 obtain⟨hs,j,hj,e1,e2,e3⟩:=dh hT h1
 split at hr
 ·rename_i fs hd
  rw[hd] at hs
  obtain⟨gs,hu,rfl⟩:=lV hs
  obtain⟨u,h2,hr⟩:=RM.run_bind' hr
  obtain⟨z,h3,hr⟩:=RM.run_bind' hr
  obtain⟨cs,h4,hr⟩:=RM.run_bind' hr
  rw[lW hr]
  have wX:=bR h2
  have aeB:∀f∈gs,∃j,P.info? f.type=some j:=fun f hf=>by
   rw[List.all_map,List.all_eq_true] at wX
   have:=wX f (by simpa using hf)
   exact EB (Nat.le_of_ble_eq_true this)
  obtain⟨fC,k1,k2⟩:=vd h hc (pl:=fun i=>(gs.map fun f=>(f.offset,P.cellsOf f.type))[i]?) (fun i off size t hf=>by
   rw[List.getElem?_map] at hf
   obtain⟨g,hg,e⟩:=Option.map_eq_some_iff.1 hf
   simp only[Prod.mk.injEq] at e
   have R7:gs[i]? =some g:=by simpa using hg
   simp[R7,e.1,e.2.1]) h4 (nP (b0 h3))
  refine bZ.value (v:= .agg fC) (w':=w) ?_ (iF.pure h.toHRel ⟨fC,rfl,k2⟩)
  have hm:=Ei (P:=P) (w:=w) gs aeB
  simp only[execOp,ho,Instr.build,Sem.run_bind,kj hj e3,run_underlying hu,Result.andThen_ok]
  simp only[Sem.run_bind,hm,Result.andThen_ok]
  simp at k1
  simp[k1]
 ·rename_i n e hd
  rw[hd] at hs
  have hu:=sD hs
  obtain⟨i',h2,hr⟩:=RM.run_bind' hr
  obtain⟨z,h3,hr⟩:=RM.run_bind' hr
  obtain⟨cs,h4,hr⟩:=RM.run_bind' hr
  rw[lW hr]
  obtain⟨nI,j',Nl,e1',e2',e3'⟩:=dh hT h2
  obtain⟨fC,k1,k2⟩:=vd h hc (pl:=fun k=>some (k*j'.size,j'.size)) (fun k off size t hf=>by
   unfold SE at hf
   rw[List.getElem?_map] at hf
   obtain⟨g,hg,e⟩:=Option.map_eq_some_iff.1 hf
   simp only[Prod.mk.injEq] at e
   have hg:k=g:=by
    obtain⟨dQ,hg⟩:=List.getElem?_eq_some_iff.1 hg
    simpa using hg
   subst hg
   rw[e1',e.1,e.2.1]) h4 (nP (b0 h3))
  refine bZ.value (v:= .agg fC) (w':=w) ?_ (iF.pure h.toHRel ⟨fC,rfl,k2⟩)
  simp only[execOp,ho,Instr.build,Sem.run_bind,kj hj e3,run_underlying hu,Result.andThen_ok,dZ Nl]
  simp at k1
  simp[k1]
 ·cases hr
theorem RB {d:TD} {t:Nat} (hs:kb P t=d) {cs ds:List C} {vs:Array Value} {off:Nat} {s:SV} {j:TypeInfo} (hj:P.info? t=some j) (hv:b7 E ds vs.toList) (hd:cs=(ds.drop off).take j.size) (hl:off+j.size<=ds.length)
  (hr:(CS d cs).run S ctx=some s):∃v,(part t vs off).run P w= .ok v w/\fz E s v:=by
 subst hs
 have Nd:=hv.length
 have mF:=(hv.drop off).take j.size
 rw[<-hd] at mF
 unfold CS at hr
 split at hr
 ·rename_i fs hs
  cases hr
  obtain⟨gs,hu,_⟩:=lV hs
  refine⟨.agg (vs.extract off (off+j.size)),by simp[part,qI hu,dZ hj],_,rfl,?_⟩
  have e:(vs.extract off (off+j.size)).toList=(vs.toList.drop off).take j.size:=by simp[List.extract_eq_take_drop]
  rw[e]
  exact mF
 ·rename_i n e' hs
  cases hr
  refine⟨.agg (vs.extract off (off+j.size)),by simp[part,wC (sD hs),dZ hj],_,rfl,?_⟩
  have e:(vs.extract off (off+j.size)).toList=(vs.toList.drop off).take j.size:=by simp[List.extract_eq_take_drop]
  rw[e]
  exact mF
 ·cases hr
 ·split at hr
  ·rename_i h1 h2 h3 c
   cases hr
   obtain⟨v,us,he,k1,k2⟩:=mF
   refine⟨v,?_,k1⟩
   have KM:(isAgg t).run P w= .ok false w:=om (by cases hs:kb P t<;>simp_all)
   have wU:vs[off]? =some v:=by
    have:((vs.toList.drop off).take j.size)[0]? =some v:=by rw[he];rfl
    have hj1:0<j.size:=by
     rcases Nat.eq_zero_or_pos j.size with hz|hz
     ·rw[hz] at hd;simp at hd
     ·exact hz
    rw[List.getElem?_take_of_lt hj1,List.getElem?_drop] at this
    simpa using this
   simp[part,KM,wU]
  ·cases hr
theorem VB (hT:dx P X.aA) (h:SRel w0 foot base S E a w) (hc:br a ctx) {o:Oper} {t:Nat} {x:Operand} {f:Nat} (ho:o.op= .field t x f) {r:b9}
  (hr:(do
   let i <-ti X t
   match i.d,<-ev x with
   | .struct fs,.agg cs=>(match fs[f]? with
    |some (off,size,t)=>(do
     let j <-ti X t
     cS (Nat.ble (off+size) cs.length&&Nat.beq j.size size)
     kL (<-CS j.d ((cs.drop off).take size)))
    |none=> .fail)
   |_,_=> .fail:RM b9).run S ctx=some r):bZ P w0 foot base S E a w o r:=by
 obtain⟨i,h1,hr⟩:=RM.run_bind' hr
 obtain⟨s,h2,hr⟩:=RM.run_bind' hr
 obtain⟨hs,j,hj,e1,e2,e3⟩:=dh hT h1
 have hv:=gi h hc h2
 split at hr
 ·rename_i fs cs hd
  rw[hd] at hs
  obtain⟨gs,hu,rfl⟩:=lV hs
  obtain⟨vs,De,jJ⟩:=hv
  split at hr
  ·rename_i off size tf hf
   obtain⟨i',h3,hr⟩:=RM.run_bind' hr
   obtain⟨u,h4,hr⟩:=RM.run_bind' hr
   obtain⟨s',h5,hr⟩:=RM.run_bind' hr
   rw[lW hr]
   obtain⟨nI,j',Nl,e1',e2',e3'⟩:=dh hT h3
   have hb:=bR h4
   simp only[Bool.and_eq_true] at hb
   have yy:=Nat.le_of_ble_eq_true hb.1
   have Dg:=Nat.eq_of_beq_eq_true hb.2
   rw[List.getElem?_map] at hf
   obtain⟨g,hg,e⟩:=Option.map_eq_some_iff.1 hf
   simp only[Prod.mk.injEq] at e
   have R7:gs[f]? =some g:=by simpa using hg
   obtain⟨eo,es,et⟩:=e
   subst eo et
   have iT:j'.size=size:=by omega
   obtain⟨v,k1,k2⟩:=RB (w:=w) nI Nl jJ (off:=g.offset) (by rw[iT]) (by omega) h5
   refine bZ.value (v:=v) (w':=w) ?_ (iF.pure h.toHRel k2)
   simp[execOp,ho,Instr.field,run_underlying hu,R7,De,asAgg,k1]
  ·cases hr
 ·cases hr
theorem fz.go_get:∀{l:List (Bool×List C)} {vs:List Value},fz.go E l vs->∀(k:Nat) g cs,l[k]? =some (g,cs)->∃v,vs[k]? =some v/\
  (match g with |true=>∃ws,v= .agg ws/\b7 E cs ws.toList|false=>∃c,cs=[c]/\gV E c v)
 |[],_,_,k,g,cs,h=>by simp at h
 |(g',YD)::l,_,hh,0,g,cs,h=>by
  obtain⟨v,us,hv,k1,k2⟩:=hh
  subst hv
  simp only[List.getElem?_cons_zero,Option.some.injEq,Prod.mk.injEq] at h
  obtain⟨rfl,rfl⟩:=h
  exact⟨v,rfl,k1⟩
 |(g',YD)::l,_,hh,k+1,g,cs,h=>by
  obtain⟨v,us,hv,k1,k2⟩:=hh
  subst hv
  simpa using fz.go_get k2 k g cs (by simpa using h)
theorem P5 (h:SRel w0 foot base S E a w) (hc:br a ctx) {o:Oper} {x:Operand} {k:Nat} (ho:o.op= .extract x k) {r:b9}
  (hr:(do
   match <-ev x with
   | .yv vs=>(match vs[k]? with
    |some (true,cs)=>kL (.agg cs)
    |some (false,[c])=>cM c
    |_=> .fail)
   |_=> .fail:RM b9).run S ctx=some r):bZ P w0 foot base S E a w o r:=by
 obtain⟨s,h1,hr⟩:=RM.run_bind' hr
 have hv:=gi h hc h1
 split at hr
 ·rename_i l
  obtain⟨vs,De,jJ⟩:=hv
  split at hr
  ·rename_i cs hk
   rw[lW hr]
   obtain⟨v,k1,ws,rfl,k2⟩:=fz.go_get jJ k _ _ hk
   refine bZ.value (v:= .agg ws) (w':=w) ?_ (iF.pure h.toHRel ⟨ws,rfl,k2⟩)
   have BT:vs[k]? =some (.agg ws):=by simpa using k1
   simp[execOp,ho,Instr.extract,De,BT]
  ·rename_i c hk
   rw[fY hr]
   obtain⟨v,k1,c',hcc,k2⟩:=fz.go_get jJ k _ _ hk
   cases hcc
   refine bZ.value (v:=v) (w':=w) ?_ (iF.pure h.toHRel k2)
   have BT:vs[k]? =some v:=by simpa using k1
   simp[execOp,ho,Instr.extract,De,BT]
  ·cases hr
 ·cases hr
theorem qe (k:IntKind) (n:Int):bo k (k.wrap n):=by
 cases k<;>simp[bo,IntKind.min,IntKind.max,IntKind.wrap,IntKind.signed,IntKind.bits]<;>(first|(split<;>omega)|omega)
theorem KC {k:IntKind} {n:Int} (h:bo k n):k.wrap n=n:=by
 cases k<;>simp[bo,IntKind.min,IntKind.max,IntKind.wrap,IntKind.signed,IntKind.bits] at * <;>(first|(split<;>omega)|omega)
theorem Qu {wr:Bool} {k:IntKind} {n:Int} {r:b9} (h:(arith wr k n).run S ctx=some r) (hc:∀c∈r.conds,c):
  ∃m,r.val=some (.one (.aG (.int k) m))/\m=k.wrap n/\bo k m/\r.cn=[]/\r.del=[]/\r.new=[]:=by
 unfold arith at h
 split at h
 ·cases h
  exact⟨_,rfl,rfl,qe _ _,rfl,rfl,rfl⟩
 ·cases h
  have:bo k n:=hc _ (by simp)
  exact⟨_,rfl,(KC this).symm,this,rfl,rfl,rfl⟩
def fv (E:Env) (r:b9) (v:Value):Prop:=(∃s,r.val=some s/\fz E s v)/\r.cn=[]/\r.del=[]/\r.new=[]
theorem fv.after (h:HRel w0 foot base S.bl S.used E w) {r:b9} {v:Value} (hv:fv E r v):iF w0 foot base S.bl S.used E r E w v:=by
 obtain⟨⟨s,h1,h2⟩,h3,h4,h5⟩:=hv
 refine⟨.refl _,?_,?_⟩
 ·have:gU r S.bl=S.bl:=by simp[gU,h3,h4]
  rw[this,h5]
  exact h
 ·rw[h1];exact h2
theorem fv.cM {c:C} {r:b9} {v:Value} (h:(Vc.cM c).run S ctx=some r) (hv:gV E c v):fv E r v:=by
 rw[fY h];exact⟨⟨_,rfl,hv⟩,rfl,rfl,rfl⟩
theorem fv.int {k:IntKind} {n:Int} {r:b9} {conds:List Prop} (h:r={val:=some (.one (.aG (.int k) n)),conds:=conds}) (hn:bo k n):fv E r (.int k n):=by
 rw[h];exact⟨⟨_,rfl,rfl,rfl,hn⟩,rfl,rfl,rfl⟩
theorem fv.bool {b:Bool} {r:b9} (h:(Vc.cM (.aG .bool b)).run S ctx=some r):fv E r (.bool b):= .cM h ⟨rfl,rfl⟩
theorem rf {wr:Bool} {k:IntKind} {n:Int} {r:b9} (h:(arith wr k n).run S ctx=some r) (hc:∀c∈r.conds,c):fv E r (.int k (k.wrap n)):=by
 obtain⟨m,h1,h2,h3,h4,h5,h6⟩:=Qu h hc
 subst h2
 exact⟨⟨_,h1,rfl,rfl,h3⟩,h4,h5,h6⟩
theorem yl {k:IntKind} {x z:Int} (hx:bo k x) (h1:0<=x->0<=z/\z<=x) (h2:x<0->x<=z/\z<=0):bo k z:=by
 have h0:k.min<=0/\0<=k.max:=by cases k<;>decide
 unfold bo at *
 by_cases h:0<=x
 ·have:=h1 h;omega
 ·have:=h2 (by omega);omega
theorem Uy {k:IntKind} {x y:Int} (hx:bo k x):bo k (x.tmod y):=by
 have h1:(x.tmod y).natAbs<=x.natAbs:=by
  rw[Int.natAbs_tmod]
  exact Nat.mod_le _ _
 have h2:0<=x->0<=x.tmod y:=Int.tmod_nonneg y
 have h3:x<0->x.tmod y<=0:=fun h=>by
  have:=Int.tmod_nonneg (a:= -x) y (by omega)
  rw[Int.neg_tmod] at this
  omega
 exact yl hx (fun h=>by have:=h2 h;omega) (fun h=>by have:=h3 h;omega)
theorem M5 {wr:Bool} {op:BinOp} {k:IntKind} {x y:Int} {r:b9} (hx:bo k x) (hy:bo k y) (h:(RQ wr op k x y).run S ctx=some r) (hc:∀c∈r.conds,c) (t:Nat):
  ∃v,(binOp op t (.int k x) (.int k y)).run P w= .ok v w/\fv E r v:=by
 cases op<;>simp only[RQ] at h
 case add=>exact⟨.int k (k.wrap (x+y)),by simp[binOp,Op.intArith],rf h hc⟩
 case sub=>exact⟨.int k (k.wrap (x - y)),by simp[binOp,Op.intArith],rf h hc⟩
 case mul=>exact⟨.int k (k.wrap (x*y)),by simp[binOp,Op.intArith],rf h hc⟩
 case quo=>
  cases h
  have XG:y≠0:=hc (y≠0) (by simp)
  exact⟨.int k (k.wrap (x.tdiv y)),by simp[binOp,Op.intDiv,XG],.int rfl (qe _ _)⟩
 case rem=>
  cases h
  have XG:y≠0:=hc (y≠0) (by simp)
  exact⟨.int k (x.tmod y),by simp[binOp,Op.intDiv,XG],.int rfl (Uy hx)⟩
 case and=>exact⟨.int k (bitsOf .and k x y),by simp[binOp,Op.intBits,bitsOf],.cM h ⟨rfl,rfl,qe _ _⟩⟩
 case or=>exact⟨.int k (bitsOf .or k x y),by simp[binOp,Op.intBits,bitsOf],.cM h ⟨rfl,rfl,qe _ _⟩⟩
 case xor=>exact⟨.int k (bitsOf .xor k x y),by simp[binOp,Op.intBits,bitsOf],.cM h ⟨rfl,rfl,qe _ _⟩⟩
 case andNot=>exact⟨.int k (bitsOf .andNot k x y),by simp[binOp,Op.intBits,bitsOf],.cM h ⟨rfl,rfl,qe _ _⟩⟩
 case eql=>exact⟨.bool (x==y),by simp[binOp,Op.intCmp],.bool h⟩
 case neq=>exact⟨.bool (x !=y),by simp[binOp,Op.intCmp],.bool h⟩
 case lss=>exact⟨.bool (decide (x<y)),by simp[binOp,Op.intCmp],.bool h⟩
 case leq=>exact⟨.bool (decide (x<=y)),by simp[binOp,Op.intCmp],.bool h⟩
 case gtr=>exact⟨.bool (decide (x>y)),by simp[binOp,Op.intCmp],.bool h⟩
 case geq=>exact⟨.bool (decide (x>=y)),by simp[binOp,Op.intCmp],.bool h⟩
 all_goals cases h
theorem VC {k:IntKind} {x:Int} {n:Nat} (hx:bo k x):bo k (x.fdiv (2 ^ n)):=by
 have hp:(0:Int)<2 ^ n:=Int.pow_pos (by decide)
 rw[Int.fdiv_eq_ediv_of_nonneg _ (Int.le_of_lt hp)]
 have h1:0<=x->x / 2 ^ n<=x:=fun h=>Int.ediv_le_self _ h
 have h2:0<=x->0<=x / 2 ^ n:=fun h=>Int.ediv_nonneg h (Int.le_of_lt hp)
 have h3:x<0->x / 2 ^ n<0:=fun h=>Int.ediv_neg_of_neg_of_pos h hp
 have h4:x<0->x<=x / 2 ^ n:=fun h=>by
  rw[Int.le_ediv_iff_mul_le hp]
  have:x*2 ^ n<=x*1:=Int.mul_le_mul_of_nonpos_left (by omega) (by omega)
  omega
 exact yl hx (fun h=>⟨h2 h,h1 h⟩) (fun h=>⟨h4 h,by have:=h3 h;omega⟩)
theorem Hh {op:BinOp} {j k:IntKind} {x y:Int} {r:b9} (hx:bo j x) (h:(Hi op j x y).run S ctx=some r) (hc:∀c∈r.conds,c) (t:Nat):
  ∃v,(binOp op t (.int j x) (.int k y)).run P w= .ok v w/\fv E r v:=by
 cases op<;>simp only[Hi] at h
 case shl=>
  cases h
  have hy:0<=y:=hc (0<=y) (by simp)
  have Nc:¬y<0:=by omega
  exact⟨_,by simp only[binOp,Op.shift,if_neg Nc];rfl,.int rfl (qe _ _)⟩
 case shr=>
  cases h
  have hy:0<=y:=hc (0<=y) (by simp)
  have Nc:¬y<0:=by omega
  exact⟨_,by simp only[binOp,Op.shift,if_neg Nc];rfl,.int rfl (VC hx)⟩
 all_goals cases h
end Go.Vc
end

section
set_option linter.unusedVariables false
set_option linter.unusedSimpArgs false
namespace Go.Vc
open Go
variable {P:Program} {X:Ctx} {w0:World} {foot:gM} {base:Mem} {S:St} {E:Env} {a:Act} {w:World} {ctx:c9}
theorem Ek (op:BinOp) (t:TypeId) (x y:Operand) (j k:IntKind) (m n:Int):(eqGuard op t x y (.int j m) (.int k n)).run P w= .ok () w:=by
 cases op<;>simp[eqGuard]
theorem CE (op:BinOp) (t:TypeId) (x y:Operand) (m n:Bool):(eqGuard op t x y (.bool m) (.bool n)).run P w= .ok () w:=by
 cases op<;>simp[eqGuard]
theorem Ej (op:BinOp) (t:TypeId) (x y:Operand) (m n:ByteArray):(eqGuard op t x y (.string m) (.string n)).run P w= .ok () w:=by
 cases op<;>simp[eqGuard]
theorem oD (s:List UInt8):(⟨⟨s⟩⟩:ByteArray).toList=s:=by rw[Go.ByteArray.toList_eq]
theorem Ea (s:List UInt8):(⟨⟨s⟩⟩:ByteArray).size=s.length:=rfl
theorem Oo (s t:List UInt8):(⟨⟨s⟩⟩:ByteArray)++⟨⟨t⟩⟩=⟨⟨s++t⟩⟩:=by
 apply ByteArray.ext
 simp
theorem Mn {op:BinOp} {x y:List UInt8} {r:b9} (h:(QQ op x y).run S ctx=some r) (hc:∀c∈r.conds,c) (t:Nat):
  ∃v,(binOp op t (.string ⟨⟨x⟩⟩) (.string ⟨⟨y⟩⟩)).run P w= .ok v w/\fv E r v:=by
 cases op<;>simp only[QQ] at h
 case add=>
  cases h
  have hl:x.length+y.length<=aM:=hc _ (by simp)
  refine⟨.string ⟨⟨x++y⟩⟩,?_,⟨_,rfl,rfl,rfl,by simpa using hl⟩,rfl,rfl,rfl⟩
  have FV:IntKind.i64.max=9223372036854775807:=by decide
  have:¬(((⟨⟨x⟩⟩:ByteArray).size+(⟨⟨y⟩⟩:ByteArray).size:Nat):Int)>IntKind.i64.max:=by
   rw[Ea,Ea,FV]
   unfold aM at hl
   omega
  simp only[binOp,Op.stringOp,if_neg this,Oo]
  rfl
 case eql=>exact⟨.bool (x==y),by simp only[binOp,Op.stringOp,oD];rfl,.bool h⟩
 case neq=>exact⟨.bool (!(x==y)),by simp only[binOp,Op.stringOp,oD];rfl,.bool h⟩
 case lss=>exact⟨.bool (Op.bytesLess x y),by simp only[binOp,Op.stringOp,oD];rfl,.bool h⟩
 all_goals cases h
theorem II {d t:Nat} {c c':C} {b:Bool} {u v:Value} (hb:VG (kb P t) c c'=some b) (hu:gV E c u) (hv:gV E c' v):
  (Op.equalIn (d+1) t u v).run P w= .ok b w:=by
 unfold VG at hb
 split at hb
 ·rename_i k' j x k y hs
  split at hb
  ·rename_i JM
   cases hb
   have e:=ql JM
   subst e
   obtain⟨_,h1,_⟩:=hu
   obtain⟨_,h2,_⟩:=hv
   simp only[List.cons.injEq,and_true] at h1 h2
   subst h1 h2
   exact run_equalIn_int w d t _ k' _ _ (rG hs)
  ·cases hb
 ·rename_i hs
  cases hb
  obtain⟨_,h1⟩:=hu
  obtain⟨_,h2⟩:=hv
  simp only[dj,List.cons.injEq,and_true] at h1 h2
  subst h1 h2
  exact run_equalIn_bool w d t _ _ (ux hs)
 ·rename_i hs
  cases hb
  obtain⟨_,h1,_⟩:=hu
  obtain⟨_,h2,_⟩:=hv
  simp only[List.cons.injEq,and_true] at h1 h2
  subst h1 h2
  rw[run_equalIn_string w d t _ _ (qf hs),oD,oD]
 ·cases hb
theorem F4 {t:Nat} {c c':C} {b:Bool} (hb:VG (kb P t) c c'=some b):(match kb P t with | .struct _=>false| .array _ _=>false| .map _ _=>true| .other=>false|_=>true)=true:=by
 unfold VG at hb
 split at hb
 ·rename_i hs;rw[hs]
 ·rename_i hs;rw[hs]
 ·rename_i hs;rw[hs]
 ·cases hb
theorem iu {t off:Nat} {vs:Array Value} {v:Value} (h:(match kb P t with | .struct _=>false| .array _ _=>false| .map _ _=>true| .other=>false|_=>true)=true) (hv:vs[off]? =some v):
  (part t vs off).run P w= .ok v w:=by
 simp[part,om h,hv]
theorem yp (hT:dx P X.aA) {d:Nat} {xs ys:Array Value}:∀{gs:List Field} {cs ds:List C} {b:Bool},
  (eqFields X (gs.map fun f=>(f.offset,P.cellsOf f.type,f.type)) cs ds).run S ctx=some b->b7 E cs xs.toList->b7 E ds ys.toList->(gs.all fun f=>f.name !="_")=true->
  (Op.eqFields (d+1) xs ys gs).run P w= .ok b w
 |[],cs,ds,b,hr,_,_,_=>by cases hr;simp[Op.eqFields]
 |g::gs,cs,ds,b,hr,hx,hy,hn=>by
  simp only[List.map_cons,eqFields] at hr
  have bw:=RM.run_bind' hr
  clear hr
  obtain⟨i,h1,hr⟩:=bw
  obtain⟨hs,_⟩:=dh hT h1
  simp only[List.all_cons,Bool.and_eq_true,bne_iff_ne] at hn
  split at hr
  ·rename_i c c' hc Nr
   have bw:=RM.run_bind' hr
   clear hr
   obtain⟨b1,h2,hr⟩:=bw
   have bw:=RM.run_bind' hr
   clear hr
   obtain⟨b2,h3,hr⟩:=bw
   cases RM.run_pure' hr
   have h2:=b0 h2
   rw[<-hs] at h2
   obtain⟨u,hu,ku⟩:=hx.get _ _ hc
   obtain⟨v,hv,kv⟩:=hy.get _ _ Nr
   have Ni:=F4 h2
   have ih:=yp hT (d:=d) h3 hx hy (by simpa using hn.2)
   simp only[Op.eqFields,if_pos hn.1,Sem.run_bind,iu Ni (show xs[g.offset]? =some u by simpa using hu),iu Ni (show ys[g.offset]? =some v by simpa using hv),
    Result.andThen_ok,II h2 ku kv]
   cases b1 with
   |true=>simpa using ih
   |false=>simp
  ·cases hr
theorem Gc {wr:Bool} {op:BinOp} {s s':SV} {u v:Value} {r:b9} (hu:fz E s u) (hv:fz E s' v) (hr:(L7 wr op s s').run S ctx=some r) (hc:∀c∈r.conds,c) (t:Nat) (x y:Operand)
  (ht:∀b b',s= .one (.aG .bool b)->s'= .one (.aG .bool b')->P.underlying t=some .bool):
  ∃z,(do eqGuard op t x y u v;binOp op t u v:Sem Value).run P w= .ok z w/\fv E r z:=by
 unfold L7 at hr
 split at hr
 ·rename_i j m k n
  obtain⟨_,h1,nY⟩:=hu
  obtain⟨_,h2,zF⟩:=hv
  simp only[List.cons.injEq,and_true] at h1 h2
  subst h1 h2
  have hg:=Ek (P:=P) (w:=w) op t x y j k m n
  simp only[Sem.run_bind]
  rw[hg,Result.andThen_ok]
  split at hr
  ·exact Hh nY hr hc t
  ·split at hr
   ·rename_i JM
    have e:=ql JM
    subst e
    exact M5 nY zF hr hc t
   ·cases hr
 ·obtain⟨_,h1,_⟩:=hu
  obtain⟨_,h2,_⟩:=hv
  simp only[List.cons.injEq,and_true] at h1 h2
  subst h1 h2
  rw[Sem.run_bind,Ej,Result.andThen_ok]
  exact Mn hr hc t
 ·rename_i m n
  have hb:=ht _ _ rfl rfl
  obtain⟨_,h1⟩:=hu
  obtain⟨_,h2⟩:=hv
  simp only[dj,List.cons.injEq,and_true] at h1 h2
  subst h1 h2
  simp only[Sem.run_bind]
  have key:(Op.equal t (.bool m) (.bool n)).run P w= .ok (Ty.B m==Ty.B n) w:=by
   unfold Op.equal
   exact run_equalIn_bool w 9999 t _ _ hb
  have hg:=fun op'=>CE (P:=P) (w:=w) op' t x y m n
  split at hr
  ·exact⟨.bool (Ty.B m==Ty.B n),by rw[hg,Result.andThen_ok];simp[binOp,key],.bool hr⟩
  ·exact⟨.bool (!(Ty.B m==Ty.B n)),by rw[hg,Result.andThen_ok];simp[binOp,key],.bool hr⟩
  ·cases hr
 ·cases hr
theorem td {t e:Nat} (hu:P.underlying t=some (.pointer e)) (d:Nat) (p:Option Addr):(Op.equalIn (d+1) t (.pointer p) (.pointer none)).run P w= .ok p.isNone w:=by
 cases p with
 |none=>simp only[Op.equalIn,Sem.run_bind,run_underlying hu,Result.andThen_ok];rfl
 |some q=>simp only[Op.equalIn,Sem.run_bind,run_underlying hu,Result.andThen_ok];rfl
theorem wG (op:BinOp) (t:Nat) (x y:Operand) (p:Option Addr):(eqGuard op t x y (.pointer p) (.pointer none)).run P w= .ok () w:=by
 unfold eqGuard
 split<;>rfl
theorem Hp {t e:Nat} (hu:P.underlying t=some (.pointer e)) (x y:Operand) (p:Option Addr):
  (do eqGuard .eql t x y (.pointer p) (.pointer none);binOp .eql t (.pointer p) (.pointer none):Sem Value).run P w= .ok (.bool p.isNone) w:=by
 rw[Sem.run_bind,wG,Result.andThen_ok]
 show(do pure (.bool (<-Op.equal t (.pointer p) (.pointer none))):Sem Value).run P w=_
 rw[Sem.run_bind,show Op.equal t (.pointer p) (.pointer none)=Op.equalIn (9999+1) t (.pointer p) (.pointer none) from rfl,td hu]
 rfl
theorem Ho {t e:Nat} (hu:P.underlying t=some (.pointer e)) (x y:Operand) (p:Option Addr):
  (do eqGuard .neq t x y (.pointer p) (.pointer none);binOp .neq t (.pointer p) (.pointer none):Sem Value).run P w= .ok (.bool (!p.isNone)) w:=by
 rw[Sem.run_bind,wG,Result.andThen_ok]
 show(do pure (.bool (!(<-Op.equal t (.pointer p) (.pointer none)))):Sem Value).run P w=_
 rw[Sem.run_bind,show Op.equal t (.pointer p) (.pointer none)=Op.equalIn (9999+1) t (.pointer p) (.pointer none) from rfl,td hu]
 rfl
theorem O2 {op:BinOp} {c:C} {u:Value} {r:b9} (hu:gV E c u) (hr:(Xl op c).run S ctx=some r) {t e:Nat} (ht:P.underlying t=some (.pointer e)) (x y:Operand):
  ∃z,(do eqGuard op t x y u (.pointer none);binOp op t u (.pointer none):Sem Value).run P w= .ok z w/\fv E r z:=by
 have key:∀(p:Option Addr) (b:Bool),u= .pointer p->p.isNone=b->(GH op b).run S ctx=some r->∃z,(do eqGuard op t x y u (.pointer none);binOp op t u (.pointer none):Sem Value).run P w= .ok z w/\fv E r z:=fun p b hp hb hr=>by
  subst hp hb
  cases op
  case eql=>exact⟨_,Hp ht x y p,.bool hr⟩
  case neq=>exact⟨_,Ho ht x y p,.bool hr⟩
  all_goals cases hr
 cases c with
 |aG t' o=>
  cases t' with
  |ptr tt=>
   have hr:(GH op (Option.isNone (α:=tt.den) o)).run S ctx=some r:=hr
   have hv:dj E.F (.ptr tt) o [u]:=hu.2
   rcases hv with ⟨ho,hv⟩|⟨q,ho,b,off,hv,_⟩
   ·simp only[List.cons.injEq,and_true] at hv
    exact key none (Option.isNone (α:=tt.den) o) hv (by rw[ho];rfl) hr
   ·simp only[List.cons.injEq,and_true] at hv
    exact key _ (Option.isNone (α:=tt.den) o) hv (by rw[ho];rfl) hr
  |_=>cases hr
 |ptr b o=>obtain⟨p,_,_,hv⟩:=hu;exact key _ false hv rfl hr
 |mD t b i o=>obtain⟨p,_,_,_,hv⟩:=hu;exact key _ false hv rfl hr
 |ta t xs i o=>obtain⟨_,b,off,hv,_⟩:=hu;exact key _ false hv rfl hr
 |_=>cases hr
theorem QP (hT:dx P X.aA) {t:Nat} {i:TI} (h:(ti X t).run S ctx=some i) (he:i.eq=true):uH P t=true:=by
 have h:=b0 h
 obtain⟨hm,rfl⟩:=uv h
 rw[qj hT.eqs i hm]
 exact he
theorem rZ (hT:dx P X.aA) {d:Nat} {xs ys:Array Value}:∀{gs:List Field} {cs ds:List C} {b:Bool},
  (nO X (gs.map fun f=>(f.offset,P.cellsOf f.type,f.type)) cs ds).run S ctx=some b->b7 E cs xs.toList->b7 E ds ys.toList->(gs.all fun f=>f.name !="_")=true->
  (Op.eqFields (d+2) xs ys gs).run P w= .ok b w
 |[],cs,ds,b,hr,_,_,_=>by cases hr;simp[Op.eqFields]
 |g::gs,cs,ds,b,hr,hx,hy,hn=>by
  simp only[List.map_cons,nO] at hr
  have bw:=RM.run_bind' hr
  clear hr
  obtain⟨i,h1,hr⟩:=bw
  obtain⟨hs,j,hj,e1,_⟩:=dh hT h1
  simp only[List.all_cons,Bool.and_eq_true,bne_iff_ne] at hn
  split at hr
  ·rename_i fs hd
   have bw:=RM.run_bind' hr
   clear hr
   obtain⟨_,h2,hr⟩:=bw
   have bw:=RM.run_bind' hr
   clear hr
   obtain⟨b1,h3,hr⟩:=bw
   have bw:=RM.run_bind' hr
   clear hr
   obtain⟨b2,h4,hr⟩:=bw
   cases RM.run_pure' hr
   have h2:=bR h2
   simp only[Bool.and_eq_true] at h2
   obtain⟨q1,q2,q3,q4⟩:=h2
   have q2:=Nat.eq_of_beq_eq_true q2
   have q3:=Nat.le_of_ble_eq_true q3
   have q4:=Nat.le_of_ble_eq_true q4
   have heq:=QP hT h1 q1
   unfold uH at heq
   simp only[Bool.and_eq_true,Bool.not_eq_true'] at heq
   rw[hd] at hs
   obtain⟨ks,hu,rfl⟩:=lV hs
   have hks:P.fieldsOf g.type=ks:=by simp[Program.fieldsOf,hu]
   have iT:j.size=P.cellsOf g.type:=by omega
   have pt:∀vs:Array Value,(part g.type vs g.offset).run P w= .ok (.agg (vs.extract g.offset (g.offset+j.size))) w:=fun vs=>by simp[part,qI hu,dZ hj]
   have ex:∀vs:Array Value,(vs.extract g.offset (g.offset+j.size)).toList=(vs.toList.drop g.offset).take (P.cellsOf g.type):=fun vs=>by
    rw[iT]
    simp[List.extract_eq_take_drop]
   have ih:=rZ hT (d:=d) h4 hx hy (by simpa using hn.2)
   have aep:=yp hT (d:=d) (w:=w) (xs:=xs.extract g.offset (g.offset+j.size)) (ys:=ys.extract g.offset (g.offset+j.size)) h3
    (by rw[ex];exact(hx.drop _).take _) (by rw[ex];exact(hy.drop _).take _) (by have:=heq.2;rw[hu] at this;exact this)
   have aiR:(Op.equalIn (d+2) g.type (.agg (xs.extract g.offset (g.offset+j.size))) (.agg (ys.extract g.offset (g.offset+j.size)))).run P w= .ok b1 w:=by
    rw[show d+2=(d+1)+1 from rfl,run_equalIn_struct w (d+1) g.type _ _ (by rw[hks];exact hu) heq.1.2,hks]
    exact aep
   simp only[Op.eqFields,if_pos hn.1,Sem.run_bind,pt,Result.andThen_ok,aiR]
   cases b1 with
   |true=>simpa using ih
   |false=>simp
  ·split at hr
   ·rename_i c c' hc Nr
    have bw:=RM.run_bind' hr
    clear hr
    obtain⟨b1,h2,hr⟩:=bw
    have bw:=RM.run_bind' hr
    clear hr
    obtain⟨b2,h3,hr⟩:=bw
    cases RM.run_pure' hr
    have h2:=b0 h2
    rw[<-hs] at h2
    obtain⟨u,hu,ku⟩:=hx.get _ _ hc
    obtain⟨v,hv,kv⟩:=hy.get _ _ Nr
    have Ni:=F4 h2
    have ih:=rZ hT (d:=d) h3 hx hy (by simpa using hn.2)
    simp only[Op.eqFields,if_pos hn.1,Sem.run_bind,iu Ni (show xs[g.offset]? =some u by simpa using hu),iu Ni (show ys[g.offset]? =some v by simpa using hv),
     Result.andThen_ok,II h2 ku kv]
    cases b1 with
    |true=>simpa using ih
    |false=>simp
   ·cases hr
theorem Wb (hT:dx P X.aA) (h:SRel w0 foot base S E a w) (hc:br a ctx) {o:Oper} {op:BinOp} {t yt:Nat} {x y:Operand} (ho:o.op= .binOp op t x y yt) {wr:Bool} {r:b9}
  (hr:(do
   let a <-ev x
   let b <-ev y
   match a,b with
   | .agg cs,.agg ds=>(do
    let i <-ti X t
    cS i.eq
    match op,i.d with
    | .eql,.struct fs=>(do cM (.aG .bool (<-nO X fs cs ds)))
    | .neq,.struct fs=>(do cM (.aG .bool (!(<-nO X fs cs ds))))
    |_,_=> .fail)
   | .one (.aG .bool _),.one (.aG .bool _)=>(do
    let i <-ti X t
    match i.d with
    | .bool=>L7 wr op a b
    |_=> .fail)
   | .one c,.one .o6=>(do
    let i <-ti X t
    match i.d with
    | .vX=>Xl op c
    |_=> .fail)
   |_,_=>L7 wr op a b:RM b9).run S ctx=some r) (cr:∀c∈r.conds,c):bZ P w0 foot base S E a w o r:=by
 have bw:=RM.run_bind' hr
 clear hr
 obtain⟨s,h1,hr⟩:=bw
 have bw:=RM.run_bind' hr
 clear hr
 obtain⟨s',h2,hr⟩:=bw
 have hx:=gi h hc h1
 have hy:=gi h hc h2
 have key:∀z,(do eqGuard op t x y (a.eval x) (a.eval y);binOp op t (a.eval x) (a.eval y):Sem Value).run P w= .ok z w->fv E r z->bZ P w0 foot base S E a w o r:=fun z hz hR=>by
  refine bZ.value (v:=z) (w':=w) ?_ (hR.after h.toHRel)
  simp only[execOp,ho]
  rw[Sem.run_bind,hz]
  rfl
 split at hr
 ·rename_i cs ds
  have bw:=RM.run_bind' hr
  clear hr
  obtain⟨i,h3,hr⟩:=bw
  have bw:=RM.run_bind' hr
  clear hr
  obtain⟨u,h4,hr⟩:=bw
  obtain⟨hs,_⟩:=dh hT h3
  obtain⟨xs,ex,kx⟩:=hx
  obtain⟨ys,ey,ky⟩:=hy
  have heq:uH P t=true:=by
   have h3:=b0 h3
   obtain⟨hm,rfl⟩:=uv h3
   rw[qj hT.eqs i hm]
   exact bR h4
  unfold uH at heq
  simp only[Bool.and_eq_true,Bool.not_eq_true'] at heq
  have go:∀fs b,i.d= .struct fs->(nO X fs cs ds).run S ctx=some b->(Op.equalIn 10000 t (.agg xs) (.agg ys)).run P w= .ok b w:=fun fs b hd hb=>by
   rw[hd] at hs
   obtain⟨gs,hu,rfl⟩:=lV hs
   have R5:P.fieldsOf t=gs:=by simp[Program.fieldsOf,hu]
   rw[show(10000:Nat)=9999+1 from rfl,run_equalIn_struct w 9999 t xs ys (by rw[R5];exact hu) heq.1.2,R5]
   refine rZ hT (d:=9997) hb kx ky ?_
   have:=heq.2
   rw[hu] at this
   exact this
  rw[ex,ey] at key
  split at hr
  ·rename_i fs hd
   have bw:=RM.run_bind' hr
   clear hr
   obtain⟨b,h5,hr⟩:=bw
   refine key (.bool b) ?_ (.bool hr)
   rw[Sem.run_bind,run_eqGuard_agg w _ _ _ _ _ _ heq.1.1,Result.andThen_ok,run_eql_struct,go _ _ hd h5]
   rfl
  ·rename_i fs hd
   have bw:=RM.run_bind' hr
   clear hr
   obtain⟨b,h5,hr⟩:=bw
   refine key (.bool (!b)) ?_ (.bool hr)
   rw[Sem.run_bind,run_eqGuard_agg w _ _ _ _ _ _ heq.1.1,Result.andThen_ok,run_neq_struct,go _ _ hd h5]
   rfl
  ·cases hr
 ·rename_i b1 b2
  have bw:=RM.run_bind' hr
  clear hr
  obtain⟨i,h3,hr⟩:=bw
  obtain⟨hs,_⟩:=dh hT h3
  split at hr
  ·rename_i hd
   rw[hd] at hs
   obtain⟨z,k1,k2⟩:=Gc (w:=w) (P:=P) hx hy hr cr t x y (fun _ _ _ _=>ux hs)
   exact key z k1 k2
  ·cases hr
 ·have bw:=RM.run_bind' hr
  clear hr
  obtain⟨i,h3,hr⟩:=bw
  obtain⟨hs,_⟩:=dh hT h3
  split at hr
  ·rename_i hd
   rw[hd] at hs
   obtain⟨e,he⟩:=Ka hs
   have hy:a.eval y= .pointer none:=hy
   rw[hy] at key
   obtain⟨z,k1,k2⟩:=O2 (P:=P) (w:=w) hx hr he x y
   exact key z k1 k2
  ·cases hr
 ·rename_i n1 n2 n3
  obtain⟨z,k1,k2⟩:=Gc (w:=w) (P:=P) hx hy hr cr t x y (fun b b' e e'=>absurd e' (n2 b b' e))
  exact key z k1 k2
theorem Ww (h:SRel w0 foot base S E a w) (hc:br a ctx) {o:Oper} {op:UnOp} {t:Nat} {x:Operand} (ho:o.op= .unOp op t x) {wr:Bool} {r:b9}
  (hr:(do
   match op,<-ev x with
   | .not,.one (.aG .bool b)=>cM (.aG .bool (!b))
   | .neg,.one (.aG (.int k) n)=>arith wr k (0 - Ty.I n)
   |_,_=> .fail:RM b9).run S ctx=some r) (cr:∀c∈r.conds,c):bZ P w0 foot base S E a w o r:=by
 have bw:=RM.run_bind' hr
 clear hr
 obtain⟨s,h1,hr⟩:=bw
 have hx:=gi h hc h1
 split at hr
 ·obtain⟨_,h2⟩:=hx
  simp only[dj,List.cons.injEq,and_true] at h2
  refine bZ.value (v:=_) (w':=w) ?_ ((fv.bool hr).after h.toHRel)
  simp[execOp,ho,Op.unary,h2]
 ·obtain⟨_,h2,h3⟩:=hx
  simp only[List.cons.injEq,and_true] at h2
  refine bZ.value (v:=_) (w':=w) ?_ ((rf hr cr).after h.toHRel)
  simp only[execOp,ho,Op.unary,h2,Op.intArith]
  rfl
 ·cases hr
theorem FK {j k:IntKind} (h:GM j k=true) {n:Int} (hn:bo j n):bo k n:=by
 cases j<;>cases k<;>simp[GM] at h<;>simp[bo,IntKind.min,IntKind.max,IntKind.signed,IntKind.bits] at * <;>omega
end Go.Vc
end

section
set_option linter.unusedVariables false
set_option linter.unusedSimpArgs false
namespace Go.Vc
open Go
variable {P:Program} {X:Ctx} {w0:World} {foot:gM} {base:Mem} {S:St} {E:Env} {a:Act} {w:World} {ctx:c9}
theorem lQ {p:Prop} {c:C} {r:b9} {v:Value} (h:(o2 p c).run S ctx=some r) (hv:p->gV E c v) (hc:∀q∈r.conds,q):fv E r v:=by
 rw[CG h] at hc ⊢
 exact⟨⟨_,rfl,hv (hc p (by simp))⟩,rfl,rfl,rfl⟩
theorem o0 {p:Prop} {c:C} {r:b9} (h:(o2 p c).run S ctx=some r) (hc:∀q∈r.conds,q):p:=by
 rw[CG h] at hc
 exact hc p (by simp)
theorem gg.sG {p:Place} {je:Bool} {e:Nat} {t:Ty} {xs:List t.den} (hB:gg E w p (.row je e t xs)):xs.length=p.len:=by
 rcases hB with ⟨_,hx,hz⟩|⟨_,_,⟨h1,_⟩,_⟩
 ·rw[hx,hz];rfl
 ·exact h1
theorem JA {t e:Nat} {b off len cap:Nat} {k:IntKind} {n:Int} {j:TypeInfo} (hu:P.underlying t=some (.slice e)) (hj:P.info? e=some j) (h0:0<=n) (h1:n<len):
  (Instr.indexAt t (.slice (some ⟨b,off,none⟩) len cap) (.int k n)).run P w= .ok (.pointer (some ⟨b,off+n.toNat*j.size,none⟩)) w:=by
 simp[Instr.indexAt,run_underlying hu,asIntOf,h0,h1,dZ hj,nk]
theorem Jz {t e len:Nat} {b off:Nat} {k:IntKind} {n:Int} {j:TypeInfo} (hu:P.underlying t=some (.array len e)) (hj:P.info? e=some j) (h0:0<=n) (h1:n<len):
  (Instr.indexAt t (.pointer (some ⟨b,off,none⟩)) (.int k n)).run P w= .ok (.pointer (some ⟨b,off+n.toNat*j.size,none⟩)) w:=by
 simp[Instr.indexAt,run_underlying hu,asIntOf,h0,h1,dZ hj,nk,Instr.sureAddr]
theorem JJ (hT:dx P X.aA) (h:SRel w0 foot base S E a w) (hc:br a ctx) {o:Oper} {t:Nat} {x ix:Operand} (ho:o.op= .indexAddr t x ix) {r:b9}
  (hr:(do
   let i <-ti X t
   match i.d with
   | .slice e=>(do
    let j <-ti X e
    let c <-lM x
    M6 j.size (<-Ci (<-ev ix)) c)
   | .array n e=>(do
    let j <-ti X e
    let c <-lM x
    M7 j.size n (<-Ci (<-ev ix)) c)
   |_=> .fail:RM b9).run S ctx=some r) (cr:∀c∈r.conds,c):bZ P w0 foot base S E a w o r:=by
 have bw:=RM.run_bind' hr
 clear hr
 obtain⟨i,h1,hr⟩:=bw
 obtain⟨hs,j0,R4,_⟩:=dh hT h1
 split at hr
 ·rename_i e hd
  rw[hd] at hs
  have hu:=dO hs
  have bw:=RM.run_bind' hr
  clear hr
  obtain⟨i',h2,hr⟩:=bw
  obtain⟨nI,j,hj,e1,_⟩:=dh hT h2
  have bw:=RM.run_bind' hr
  clear hr
  obtain⟨c,h3,hr⟩:=bw
  have bw:=RM.run_bind' hr
  clear hr
  obtain⟨s,h4,hr⟩:=bw
  have bw:=RM.run_bind' hr
  clear hr
  obtain⟨n,h5,hr⟩:=bw
  have hx:=gu h hc h3
  obtain⟨k,hn,hnr⟩:=vf (gi h hc h4) h5
  have key:∀b off len cap v,a.eval x= .slice (some ⟨b,off,none⟩) len cap->aL n len->v= .pointer (some ⟨b,off+n.toNat*j.size,none⟩)->fv E r v->bZ P w0 foot base S E a w o r:=
   fun b off len cap v hv hb he hR=>by
    refine bZ.value (v:=v) (w':=w) ?_ (hR.after h.toHRel)
    rw[he]
    simp[execOp,ho,hv,hn,JA hu hj hb.1 hb.2]
  unfold M6 at hr
  split at hr
  ·rename_i tt xs
   split at hr
   ·rename_i iT
    have iT:=Nat.eq_of_beq_eq_true iT
    have hb:=o0 hr cr
    obtain⟨_,aa,cap,g1,g2,g3,g4,g5⟩:=hx
    simp only[List.cons.injEq,and_true] at g1
    have hi:n.toNat<(Ty.L xs).length:=by have:=hb.1;have:=hb.2;omega
    cases aa with
    |none=>have:=g4 rfl;omega
    |some p=>
     have XH:=List.getElem?_eq_getElem hi
     obtain⟨Pz,_⟩:=g5 p rfl _ _ XH
     obtain⟨b,off,spot⟩:=p
     simp only at Pz
     subst Pz
     refine key b off _ cap _ g1 hb rfl (lQ hr (fun _=>⟨hi,b,off,by rw[e1,iT];rfl,fun i x hx=> ?_⟩) cr)
     obtain⟨_,us,k1,k2,k3⟩:=g5 _ rfl i x hx
     exact⟨us,k1,k2,k3⟩
   ·cases hr
  ·rename_i tt b
   simp only[RM.run] at hr
   split at hr
   ·rename_i B hf
    split at hr
    ·rename_i je e' t' xs
     split at hr
     ·rename_i hb
      simp only[Bool.and_eq_true] at hb
      have iT:=Nat.eq_of_beq_eq_true hb.1
      have AV:=Ty.beq_eq hb.2
      subst AV
      have yx:=o0 hr cr
      obtain⟨p,hp,hk⟩:=hx
      obtain⟨p',dn,hB⟩:=h.cn _ _ hf
      rw[hp] at dn;cases dn
      have hlen:=hB.sG
      rcases hk with ⟨dB,_,hz⟩|⟨dB,hv,_⟩
      ·have:=yx.1;have:=yx.2;omega
      ·rw[hlen] at yx
       refine key _ 0 _ _ _ hv yx rfl (lQ hr (fun _=>⟨p,hp,dB,by have:=yx.1;have:=yx.2;omega,by rw[e1,iT];simp⟩) cr)
     ·cases hr
    ·cases hr
   ·cases hr
  ·rename_i tt b lo len
   simp only[RM.run] at hr
   split at hr
   ·rename_i B hf
    split at hr
    ·rename_i je e' t' xs
     split at hr
     ·rename_i hb
      simp only[Bool.and_eq_true] at hb
      have iT:=Nat.eq_of_beq_eq_true hb.1
      have AV:=Ty.beq_eq hb.2
      subst AV
      have yx:=o0 hr cr
      obtain⟨p,hp,hl,hk⟩:=hx
      rcases hk with ⟨dB,_,hz⟩|⟨dB,aa,hv,g1,g2,g3⟩
      ·have:=yx.1;have:=yx.2;omega
      ·have yy:=yx.1
       have Dg:=yx.2
       rcases g3 with g3|rfl
       ·omega
       ·refine key _ _ _ _ _ hv yx rfl (lQ hr (fun _=>⟨p,hp,dB,by omega,by rw[e1,iT,Nat.add_mul];simp⟩) cr)
     ·cases hr
    ·cases hr
   ·cases hr
  ·cases hr
 ·rename_i len e hd
  rw[hd] at hs
  have hu:=sD hs
  have bw:=RM.run_bind' hr
  clear hr
  obtain⟨i',h2,hr⟩:=bw
  obtain⟨nI,j,hj,e1,_⟩:=dh hT h2
  have bw:=RM.run_bind' hr
  clear hr
  obtain⟨c,h3,hr⟩:=bw
  have bw:=RM.run_bind' hr
  clear hr
  obtain⟨s,h4,hr⟩:=bw
  have bw:=RM.run_bind' hr
  clear hr
  obtain⟨n,h5,hr⟩:=bw
  have hx:=gu h hc h3
  obtain⟨k,hn,hnr⟩:=vf (gi h hc h4) h5
  unfold M7 at hr
  split at hr
  ·rename_i tt b i1 o1
   simp only[RM.run] at hr
   split at hr
   ·rename_i B hf
    split at hr
    ·rename_i je e' t' xs
     split at hr
     ·rename_i hb
      simp only[Bool.and_eq_true] at hb
      have Vk:=Nat.eq_of_beq_eq_true hb.1
      have XW:=Nat.eq_of_beq_eq_true hb.2.1
      have iT:=Nat.eq_of_beq_eq_true hb.2.2.1
      have AV:=Ty.beq_eq hb.2.2.2
      subst AV Vk XW
      obtain⟨yx,Pv⟩:=o0 hr cr
      obtain⟨p,hp,dB,hil,hv⟩:=hx
      obtain⟨p',dn,hB⟩:=h.cn _ _ hf
      rw[hp] at dn;cases dn
      have hlen:=hB.sG
      have yy:=yx.1
      have Dg:=yx.2
      refine bZ.value (v:= .pointer (some ⟨p.bp,n.toNat*j.size,none⟩)) (w':=w) ?_ ((lQ hr (fun _=>⟨p,hp,dB,by omega,by rw[e1,iT];simp⟩) cr).after h.toHRel)
      simp only[Nat.zero_mul,Nat.add_zero] at hv
      simp[execOp,ho,hv,hn,Jz hu hj yy Dg]
     ·cases hr
    ·cases hr
   ·cases hr
  ·cases hr
 ·cases hr
theorem C7 {E:Env} {k:IntKind}:∀{cs:List C} {xs:List Int} {vs:List Value},C8 k cs=some xs->b7 E cs vs->xs.length=cs.length/\∀i,i<xs.length->vs[i]? =some (.int k (xs.getD i 0))/\bo k (xs.getD i 0)
 |[],xs,vs,h,hv=>by
  cases h
  exact⟨rfl,fun i hi=>absurd hi (by simp)⟩
 |c::cs,xs,vs,h,hv=>by
  cases c with
  |aG t x=>
   unfold C8 at h
   split at h
   ·rename_i y hy
    split at h
    ·rename_i ys Gs
     cases h
     obtain⟨e,rfl⟩:=Ty.iQ hy
     subst e
     obtain⟨v,us,rfl,⟨_,k1⟩,k2⟩:=hv
     obtain⟨g1,g2⟩:=C7 Gs k2
     have k1:[v]=[.int k x]/\bo k x:=k1
     refine⟨by simp[g1],fun i hi=> ?_⟩
     cases i with
     |zero=>exact⟨by rw[List.cons.inj k1.1|>.1];rfl,k1.2⟩
     |succ i=>exact g2 i (by simpa using hi)
    ·cases h
   ·cases h
  |_=>cases h
theorem U9 (hT:dx P X.aA) (h:SRel w0 foot base S E a w) (hc:br a ctx) {o:Oper} {t:Nat} {x ix:Operand} (ho:o.op= .index t x ix) {r:b9}
  (hr:(do
   let i <-ti X t
   match i.d,<-ev x with
   | .str,.one (.aG .str s)=>(do
    let n <-Ci (<-ev ix)
    o2 (aL n (Ty.S s).length) (.aG (.int .u8) (((Ty.S s).getD n.toNat 0).toNat:Int)))
   | .array n e,.agg cs=>(do
    let j <-ti X e
    match j.d with
    | .int k=>(do
     cS (Nat.beq j.size 1&&Nat.beq n cs.length)
     let xs <-RM.ofOption (C8 k cs)
     let m <-Ci (<-ev ix)
     o2 (aL m xs.length) (.aG (.int k) (xs.getD m.toNat 0)))
    |_=> .fail)
   |_,_=> .fail:RM b9).run S ctx=some r) (cr:∀c∈r.conds,c):bZ P w0 foot base S E a w o r:=by
 have bw:=RM.run_bind' hr
 clear hr
 obtain⟨i,h1,hr⟩:=bw
 have bw:=RM.run_bind' hr
 clear hr
 obtain⟨c,h2,hr⟩:=bw
 obtain⟨hs,_⟩:=dh hT h1
 have hx:=gi h hc h2
 split at hr
 ·rename_i s hd
  rw[hd] at hs
  have bw:=RM.run_bind' hr
  clear hr
  obtain⟨sv,h3,hr⟩:=bw
  have bw:=RM.run_bind' hr
  clear hr
  obtain⟨n,h4,hr⟩:=bw
  obtain⟨k,hn,hnr⟩:=vf (gi h hc h3) h4
  have hb:=o0 hr cr
  obtain⟨_,g1,g2⟩:=hx
  simp only[List.cons.injEq,and_true] at g1
  have hi:n.toNat<(Ty.S s).length:=by have:=hb.1;have:=hb.2;omega
  have wU:(⟨⟨Ty.S s⟩⟩:ByteArray)[n.toNat]? =some ((Ty.S s).getD n.toNat 0):=by
   rw[List.getD_eq_getElem?_getD,List.getElem?_eq_getElem hi]
   rw[getElem?_pos (⟨⟨Ty.S s⟩⟩:ByteArray) n.toNat hi]
   rfl
  have hu8:bo .u8 (((Ty.S s).getD n.toNat 0).toNat:Int):=by
   generalize (Ty.S s).getD n.toNat 0=q
   have:=q.toNat_lt
   have h1:IntKind.u8.min=0:=by decide
   have h2:IntKind.u8.max=255:=by decide
   unfold bo
   rw[h1,h2]
   omega
  refine bZ.value (v:= .int .u8 (((Ty.S s).getD n.toNat 0).toNat:Int)) (w':=w) ?_ ((lQ hr (fun _=>⟨rfl,rfl,hu8⟩) cr).after h.toHRel)
  simp[execOp,ho,Instr.index,run_underlying (qf hs),g1,hn,asIntOf,hb.1,wU]
 ·rename_i n e cs hd
  rw[hd] at hs
  have hu:=sD hs
  have bw:=RM.run_bind' hr
  clear hr
  obtain⟨j,h3,hr⟩:=bw
  obtain⟨nI,j',Nl,e1',_⟩:=dh hT h3
  split at hr
  ·rename_i k hk
   rw[hk] at nI
   have bw:=RM.run_bind' hr
   clear hr
   obtain⟨u,h4,hr⟩:=bw
   have bw:=RM.run_bind' hr
   clear hr
   obtain⟨xs,h5,hr⟩:=bw
   have bw:=RM.run_bind' hr
   clear hr
   obtain⟨sv,h6,hr⟩:=bw
   have bw:=RM.run_bind' hr
   clear hr
   obtain⟨m,h7,hr⟩:=bw
   have hg:=bR h4
   simp only[Bool.and_eq_true] at hg
   have hg1:=Nat.eq_of_beq_eq_true hg.1
   have hg2:=Nat.eq_of_beq_eq_true hg.2
   have hb:=o0 hr cr
   obtain⟨vs,De,jJ⟩:=hx
   obtain⟨hl,H5⟩:=C7 (b0 h5) jJ
   obtain⟨k',hn,_⟩:=vf (gi h hc h6) h7
   have yy:=hb.1
   have Dg:=hb.2
   have hi:m.toNat<xs.length:=by omega
   have R0:m<(n:Int):=by omega
   have iT:j'.size=1:=by omega
   obtain⟨q1,q2⟩:=H5 _ hi
   have KM:(isAgg e).run P w= .ok false w:=om (by rw[nI])
   have wU:vs[m.toNat]? =some (.int k (xs.getD m.toNat 0)):=by simpa using q1
   refine bZ.value (v:= .int k (xs.getD m.toNat 0)) (w':=w) ?_ ((lQ hr (fun _=>⟨rfl,rfl,q2⟩) cr).after h.toHRel)
   simp[execOp,ho,Instr.index,run_underlying hu,De,hn,asIntOf,yy,R0,part,KM,dZ Nl,iT,wU]
  ·cases hr
 ·cases hr
def Wt (x:Option Value) (n:Option Int):Prop:=
 match x,n with
 |none,none=>True
 |some v,some n=>∃k,v= .int k n/\bo k n
 |_,_=>False
theorem P6 (h:SRel w0 foot base S E a w) (hc:br a ctx) {x:Option Operand} {n:Option Int} (hr:(VF x).run S ctx=some n):Wt (x.map a.eval) n:=by
 cases x with
 |none=>cases hr;trivial
 |some x=>
  unfold VF at hr
  have bw:=RM.run_bind' hr
  clear hr
  obtain⟨s,h1,hr⟩:=bw
  have bw:=RM.run_bind' hr
  clear hr
  obtain⟨m,h2,hr⟩:=bw
  cases RM.run_pure' hr
  exact vf (gi h hc h1) h2
theorem wA {isSlice:Bool} {len cap:Nat} {lo hi:Option Value} {l h:Option Int} (hl:Wt lo l) (hh:Wt hi h) (aoa:len<=cap) (hc:∀c∈qb len l h,c):
  (Instr.sliceBounds isSlice len cap lo hi none).run P w= .ok (gb l,gb l+hX len l h,cap) w/\gb l+hX len l h<=len:=by
 cases lo with
 |none=>
  cases l with
  |some _=>exact hl.elim
  |none=>
   cases hi with
   |none=>
    cases h with
    |some _=>exact hh.elim
    |none=>simp[Instr.sliceBounds,gb,hX]
   |some v=>
    cases h with
    |none=>exact hh.elim
    |some h=>
     obtain⟨k,rfl,_⟩:=hh
     have:=hc (0<=h/\h<=len) (by simp[qb])
     have h2:h<=(cap:Int):=by omega
     refine⟨by simp[Instr.sliceBounds,Instr.sliceBound,asIntOf,gb,hX,this.1,h2],by simp[gb,hX];omega⟩
 |some v=>
  cases l with
  |none=>exact hl.elim
  |some l=>
   obtain⟨k,rfl,_⟩:=hl
   cases hi with
   |none=>
    cases h with
    |some _=>exact hh.elim
    |none=>
     have:=hc (0<=l/\l<=len) (by simp[qb])
     refine⟨?_,by simp[gb,hX];omega⟩
     have:l.toNat+(len - l.toNat)=len:=by omega
     simp[Instr.sliceBounds,Instr.sliceBound,asIntOf,gb,hX, *]
   |some v'=>
    cases h with
    |none=>exact hh.elim
    |some h=>
     obtain⟨k',rfl,_⟩:=hh
     have h1:=hc (0<=l/\l<=h) (by simp[qb])
     have h2:=hc (h<=len) (by simp[qb])
     refine⟨?_,by simp[gb,hX];omega⟩
     have e1:0<=h:=by omega
     have e2:h<=(cap:Int):=by omega
     have e3:l<=(h.toNat:Int):=by omega
     have e4:l.toNat+(h.toNat - l.toNat)=h.toNat:=by omega
     simp[Instr.sliceBounds,Instr.sliceBound,asIntOf,gb,hX,h1.1,e1,e2,e4]
     intro dQ
     omega
theorem vO {α:Type} {xs:List α} {l h:Option Int} (hc:∀c∈qb xs.length l h,c):(cut xs l h).length=hX xs.length l h:=by
 cases l with
 |none=>
  cases h with
  |none=>rfl
  |some h=>
   have:=hc (0<=h/\h<=xs.length) (by simp[qb])
   simp[cut,hX]
   omega
 |some l=>
  cases h with
  |none=>simp[cut,hX]
  |some h=>
   have:=hc (0<=l/\l<=h) (by simp[qb])
   have:=hc (h<=xs.length) (by simp[qb])
   simp[cut,hX]
   omega
theorem YC {α:Type} {xs:List α} {l h:Option Int} {i:Nat} {x:α} (hx:(cut xs l h)[i]? =some x):xs[gb l+i]? =some x:=by
 cases l with
 |none=>
  cases h with
  |none=>simpa [cut,gb] using hx
  |some h=>
   simp only[cut] at hx
   have hi:i<h.toNat:=by
    have:=(List.getElem?_eq_some_iff.1 hx).1
    simp at this
    omega
   rw[List.getElem?_take_of_lt hi] at hx
   simpa [gb] using hx
 |some l=>
  cases h with
  |none=>simpa [cut,gb] using hx
  |some h=>
   simp only[cut,List.getElem?_drop] at hx
   have hi:l.toNat+i<h.toNat:=by
    have:=(List.getElem?_eq_some_iff.1 hx).1
    simp at this
    omega
   rw[List.getElem?_take_of_lt hi] at hx
   exact hx
theorem YB (s:List UInt8) {l h:Option Int} (hc:∀c∈qb s.length l h,c):
  (⟨⟨s⟩⟩:ByteArray).extract (gb l) (gb l+hX s.length l h)=⟨⟨cut s l h⟩⟩:=by
 rw[Go.Lib.extract_eq]
 congr 2
 cases l with
 |none=>
  cases h with
  |none=>simp[cut,gb,hX]
  |some h=>simp[cut,gb,hX]
 |some l=>
  cases h with
  |none=>
   have e:List.take (s.length - l.toNat) (s.drop l.toNat)=s.drop l.toNat:=List.take_of_length_le (by simp)
   simp[cut,gb,hX,e]
  |some h=>simp[cut,gb,hX,List.drop_take]
theorem UD (hT:dx P X.aA) (h:SRel w0 foot base S E a w) (hc:br a ctx) {o:Oper} {t:Nat} {x:Operand} {lo hi:Option Operand} (ho:o.op= .slice t x lo hi none) {r:b9}
  (hr:(do
   let i <-ti X t
   let c <-lM x
   let l <-VF lo
   let h <-VF hi
   match i.d,c with
   | .slice e,.aG (.list tt) _=>(do
    let j <-ti X e
    cS (Nat.beq tt.size j.size)
    pP l h c)
   | .slice e,.row tt _=>(do
    let j <-ti X e
    cS (Nat.beq tt.size j.size)
    pP l h c)
   | .slice e,.sub tt _ _ _=>(do
    let j <-ti X e
    cS (Nat.beq tt.size j.size)
    pP l h c)
   | .str,.aG .str _=>pP l h c
   |_,_=> .fail:RM b9).run S ctx=some r) (cr:∀c∈r.conds,c):bZ P w0 foot base S E a w o r:=by
 have bw:=RM.run_bind' hr
 clear hr
 obtain⟨i,h1,hr⟩:=bw
 have bw:=RM.run_bind' hr
 clear hr
 obtain⟨c,h2,hr⟩:=bw
 have bw:=RM.run_bind' hr
 clear hr
 obtain⟨l,h3,hr⟩:=bw
 have bw:=RM.run_bind' hr
 clear hr
 obtain⟨hh,h4,hr⟩:=bw
 obtain⟨hs,_⟩:=dh hT h1
 have hx:=gu h hc h2
 have hl:=P6 h hc h3
 have hhi:=P6 h hc h4
 have key:∀v,(Instr.sliceAt t (a.eval x) (lo.map a.eval) (hi.map a.eval) none).run P w= .ok v w->fv E r v->bZ P w0 foot base S E a w o r:=fun v hv hR=>by
  refine bZ.value (v:=v) (w':=w) ?_ (hR.after h.toHRel)
  simp[execOp,ho,hv]
 have sl:∀e j (b:Option Addr) len cap,P.underlying t=some (.slice e)->P.info? e=some j->len<=cap->a.eval x= .slice b len cap->(∀c∈qb len l hh,c)->
   (Instr.sliceAt t (a.eval x) (lo.map a.eval) (hi.map a.eval) none).run P w= .ok (.slice (if cap=gb l then b else b.map (·.add (gb l*j.size))) (hX len l hh) (cap - gb l)) w/\gb l+hX len l hh<=len:=fun e j b len cap hu hj hle hv hco=>by
  obtain⟨yy,Dg⟩:=wA (P:=P) (w:=w) (isSlice:=true) hl hhi hle hco
  refine⟨?_,Dg⟩
  simp[Instr.sliceAt,Instr.slice,run_underlying hu,hv,yy,dZ hj]
 split at hr
 ·rename_i e tt xs hd
  rw[hd] at hs
  have bw:=RM.run_bind' hr
  clear hr
  obtain⟨i',h5,hr⟩:=bw
  have bw:=RM.run_bind' hr
  clear hr
  obtain⟨u,h6,hr⟩:=bw
  obtain⟨nI,j,hj,e1,_⟩:=dh hT h5
  have iT:=Nat.eq_of_beq_eq_true (bR h6)
  unfold pP at hr
  cases hr
  obtain⟨_,aa,cap,g1,g2,g3,g4,g5⟩:=hx
  simp only[List.cons.injEq,and_true] at g1
  obtain⟨k1,k2⟩:=sl e j aa _ cap (dO hs) hj g2 g1 cr
  refine key _ k1 ⟨⟨_,rfl,rfl,(if cap=gb l then aa else aa.map (·.add (gb l*j.size))),cap - gb l,?_,?_,by omega,?_,?_⟩,rfl,rfl,rfl⟩
  ·rw[show(Ty.L (t:=tt) (cut (Ty.L xs) l hh)).length=_ from vO cr]
  ·rw[show(Ty.L (t:=tt) (cut (Ty.L xs) l hh)).length=_ from vO cr];omega
  ·intro hn
   split at hn
   ·rename_i mr;omega
   ·cases aa with
    |none=>have:=g4 rfl;omega
    |some p=>cases hn
  ·intro p hp n y hy
   have hlen:=vO (xs:=Ty.L xs) cr
   have hn:n<hX (Ty.L xs).length l hh:=by
    have:=(List.getElem?_eq_some_iff.1 hy).1
    rw[<-hlen];exact this
   rw[if_neg (by omega)] at hp
   cases aa with
   |none=>cases hp
   |some q=>
    obtain⟨Pz,us,m1,m2,m3⟩:=g5 q rfl _ _ (YC hy)
    obtain⟨b,off,spot⟩:=q
    simp only at Pz
    subst Pz
    simp only[Option.map_some,Option.some.injEq] at hp
    rw[nk] at hp
    subst hp
    refine⟨rfl,us,m1,m2,fun jj u hu=> ?_⟩
    have:=m3 jj u hu
    rw[Nat.add_mul] at this
    rw[e1,<-iT]
    simpa [Nat.add_assoc] using this
 ·rename_i e tt b hd
  rw[hd] at hs
  have bw:=RM.run_bind' hr
  clear hr
  obtain⟨i',h5,hr⟩:=bw
  have bw:=RM.run_bind' hr
  clear hr
  obtain⟨u,h6,hr⟩:=bw
  obtain⟨nI,j,hj,e1,_⟩:=dh hT h5
  have iT:=Nat.eq_of_beq_eq_true (bR h6)
  unfold pP at hr
  simp only[RM.run] at hr
  split at hr
  ·rename_i B hf
   split at hr
   ·rename_i je e' t' xs
    split at hr
    ·rename_i AV
     have AV:=Ty.beq_eq AV
     subst AV
     cases hr
     obtain⟨p,hp,hk⟩:=hx
     obtain⟨p',dn,hB⟩:=h.cn _ _ hf
     rw[hp] at dn;cases dn
     have hlen:=hB.sG
     rw[hlen] at cr
     rcases hk with ⟨dB,hv,hz⟩|⟨dB,hv,g1,g2⟩
     ·obtain⟨k1,k2⟩:=sl e j none 0 0 (dO hs) hj (by omega) hv (by rw[<-hz];exact cr)
      have hz1:gb l=0:=by omega
      have Vb:hX 0 l hh=0:=by omega
      refine key _ k1 ⟨⟨_,rfl,p,hp,by rw[hlen,hz];omega,Or.inl ⟨dB,by simp[hz1,Vb],hz⟩⟩,rfl,rfl,rfl⟩
     ·obtain⟨k1,k2⟩:=sl e j _ p.len p.cap (dO hs) hj g1 hv cr
      refine key _ k1 ⟨⟨_,rfl,p,hp,by rw[hlen];exact k2,Or.inr ⟨dB,(if p.cap=gb l then⟨p.bp,0,none⟩ else⟨p.bp,gb l*j.size,none⟩),?_,g1,g2,?_⟩⟩,rfl,rfl,rfl⟩
      ·rw[hlen];split<;>simp[nk]
      ·by_cases mr:p.cap=gb l
       ·exact .inl mr.symm
       ·exact .inr (by rw[if_neg mr,e1,iT])
    ·cases hr
   ·cases hr
  ·cases hr
 ·rename_i e tt b Xt len hd
  rw[hd] at hs
  have bw:=RM.run_bind' hr
  clear hr
  obtain⟨i',h5,hr⟩:=bw
  have bw:=RM.run_bind' hr
  clear hr
  obtain⟨u,h6,hr⟩:=bw
  obtain⟨nI,j,hj,e1,_⟩:=dh hT h5
  have iT:=Nat.eq_of_beq_eq_true (bR h6)
  unfold pP at hr
  cases hr
  obtain⟨p,hp,PF,hk⟩:=hx
  rcases hk with ⟨dB,hv,hz⟩|⟨dB,aa,hv,g1,g2,g3⟩
  ·have BW:len=0:=by omega
   subst BW
   obtain⟨k1,k2⟩:=sl e j none 0 0 (dO hs) hj (by omega) hv cr
   have hz1:gb l=0:=by omega
   have Vb:hX 0 l hh=0:=by omega
   exact key _ k1 ⟨⟨_,rfl,p,hp,by omega,Or.inl ⟨dB,by simp[hz1,Vb],hz⟩⟩,rfl,rfl,rfl⟩
  ·obtain⟨k1,k2⟩:=sl e j (some aa) len (p.cap - Xt) (dO hs) hj (by omega) hv cr
   refine key _ k1 ⟨⟨_,rfl,p,hp,by omega,Or.inr ⟨dB,(if p.cap - Xt=gb l then aa else aa.add (gb l*j.size)),?_,g1,g2,?_⟩⟩,rfl,rfl,rfl⟩
   ·rw[Nat.sub_sub];split<;>simp
   ·by_cases mr:p.cap - Xt=gb l
    ·exact .inl (by omega)
    ·refine .inr ?_
     rw[if_neg mr]
     rcases g3 with g3|rfl
     ·omega
     ·rw[nk,e1,<-iT,Nat.add_mul]
 ·rename_i s hd
  rw[hd] at hs
  unfold pP at hr
  cases hr
  obtain⟨_,g1,g2⟩:=hx
  simp only[List.cons.injEq,and_true] at g1
  obtain⟨yy,Dg⟩:=wA (P:=P) (w:=w) (isSlice:=false) (len:=(Ty.S s).length) (cap:=(Ty.S s).length) hl hhi (Nat.le_refl _) cr
  refine key (.string ⟨⟨cut (Ty.S s) l hh⟩⟩) ?_ ⟨⟨_,rfl,rfl,rfl,?_⟩,rfl,rfl,rfl⟩
  ·have ai3:(Instr.sliceBounds false (⟨⟨Ty.S s⟩⟩:ByteArray).size (⟨⟨Ty.S s⟩⟩:ByteArray).size (lo.map a.eval) (hi.map a.eval) none).run P w=_:=yy
   simp only[Instr.sliceAt,Instr.slice,Sem.run_bind,run_underlying (qf hs),Result.andThen_ok,g1,ai3,Option.isSome_none,Bool.false_eq_true,if_false,Sem.run_pure,YB _ cr]
  ·rw[show(Ty.S (cut (Ty.S s) l hh)).length=_ from vO cr]
   omega
 ·cases hr
end Go.Vc
end

section
set_option linter.unusedVariables false
set_option linter.unusedSimpArgs false
namespace Go.Vc
open Go
variable {P:Program} {X:Ctx} {w0:World} {foot:gM} {base:Mem} {S:St} {E:Env} {a:Act} {w:World} {ctx:c9}
def ef (F:Mem) (t:Ty) (xs:List t.den) (us:List Value):Prop:=
 us.length=xs.length*t.size/\∀(i:Nat) (x:t.den),xs[i]? =some x->∃ws:List Value,dj F t x ws/\ws.length=t.size/\∀(j:Nat) u,ws[j]? =some u->us[i*t.size+j]? =some u
theorem ef.nil {F:Mem} {t:Ty}:ef F t [] []:=⟨by simp,fun i x hx=>by simp at hx⟩
theorem ef.append {F:Mem} {t:Ty} {xs ys:List t.den} {us ws:List Value} (h:ef F t xs us) (k:ef F t ys ws):ef F t (xs++ys) (us++ws):=by
 refine⟨by simp[h.1,k.1,Nat.add_mul],fun i x hx=> ?_⟩
 by_cases hi:i<xs.length
 ·rw[List.getElem?_append_left hi] at hx
  obtain⟨vs,h1,h2,h3⟩:=h.2 i x hx
  refine⟨vs,h1,h2,fun j u hu=> ?_⟩
  have:=h3 j u hu
  rw[List.getElem?_append_left (List.getElem?_eq_some_iff.1 this).1]
  exact this
 ·rw[List.getElem?_append_right (by omega)] at hx
  obtain⟨vs,h1,h2,h3⟩:=k.2 _ x hx
  refine⟨vs,h1,h2,fun j u hu=> ?_⟩
  have:=h3 j u hu
  have hm:xs.length*t.size<=i*t.size:=Nat.mul_le_mul_right _ (by omega)
  rw[List.getElem?_append_right (by rw[h.1];omega),h.1,<-this,Nat.sub_mul]
  congr 1
  omega
theorem ef.mono {F F':Mem} (hF:F.le F') {t:Ty} {xs:List t.den} {us:List Value} (h:ef F t xs us):ef F' t xs us:=
 ⟨h.1,fun i x hx=>let⟨ws,h1,h2⟩:=h.2 i x hx;⟨ws,h1.mono hF,h2⟩⟩
theorem n6.S3 {p:Place} {je:Bool} {e:Nat} {t:Ty} {xs:List t.den} {vs:Array Value} (hB:n6 E w p je e t xs) (hv:w.heap[p.bp]? =some (.cells vs e (0,0))):
  ef E.F t xs (vs.toList.take (p.len*t.size))/\vs.size=p.cap*t.size/\xs.length=p.len/\p.len<=p.cap/\p.cap<=aM:=by
 obtain⟨h0,⟨h1,nY⟩,Bv,h2,h3,h4,h5⟩:=hB
 rw[hv] at h2
 cases h2
 have hm:p.len*t.size<=p.cap*t.size:=Nat.mul_le_mul_right _ nY
 refine⟨⟨by simp[h1];omega,fun i x hx=> ?_⟩,h3,h1,nY,h0⟩
 obtain⟨us,k1,k2,k3⟩:=h5 i x hx
 refine⟨us,k1,k2,fun j u hu=> ?_⟩
 have hj:=(List.getElem?_eq_some_iff.1 hu).1
 have hi:=(List.getElem?_eq_some_iff.1 hx).1
 have hm:(i+1)*t.size<=p.len*t.size:=Nat.mul_le_mul_right _ (by omega)
 rw[Nat.succ_mul] at hm
 rw[List.getElem?_take_of_lt (by omega)]
 simpa using k3 j u hu
theorem n6.mk' {p:Place} {e:Nat} {t:Ty} {xs:List t.den} {us rest:List Value} (hv:ef E.F t xs us) (hc:p.cap<=aM) (hl:xs.length=p.len) (R2:p.len<=p.cap) {vs:Array Value}
  (hw:w.heap[p.bp]? =some (.cells vs e (0,0))) (RU:vs.toList=us++rest) (hs:vs.size=p.cap*t.size):n6 E w p false e t xs:=by
 refine⟨hc,⟨hl,R2⟩,vs,hw,hs,(fun h=>by cases h),fun i x hx=> ?_⟩
 obtain⟨ws,h1,h2,h3⟩:=hv.2 i x hx
 refine⟨ws,h1,h2,fun j u hu=> ?_⟩
 have:=h3 j u hu
 rw[<-Array.getElem?_toList,RU,List.getElem?_append_left (List.getElem?_eq_some_iff.1 this).1]
 exact this
theorem qx (hT:dx P X.aA) {t:Nat} {j:TI} (hj:(ti X t).run S ctx=some j) {ty:Ty} {z:ty.den} (hr:(uk j ty).run S ctx=some z):
  ∃i,P.info? t=some i/\i.size=j.size/\i.bytes=j.bytes/\i.zero=some j.zero/\ty.size=j.size/\0<j.size/\j.zero.cells.size=j.size/\∀F,dj F ty z j.zero.cells.toList:=by
 unfold uk at hr
 have bw:=RM.run_bind' hr
 clear hr
 obtain⟨cs,h1,hr⟩:=bw
 have bw:=RM.run_bind' hr
 clear hr
 obtain⟨u,h2,hr⟩:=bw
 have bw:=RM.run_bind' hr
 clear hr
 obtain⟨y,h3,hr⟩:=bw
 have bw:=RM.run_bind' hr
 clear hr
 obtain⟨u',h4,hr⟩:=bw
 cases RM.run_pure' hr
 obtain⟨_,i,hi,e1,e2,e3⟩:=dh hT hj
 have hb:=bR h2
 simp only[Bool.and_eq_true] at hb
 have hlen:=Nat.eq_of_beq_eq_true hb.1.1
 have h1:=b0 h1
 have jJ:=fun F=>nP (E:=⟨F,fun _=>none⟩) h1
 have hl:=(jJ (fun _=>none)).length
 refine⟨i,hi,e1,e2,e3,Nat.eq_of_beq_eq_true hb.1.2,Nat.le_of_ble_eq_true hb.2,by simpa using hl.trans hlen,fun F=> ?_⟩
 obtain⟨y,fr⟩:=y
 have wV:fr=[]:=by have:=bR h4;simpa using this
 subst wV
 exact jA (E:=⟨F,fun _=>none⟩) (w:=default) h3 (jJ F) (fun q hq=>by cases hq)
theorem Nv {z:Array Value} {n i:Nat} (h:i<n) (hz:0<z.size):(madeCells z n)[i]? =z[i % z.size]? :=by
 have hm:i % z.size<z.size:=Nat.mod_lt _ hz
 simp[madeCells,h,hm]
theorem ef.made {F:Mem} {t:Ty} {x:t.den} {z:Array Value} (hz:dj F t x z.toList) (h0:0<t.size) (n m:Nat) (hnm:n<=m):
  ef F t (List.replicate n x) ((madeCells z (m*t.size)).toList.take (n*t.size)):=by
 have hl:=hz.length
 simp only[Array.length_toList] at hl
 have an0:n*t.size<=m*t.size:=Nat.mul_le_mul_right _ hnm
 refine⟨by simp only[List.length_take,Array.length_toList,size_madeCells,List.length_replicate];omega,fun i y hy=> ?_⟩
 have hi:i<n:=by have:=(List.getElem?_eq_some_iff.1 hy).1;simpa using this
 rw[List.getElem?_replicate,if_pos hi] at hy
 cases hy
 refine⟨z.toList,hz,by simpa using hl,fun j u hu=> ?_⟩
 have hj:j<t.size:=by have:=(List.getElem?_eq_some_iff.1 hu).1;simp at this;omega
 have hm:(i+1)*t.size<=n*t.size:=Nat.mul_le_mul_right _ (by omega)
 rw[Nat.succ_mul] at hm
 rw[List.getElem?_take_of_lt (by omega),Array.getElem?_toList,Nv (by omega) (by omega),hl]
 rw[show(i*t.size+j) % t.size=j by rw[Nat.add_comm,Nat.add_mul_mod_self_right,Nat.mod_eq_of_lt hj]]
 simpa using hu
theorem CQ (h:HRel w0 foot base S.bl S.used E w) {d e:Nat} {t:Ty} {xs:List t.den} {us rest:List Value} {vs:Array Value} {cap:Nat} (hd:d∉S.used) (hv:ef E.F t xs us) (hc:cap<=aM) (R2:xs.length<=cap)
  (RU:vs.toList=us++rest) (hs:vs.size=cap*t.size):
  HRel w0 foot base (put S.bl d (.row false e t xs)) (d::S.used) (E.new d ⟨false,w.heap.size,cap,xs.length⟩) (w.alloc (.cells vs e))/\E.le (E.new d ⟨false,w.heap.size,cap,xs.length⟩)/\
  gV (E.new d ⟨false,w.heap.size,cap,xs.length⟩) (.row t d) (.slice (some ⟨w.heap.size,0,none⟩) xs.length cap):=by
 have jY:E.place d=none:=by
  cases he:E.place d with
  |none=>rfl
  |some q=>exact absurd (h.used d q he) hd
 have hle:=Env.nH (p:=⟨false,w.heap.size,cap,xs.length⟩) jY
 refine⟨h.alloc hd (fun _=>rfl) (Or.inr ⟨rfl,?_⟩),hle,⟨_,Env.fb,.inr ⟨rfl,rfl,R2,hc⟩⟩⟩
 exact n6.mk' (p:=⟨false,w.heap.size,cap,xs.length⟩) (hv.mono hle.F) hc rfl R2 qu RU hs
theorem wi (w:World) {t:Ty}:∀{n:Nat} {cs:List C} {xs:List t.den} {us:List Value},(u7 t n cs).run S ctx=some xs->b7 E cs us->ef E.F t xs us/\xs.length=n
 |0,cs,xs,us,h,hv=>by
  unfold u7 at h
  split at h
  ·cases h
   have hv:us=[]:=hv
   subst hv
   exact⟨.nil,rfl⟩
  ·cases h
 |n+1,cs,xs,us,h,hv=>by
  unfold u7 at h
  obtain⟨y,h1,h⟩:=RM.run_bind' h
  obtain⟨u,h2,h⟩:=RM.run_bind' h
  obtain⟨r,h3,h⟩:=RM.run_bind' h
  cases RM.run_pure' h
  have hf:y.2=[]:=List.isEmpty_iff.1 (bR h2)
  have hy:=jA (x:=y.1) (fr:=y.2) (E:=E) (w:=w) h1 (hv.take t.size) (by rw[hf];exact fun q hq=>by cases hq)
  obtain⟨k1,k2⟩:=wi w h3 (hv.drop t.size)
  refine⟨?_,by simp[k2]⟩
  have:=ef.append (xs:=[y.1]) (us:=us.take t.size) ⟨by simpa using hy.length,fun i x hx=>by
   cases i with
   |zero=>
    have hx:y.1=x:=by simpa using hx
    subst hx
    exact⟨_,hy,hy.length,fun j u hu=>by simpa using hu⟩
   |succ i=>simp at hx⟩ k1
  rwa [List.take_append_drop] at this
theorem SH (hT:dx P X.aA) (h:SRel w0 foot base S E a w) {o:Oper} {t d:Nat} (ho:o.op= .alloc t) {r:b9}
  (hr:(do
   let i <-ti X t
   match i.d with
   | .array n e=>(do
    let j <-ti X e
    let ty <-RM.ofOption j.ty
    let cs <-RM.ofOption (mi i.zero.cells.toList)
    cS (Nat.blt 0 n&&Nat.ble n 16777216)
    let xs <-u7 ty n cs
    .ret {val:=some (.one (.mD ty d 0 0)),cn:=[(d,.row false t ty xs)],new:=[d]})
   |_=>(do
    let cs <-RM.ofOption (mi i.zero.cells.toList)
    .ret {val:=some (.one (.ptr d 0)),cn:=[(d,.cells cs)],new:=[d]}):RM b9).run S ctx=some r)
  (hn:∀i∈r.new,i∉S.used):bZ P w0 foot base S E a w o r:=by
 have bw:=RM.run_bind' hr
 clear hr
 obtain⟨i,h1,hr⟩:=bw
 split at hr
 ·rename_i n e hd
  obtain⟨hs,j,hj,e1,e2,e3⟩:=dh hT h1
  have bw:=RM.run_bind' hr
  clear hr
  obtain⟨j',h2,hr⟩:=bw
  have bw:=RM.run_bind' hr
  clear hr
  obtain⟨ty,h3,hr⟩:=bw
  have bw:=RM.run_bind' hr
  clear hr
  obtain⟨cs,h4,hr⟩:=bw
  have bw:=RM.run_bind' hr
  clear hr
  obtain⟨u,h5,hr⟩:=bw
  have bw:=RM.run_bind' hr
  clear hr
  obtain⟨xs,h6,hr⟩:=bw
  cases hr
  have h5:=bR h5
  simp only[Bool.and_eq_true] at h5
  have hn0:0<n:=Nat.le_of_ble_eq_true h5.1
  have hn1:n<=16777216:=Nat.le_of_ble_eq_true h5.2
  obtain⟨k1,k2⟩:=wi (E:=E) w h6 (nP (b0 h4))
  have iT:i.zero.cells.size=n*ty.size:=by have:=k1.1;rw[k2] at this;simpa using this
  obtain⟨q1,q2,q3⟩:=CQ h.toHRel (e:=t) (cap:=n) (hn d (by simp)) k1 (by unfold aM;omega) (by omega) (vs:=i.zero.cells) (rest:=[]) (by simp) iT
  obtain⟨p,hp,_⟩:=q3
  have dn:p=⟨false,w.heap.size,n,xs.length⟩:=by
   have:=Env.fb (E:=E) (id:=d) (p:=⟨false,w.heap.size,n,xs.length⟩)
   rw[this] at hp
   cases hp
   rfl
  refine bZ.value (v:= .pointer (some ⟨w.heap.size,0,none⟩)) (w':=w.alloc (.cells i.zero.cells t)) ?_ ⟨q2,q1,?_⟩
  ·simp[execOp,ho,Instr.alloc,kj hj e3,newVar,newRow]
  ·refine⟨_,Env.fb,rfl,?_,?_⟩
   ·show 0<xs.length
    omega
   ·simp
 ·exact Wm hT h ho h1 hr hn
theorem JG (hT:dx P X.aA) (h:SRel w0 foot base S E a w) (hc:br a ctx) {o:Oper} {t d:Nat} {l c:Operand} (ho:o.op= .makeSlice t l c) {r:b9}
  (hr:(do
   let i <-ti X t
   match i.d with
   | .slice e=>(do
    let j <-ti X e
    let ty <-RM.ofOption j.ty
    let n <-Ci (<-ev l)
    let m <-Ci (<-ev c)
    let z <-uk j ty
    .ret {val:=some (.one (.row ty d)),cn:=[(d,.row false e ty (List.replicate n.toNat z))],new:=[d],conds:=[0<=n/\n<=m,roomFor m.toNat j.bytes/\m<=aM]})
   |_=> .fail:RM b9).run S ctx=some r) (hn:∀i∈r.new,i∉S.used) (cr:∀c∈r.conds,c):bZ P w0 foot base S E a w o r:=by
 have bw:=RM.run_bind' hr
 clear hr
 obtain⟨i,h1,hr⟩:=bw
 obtain⟨hs,_⟩:=dh hT h1
 split at hr
 ·rename_i e hd
  rw[hd] at hs
  have bw:=RM.run_bind' hr
  clear hr
  obtain⟨j,h2,hr⟩:=bw
  have bw:=RM.run_bind' hr
  clear hr
  obtain⟨ty,h3,hr⟩:=bw
  have bw:=RM.run_bind' hr
  clear hr
  obtain⟨s1,h4,hr⟩:=bw
  have bw:=RM.run_bind' hr
  clear hr
  obtain⟨n,h5,hr⟩:=bw
  have bw:=RM.run_bind' hr
  clear hr
  obtain⟨s2,h6,hr⟩:=bw
  have bw:=RM.run_bind' hr
  clear hr
  obtain⟨m,h7,hr⟩:=bw
  have bw:=RM.run_bind' hr
  clear hr
  obtain⟨z,h8,hr⟩:=bw
  cases hr
  obtain⟨i',g1,g2,g3,g4,g5,g6,g7,g8⟩:=qx hT h2 h8
  obtain⟨kl,el,_⟩:=vf (gi h hc h4) h5
  obtain⟨kc,ec,_⟩:=vf (gi h hc h6) h7
  have c1:=cr (0<=n/\n<=m) (by simp)
  have c2:=cr (roomFor m.toNat j.bytes/\m<=aM) (by simp)
  have hb:(i'.bytes:Int)*m<=281474976710656:=by
   have h1:=c2.1
   unfold roomFor at h1
   rw[Nat.mul_add] at h1
   have:((m.toNat*j.bytes:Nat):Int)=m*(j.bytes:Int):=by
    rw[Int.natCast_mul,Int.toNat_of_nonneg (by omega)]
   rw[g3,Int.mul_comm,<-this]
   omega
  have hmk:=run_make (P:=P) w t e i' j.zero (dO hs) g1 g4 kl kc n m c1.1 c1.2 hb (by have:=c2.2;unfold aM at this;omega)
  rw[g2,<-g5] at hmk
  obtain⟨k1,k2,k3⟩:=CQ h.toHRel (e:=e) (cap:=m.toNat) (hn d (by simp)) (ef.made (g8 E.F) (by omega) n.toNat m.toNat (by omega)) (by have:=c2.2;omega) (by simp;omega)
   (vs:=madeCells j.zero.cells (m.toNat*ty.size)) (rest:=(madeCells j.zero.cells (m.toNat*ty.size)).toList.drop (n.toNat*ty.size)) (List.take_append_drop _ _).symm (size_madeCells _ _)
  rw[List.length_replicate] at k1 k2 k3
  refine bZ.value (v:=_) (w':=_) ?_ ⟨k2,k1,k3⟩
  simp only[execOp,ho,el,ec,Sem.run_bind,hmk,Result.andThen_ok]
  rfl
 ·cases hr
theorem He (h:HRel w0 foot base S.bl S.used E w) {t:Ty} (h0:0<t.size) {c:C} {v:Value} (hv:gV E c v) {ys:List t.den} (hr:(Ot t c).run S ctx=some ys):
  (v= .slice none 0 0/\ys=[])\/∃ad cap news,v= .slice (some ad) ys.length cap/\ef E.F t ys news/\∀(j:Nat) u,news[j]? =some u->w.cell? (ad.add j)=some u:=by
 unfold Ot at hr
 split at hr
 ·rename_i t' xs
  obtain⟨e,rfl⟩:=Ty.iQ (b0 hr)
  cases e
  obtain⟨_,aa,cap,g1,g2,g3,g4,g5⟩:=hv
  simp only[List.cons.injEq,and_true] at g1
  cases aa with
  |none=>
   have:=g4 rfl
   have hx:Ty.L xs=[]:=List.eq_nil_of_length_eq_zero (by omega)
   exact .inl ⟨by rw[g1,hx,this];rfl,hx⟩
  |some p=>
   refine .inr ⟨p,cap,?_⟩
   by_cases hx:Ty.L xs=[]
   ·refine⟨[],g1,?_,fun j u hu=>by simp at hu⟩
    show ef _ _ (Ty.L xs) _
    rw[hx]
    exact .nil
   ·have vG:0<(Ty.L xs).length:=List.length_pos_iff.2 hx
    obtain⟨Pz,ZX,m1,m2,m3⟩:=g5 p rfl 0 _ (List.getElem?_eq_getElem vG)
    obtain⟨b,off,spot⟩:=p
    simp only at Pz
    subst Pz
    obtain⟨cs,ee,mm,hF,_⟩:=m3 0 ZX[0] (List.getElem?_eq_getElem (by omega))
    have get:∀(i:Nat) x,(Ty.L xs)[i]? =some x->∃ws:List Value,dj E.F _ x ws/\ws.length=Ty.size _/\∀(j:Nat) u,ws[j]? =some u->cs[off+(i*Ty.size _+j)]? =some u:=fun i x hx=>by
     obtain⟨_,ws,n1,n2,n3⟩:=g5 _ rfl i x hx
     refine⟨ws,n1,n2,fun j u hu=> ?_⟩
     obtain⟨YD,ee',mm',Yk,hc⟩:=n3 j u hu
     rw[hF] at Yk
     cases Yk
     exact hc
    refine⟨(cs.toList.drop off).take ((Ty.L xs).length*t.size),g1,⟨?_,fun i x hx=> ?_⟩,fun j u hu=> ?_⟩
    ·obtain⟨ws,n1,n2,n3⟩:=get ((Ty.L xs).length - 1) _ (List.getElem?_eq_getElem (by omega))
     have aex:=n3 (t.size - 1) ws[t.size - 1] (List.getElem?_eq_getElem (by omega))
     have dQ:=(Array.getElem?_eq_some_iff.1 aex).1
     have hm:((Ty.L xs).length - 1)*t.size+t.size=(Ty.L xs).length*t.size:=by
      rw[<-Nat.succ_mul];congr 1;omega
     show _=(Ty.L xs).length*t.size
     simp only[List.length_take,List.length_drop,Array.length_toList]
     omega
    ·obtain⟨ws,n1,n2,n3⟩:=get i x hx
     refine⟨ws,n1,n2,fun j u hu=> ?_⟩
     have hj:=(List.getElem?_eq_some_iff.1 hu).1
     have hi:i<(Ty.L xs).length:=(List.getElem?_eq_some_iff.1 hx).1
     have hm:(i+1)*t.size<=(Ty.L xs).length*t.size:=Nat.mul_le_mul_right _ (by omega)
     rw[Nat.succ_mul] at hm
     rw[List.getElem?_take_of_lt (by omega),List.getElem?_drop,Array.getElem?_toList]
     exact n3 j u hu
    ·have hj:j<(Ty.L xs).length*t.size:=by
      have:=(List.getElem?_eq_some_iff.1 hu).1
      simp at this
      omega
     rw[List.getElem?_take_of_lt hj,List.getElem?_drop,Array.getElem?_toList] at hu
     rw[nk,jO (h.m7 _ _ hF)]
     exact hu
 ·rename_i tt b
  simp only[RM.run] at hr
  split at hr
  ·rename_i B hf
   split at hr
   ·rename_i je e t' xs
    split at hr
    ·rename_i AV
     obtain⟨ee,rfl⟩:=Ty.iQ (b0 hr)
     cases ee
     obtain⟨p,hp,hk⟩:=hv
     obtain⟨p',dn,hB⟩:=h.cn _ _ hf
     rw[hp] at dn;cases dn
     rcases hk with ⟨dB,hv,hz⟩|⟨dB,hv,g1,g2⟩
     ·have hx:xs=[]:=List.eq_nil_of_length_eq_zero (by rw[hB.sG,hz])
      exact .inl ⟨hv,hx⟩
     ·rcases hB with ⟨zx,_⟩|⟨_,hB⟩
      ·rw[dB] at zx;cases zx
      ·obtain⟨_,_,vs,hw,_⟩:=id hB
       obtain⟨k1,k2,k3,k4,k5⟩:=hB.S3 hw
       refine .inr ⟨_,_,_,by rw[hv];congr 1;exact k3.symm,k1,fun j u hu=> ?_⟩
       have hj:=(List.getElem?_eq_some_iff.1 hu).1
       simp only[List.length_take] at hj
       rw[List.getElem?_take_of_lt (by omega),Array.getElem?_toList] at hu
       rw[nk,jO hw]
       simpa using hu
    ·cases hr
   ·cases hr
  ·cases hr
 ·rename_i tt b lo len
  simp only[RM.run] at hr
  split at hr
  ·rename_i B hf
   split at hr
   ·rename_i je e t' xs
    split at hr
    ·rename_i AV
     have AV:=Ty.beq_eq AV
     subst AV
     obtain⟨ee,rfl⟩:=Ty.iQ (b0 hr)
     cases ee
     obtain⟨p,hp,hl,hk⟩:=hv
     obtain⟨p',dn,hB⟩:=h.cn _ _ hf
     rw[hp] at dn;cases dn
     have hlen:=hB.sG
     have Vd:((xs.drop lo).take len).length=len:=by simp[hlen];omega
     rcases hk with ⟨dB,hv,hz⟩|⟨dB,aa,hv,g1,g2,g3⟩
     ·exact .inl ⟨hv,List.eq_nil_of_length_eq_zero (Vd.trans (by omega))⟩
     ·rcases hB with ⟨zx,_⟩|⟨_,hB⟩
      ·rw[dB] at zx;cases zx
      ·obtain⟨_,_,vs,hw,_⟩:=id hB
       obtain⟨k1,k2,k3,k4,k5⟩:=hB.S3 hw
       rcases g3 with g3|rfl
       ·have BW:len=0:=by omega
        subst BW
        exact .inr ⟨aa,_,[],hv,by simp only[List.take_zero];exact .nil,fun j u hu=>by simp at hu⟩
       ·have hm1:(lo+len)*t.size<=p.len*t.size:=Nat.mul_le_mul_right _ hl
        have Vi:p.len*t.size<=p.cap*t.size:=Nat.mul_le_mul_right _ k4
        rw[Nat.add_mul] at hm1
        refine .inr ⟨_,_,(vs.toList.drop (lo*t.size)).take (len*t.size),by rw[hv];congr 1;exact Vd.symm,⟨?_,fun i x hx=> ?_⟩,fun j u hu=> ?_⟩
        ·show _=((xs.drop lo).take len).length*t.size
         rw[Vd]
         simp only[List.length_take,List.length_drop,Array.length_toList]
         rw[k2]
         omega
        ·have Pw:((xs.drop lo).take len)[i]? =some x:=hx
         have hi:i<len:=by
          have:=(List.getElem?_eq_some_iff.1 Pw).1
          omega
         have XI:xs[lo+i]? =some x:=by
          rw[List.getElem?_take_of_lt hi,List.getElem?_drop] at Pw
          exact Pw
         obtain⟨ws,n1,n2,n3⟩:=k1.2 _ x XI
         refine⟨ws,n1,n2,fun j u hu=> ?_⟩
         have hj:=(List.getElem?_eq_some_iff.1 hu).1
         have hm3:(i+1)*t.size<=len*t.size:=Nat.mul_le_mul_right _ (by omega)
         rw[Nat.succ_mul] at hm3
         have:=n3 j u hu
         rw[Nat.add_mul] at this
         rw[List.getElem?_take_of_lt (by omega)] at this
         rw[List.getElem?_take_of_lt (by omega),List.getElem?_drop,<-Nat.add_assoc]
         exact this
        ·have hj:=(List.getElem?_eq_some_iff.1 hu).1
         simp only[List.length_take] at hj
         rw[List.getElem?_take_of_lt (by omega),List.getElem?_drop,Array.getElem?_toList] at hu
         rw[nk,jO hw]
         exact hu
    ·cases hr
   ·cases hr
  ·cases hr
 ·cases hr
  exact .inl ⟨hv,rfl⟩
 ·cases hr
end Go.Vc
end

section
set_option linter.unusedVariables false
set_option linter.unusedSimpArgs false
namespace Go.Vc
open Go
variable {P:Program} {X:Ctx} {w0:World} {foot:gM} {base:Mem} {S:St} {E:Env} {a:Act} {w:World} {ctx:c9}
theorem EJ {bl:List (Nat×c7)} {b i:Nat} {B:c7} (h:find (rem bl b) i=some B):find bl i=some B/\b≠i:=gp h
theorem HRel.drop {bl:List (Nat×c7)} {used:List Nat} (h:HRel w0 foot base bl used E w) (b:Nat):HRel w0 foot base (rem bl b) used E w:=
 h.congr (fun id B hf=>(EJ hf).1) (fun _ hi=>hi)
theorem HRel.attach {bl:List (Nat×c7)} {used:List Nat} (h:HRel w0 foot base bl used E w) {d g:Nat} {p:Place} {B:c7} {o:Obj} (hd:d∉used) (hp:p.nil=false) (hb:p.bp=g) (hg:g<w.heap.size)
  (rC:w0.heap.size<=g\/foot g) (hF:E.F g=none) (o9:∀i B' q,find bl i=some B'->E.place i=some q->q.nil=false->q.bp≠g)
  (hB:gg (E.new d p) (eu w g o) p B):HRel w0 foot base (put bl d B) (d::used) (E.new d p) (eu w g o):=by
 have jY:E.place d=none:=by
  cases he:E.place d with
  |none=>rfl
  |some q=>exact absurd (h.used d q he) hd
 have hle:=Env.nH (p:=p) jY
 have pI:∀i B',i≠d->find (put bl d B) i=some B'->find bl i=some B':=fun i B' hi hf=>by rwa [bn _ _ _ _ (Ne.symm hi)] at hf
 refine⟨⟨h.keep.os,h.keep.tape,h.keep.output,Nat.le_trans h.keep.size (by simp[eu]),fun k hk PK=>(n8 fun e=> ?_).trans (h.keep.block k hk PK)⟩,fun b o' ju=> ?_,h.src,fun i B' hf=> ?_,fun i B' q hf hq hn=> ?_,fun i j B' nS q q' hf eh hq nr hn dB k6=> ?_,fun i q hq=> ?_⟩
 ·subst e
  rcases rC with h1|h1
  ·omega
  ·exact PK h1
 ·rw[n8]
  ·exact h.m7 b o' ju
  ·rintro rfl
   have:E.F b=some o':=ju
   rw[hF] at this
   cases this
 ·by_cases hi:i=d
  ·subst hi
   rw[bP] at hf
   cases hf
   exact⟨p,Env.fb,hB⟩
  ·obtain⟨q,hq,k⟩:=h.cn i B' (pI i B' hi hf)
   exact⟨q,hle.place _ _ hq,(k.mono hle).world fun hn=>n8 (o9 i B' q (pI i B' hi hf) hq hn)⟩
 ·by_cases hi:i=d
  ·subst hi
   rw[Env.fb] at hq
   cases hq
   rw[hb]
   exact⟨rC,fun _=>hF⟩
  ·rw[Env.gm hi] at hq
   exact h.own i B' q (pI i B' hi hf) hq hn
 ·by_cases hi:i=d
  ·have hj:j≠d:=fun e=>k6 (hi.trans e.symm)
   rw[Env.gm hj] at nr
   have:=o9 j nS q' (pI j nS hj eh) nr dB
   subst hi
   rw[Env.fb] at hq
   cases hq
   rw[hb]
   exact Ne.symm this
  ·by_cases hj:j=d
   ·rw[Env.gm hi] at hq
    have:=o9 i B' q (pI i B' hi hf) hq hn
    subst hj
    rw[Env.fb] at nr
    cases nr
    rw[hb]
    exact this
   ·rw[Env.gm hi] at hq
    rw[Env.gm hj] at nr
    exact h.inj i j B' nS q q' (pI i B' hi hf) (pI j nS hj eh) hq nr hn dB k6
 ·by_cases hi:i=d
  ·exact hi▸List.mem_cons_self
  ·rw[Env.gm hi] at hq
   exact List.mem_cons_of_mem _ (h.used i q hq)
theorem yT {n b:Nat} (h:roomFor n b):n*b<=140737488355328/\n<=140737488355328:=by
 unfold roomFor at h
 rw[Nat.mul_add] at h
 omega
theorem oG {t e ty:Nat} {j:TypeInfo} (ht:P.underlying t=some (.slice e)) (hi:P.info? e=some j) {b:Option Addr} {n c:Nat} (hnc:n<=c) (hb:b=none->n=0/\c=0):
  (Builtin.append_ #[t,t] ty #[.slice b n c,.slice none 0 0]).run P w= .ok (.slice b n c) w:=by
 cases b with
 |none=>obtain⟨rfl,rfl⟩:=hb rfl;simp[Builtin.append_,run_underlying ht,dZ hi,Builtin.lenOf,Builtin.firstCells]
 |some a=>simp[Builtin.append_,run_underlying ht,dZ hi,Builtin.lenOf,Builtin.firstCells,hnc,storeCells]
theorem ry {t e ty:Nat} {j:TypeInfo} (ht:P.underlying t=some (.slice e)) (hi:P.info? e=some j) {a:Addr} {c:Nat}:
  (Builtin.append_ #[t,t] ty #[.slice none 0 0,.slice (some a) 0 c]).run P w= .ok (.slice none 0 0) w:=by
 simp[Builtin.append_,run_underlying ht,dZ hi,Builtin.lenOf,Builtin.firstCells,loadCells,loadCellsFrom]
theorem rH (z:Array Value) (n:Nat):(Builtin.zeroCells z n).size=n*z.size:=by simp[Builtin.zeroCells]
theorem rT (w:World) (n lk:Nat) (e:Nat) (h:n<=aM):n<=grownCap w n lk e/\grownCap w n lk e<=aM:=by
 have h1:=grownCap_ge w n lk e
 have h2:=grownCap_le_maxLen w n lk e (by simp only[maxLen];unfold aM at h;omega)
 refine⟨h1,?_⟩
 simp only[maxLen] at h2
 unfold aM
 omega
theorem SG (hT:dx P X.aA) (h:SRel w0 foot base S E a w) (hc:br a ctx) {o:Oper} {s x:Operand} {t:Nat} {d:Nat} {args:Array Operand} {yC:Array Nat} (ho:o.op= .call {callee:= .builtin .append,args:=args,argTypes:=yC})
  (hargs:args.toList=[s,x]) (Yf:yC.toList=[t,t]) {r:b9}
  (hr:(do
   let i <-ti X t
   match i.d with
   | .slice e=>(do
    let j <-ti X e
    let ty <-RM.ofOption j.ty
    let _ <-uk j ty
    let c <-lM s
    Jn d e j ty c (<-lM x))
   |_=> .fail:RM b9).run S ctx=some r) (hn:∀i∈r.new,i∉S.used) (cr:∀c∈r.conds,c):bZ P w0 foot base S E a w o r:=by
 obtain rfl:args= #[s,x]:=by apply Array.ext';simpa using hargs
 obtain rfl:yC= #[t,t]:=by apply Array.ext';simpa using Yf
 have bw:=RM.run_bind' hr
 clear hr
 obtain⟨i,h1,hr⟩:=bw
 obtain⟨hs,_⟩:=dh hT h1
 split at hr
 ·rename_i e hd
  rw[hd] at hs
  have hu:=dO hs
  have bw:=RM.run_bind' hr
  clear hr
  obtain⟨j,h2,hr⟩:=bw
  have bw:=RM.run_bind' hr
  clear hr
  obtain⟨ty,h3,hr⟩:=bw
  have bw:=RM.run_bind' hr
  clear hr
  obtain⟨z,h4,hr⟩:=bw
  have bw:=RM.run_bind' hr
  clear hr
  obtain⟨c,h5,hr⟩:=bw
  have bw:=RM.run_bind' hr
  clear hr
  obtain⟨c',h6,hr⟩:=bw
  obtain⟨j',g1,g2,g3,g4,g5,g6,g7,g8⟩:=qx hT h2 h4
  have Py:=gu h hc h5
  have hxv:=gu h hc h6
  unfold Jn at hr
  have bw:=RM.run_bind' hr
  clear hr
  obtain⟨ys,h7,hr⟩:=bw
  have wS:=He h.toHRel (by omega) hxv h7
  have run:∀v w',(Builtin.append_ #[t,t] o.type #[a.eval s,a.eval x]).run P w= .ok v w'->(execOp a.eval o).run P w= .ok (.value v) w':=fun v w' hv=>by
   simp[execOp,ho,resolve,invoke,builtin,hv]
  have fresh:∀{xs:List ty.den} {us:List Value} {v:Value} {S':St} {cap:Nat} {vs:Array Value} {rest:List Value},S'.used=S.used->HRel w0 foot base S'.bl S'.used E w.drew->d∉S.used->ef E.F ty xs us->cap<=aM->xs.length<=cap->
    vs.toList=us++rest->vs.size=cap*ty.size->
    HRel w0 foot base (put S'.bl d (.row false e ty xs)) (d::S'.used) (E.new d ⟨false,w.heap.size,cap,xs.length⟩) (w.drew.alloc (.cells vs e))/\E.le (E.new d ⟨false,w.heap.size,cap,xs.length⟩)/\
    gV (E.new d ⟨false,w.heap.size,cap,xs.length⟩) (.row ty d) (.slice (some ⟨w.heap.size,0,none⟩) xs.length cap):=fun he hh hd hv hc hl RU iT=>by
   exact CQ (S:=_) (w:=w.drew) hh (by rw[he];exact hd) hv hc hl RU iT
  split at hr
  ·cases hr
   have Nq:d∉S.used:=hn d (by simp)
   have jY:E.place d=none:=by
    cases he:E.place d with
    |none=>rfl
    |some q=>exact absurd (h.used d q he) Nq
   have H8:=yT (cr _ (List.mem_singleton.2 rfl))
   have Py:a.eval s= .slice none 0 0:=Py
   have zg:ys=[]->(Builtin.append_ #[t,t] o.type #[a.eval s,a.eval x]).run P w= .ok (.slice none 0 0) w->bZ P w0 foot base S E a w o {val:=some (.one (.row ty d)),cn:=[(d,.row false e ty ys)],new:=[d],conds:=[roomFor ys.length j.bytes]}:=fun hy dE=>by
    refine bZ.value (run _ _ dE) ⟨Env.nH (p:=⟨true,0,0,0⟩) jY,h.toHRel.MI Nq rfl (Or.inl ⟨rfl,hy,rfl⟩),⟨_,Env.fb,.inl ⟨rfl,rfl,rfl⟩⟩⟩
   rcases wS with ⟨wb,hy⟩|⟨ad,cap,news,wb,Dd,qV⟩
   ·refine zg hy ?_
    rw[Py,wb]
    exact oG hu g1 (Nat.le_refl _) (fun _=>⟨rfl,rfl⟩)
   ·by_cases hy:ys=[]
    ·refine zg hy ?_
     rw[Py,wb,hy]
     exact ry hu g1
    ·have vG:0<ys.length:=List.length_pos_iff.2 hy
     have dE:=run_append_nil (P:=P) w t o.type e j' j.zero hu g1 g4 ad ys.length cap news (by rw[Dd.1,g5,g2]) qV vG (by omega) (by rw[g3];omega)
     rw[<-Py,<-wb] at dE
     obtain⟨b1,b2⟩:=rT w ys.length 0 e (by unfold aM;omega)
     obtain⟨k1,k2,k3⟩:=fresh (S':=S) (v:= .nilFunc) rfl (h.toHRel.drew _) Nq Dd b2 b1 (vs:=news.toArray++Builtin.zeroCells j.zero.cells (grownCap w ys.length 0 e - ys.length)) (by simp;rfl)
      (by simp only[Array.size_append,List.size_toArray,Dd.1,rH,g7,<-g5,<-Nat.add_mul];congr 1;omega)
     exact bZ.value (run _ _ dE) ⟨k2,k1,k3⟩
  ·rename_i tt b
   simp only[RM.run] at hr
   split at hr
   ·rename_i B hf
    split at hr
    ·rename_i e' t' xs
     split at hr
     ·rename_i hb
      simp only[Bool.and_eq_true] at hb
      have he:=Nat.eq_of_beq_eq_true hb.2
      subst he
      have bw:=RM.run_bind' hr
      clear hr
      obtain⟨zs,h8,hr⟩:=bw
      cases hr
      obtain⟨ee,rfl⟩:=Ty.iQ (b0 h8)
      cases ee
      have Nq:d∉S.used:=hn d (by simp)
      have jY:E.place d=none:=by
       cases he:E.place d with
       |none=>rfl
       |some q=>exact absurd (h.used d q he) Nq
      have H8:=yT (cr (roomFor (xs.length+ys.length) j.bytes) (List.mem_singleton.2 rfl))
      obtain⟨p,hp,hk⟩:=Py
      obtain⟨p',dn,hB⟩:=h.cn _ _ hf
      rw[hp] at dn;cases dn
      have Np:=h.toHRel.drop b
      rcases hk with ⟨dB,hv,hz⟩|⟨dB,hv,q1,q2⟩
      ·-- nil so far
       have hx:xs=[]:=List.eq_nil_of_length_eq_zero (by rw[hB.sG,hz])
       subst hx
       have zg:ys=[]->(Builtin.append_ #[t,t] o.type #[a.eval s,a.eval x]).run P w= .ok (.slice none 0 0) w->bZ P w0 foot base S E a w o {val:=some (.one (.row ty d)),cn:=[(d,.row false e ty ([]++ys))],del:=[b],new:=[d],conds:=[roomFor (0+ys.length) j.bytes]}:=fun hy dE=>by
        refine bZ.value (run _ _ dE) ⟨Env.nH (p:=⟨true,0,0,0⟩) jY,Np.MI Nq rfl (Or.inl ⟨rfl,hy,rfl⟩),⟨_,Env.fb,.inl ⟨rfl,rfl,rfl⟩⟩⟩
       rcases wS with ⟨wb,hy⟩|⟨ad,cap,news,wb,Dd,qV⟩
       ·refine zg hy ?_
        rw[hv,wb]
        exact oG hu g1 (Nat.le_refl _) (fun _=>⟨rfl,rfl⟩)
       ·by_cases hy:ys=[]
        ·refine zg hy ?_
         rw[hv,wb,hy]
         exact ry hu g1
        ·have vG:0<ys.length:=List.length_pos_iff.2 hy
         simp only[List.length_nil,Nat.zero_add] at H8
         have dE:=run_append_nil (P:=P) w t o.type e j' j.zero hu g1 g4 ad ys.length cap news (by rw[Dd.1,g5,g2]) qV vG (by omega) (by rw[g3];omega)
         rw[<-hv,<-wb] at dE
         obtain⟨b1,b2⟩:=rT w ys.length 0 e (by unfold aM;omega)
         obtain⟨k1,k2,k3⟩:=fresh (S':={S with bl:=rem S.bl b}) (v:= .nilFunc) rfl (Np.drew _) Nq Dd b2 b1 (vs:=news.toArray++Builtin.zeroCells j.zero.cells (grownCap w ys.length 0 e - ys.length)) (by simp;rfl)
          (by simp only[Array.size_append,List.size_toArray,Dd.1,rH,g7,<-g5,<-Nat.add_mul];congr 1;omega)
         exact bZ.value (run _ _ dE) ⟨k2,k1,k3⟩
      ·rcases hB with ⟨zx,_⟩|⟨_,hB⟩
       ·rw[dB] at zx;cases zx
       ·obtain⟨_,_,cur,hw,_⟩:=id hB
        obtain⟨k1,k2,k3,k4,k5⟩:=hB.S3 hw
        have hmul:p.len*ty.size<=p.cap*ty.size:=Nat.mul_le_mul_right _ k4
        have own:=h.own b _ p hf hp dB
        have aen:∃news,ef E.F ty ys news/\((a.eval x= .slice none 0 0/\news=[])\/∃ad cap,a.eval x= .slice (some ad) ys.length cap/\∀(j:Nat) u,news[j]? =some u->w.cell? (ad.add j)=some u):=by
         rcases wS with ⟨wb,hy⟩|⟨ad,cap,news,wb,Dd,qV⟩
         ·exact⟨[],by rw[hy];exact .nil,.inl ⟨wb,rfl⟩⟩
         ·exact⟨news,Dd,.inr ⟨ad,cap,wb,qV⟩⟩
        obtain⟨news,Dd,hx⟩:=aen
        have H9:=Dd.1
        by_cases zz:p.len+ys.length<=p.cap
        ·-- in place
         have aes:(p.len+ys.length)*ty.size<=p.cap*ty.size:=Nat.mul_le_mul_right _ zz
         rw[Nat.add_mul] at aes
         have FT:∀u∈news,u.oneCell'=true:=fun u hu=>by
          rcases hx with ⟨_,rfl⟩|⟨ad,cap,wb,qV⟩
          ·cases hu
          ·obtain⟨n,abH,rfl⟩:=List.mem_iff_getElem.1 hu
           have hn0:n<ys.length*ty.size:=by rw[<-H9];exact abH
           have hi:n / ty.size<ys.length:=Nat.div_lt_of_lt_mul (by rw[Nat.mul_comm];exact hn0)
           obtain⟨ws,r1,r2,r3⟩:=Dd.2 (n / ty.size) _ (List.getElem?_eq_getElem hi)
           have hm:=Nat.mod_lt n (show ty.size>0 by omega)
           have:=r3 (n % ty.size) ws[n % ty.size] (List.getElem?_eq_getElem (by omega))
           rw[Nat.mul_comm,Nat.div_add_mod,List.getElem?_eq_getElem abH] at this
           rw[Option.some.inj this]
           exact(gN (E:=⟨E.F,fun _=>none⟩) r1).oK _ (List.getElem_mem _)
         have dE:(Builtin.append_ #[t,t] o.type #[a.eval s,a.eval x]).run P w= .ok (.slice (some ⟨p.bp,0,none⟩) (p.len+ys.length) p.cap) (eu w p.bp (.cells (cur.toList.take (p.len*ty.size)++news++cur.toList.drop (p.len*ty.size+news.length)).toArray e (0,0))):=by
          rw[hv]
          rcases hx with ⟨wb,rfl⟩|⟨ad,cap,wb,qV⟩
          ·have XG:ys.length=0:=by
            have:ys.length*ty.size=0:=by rw[<-H9];rfl
            rcases Nat.mul_eq_zero.1 this with h|h
            ·exact h
            ·omega
           rw[wb,oG hu g1 k4 (fun h=>by cases h),XG]
           simp only[List.append_nil,List.length_nil,Nat.add_zero,List.take_append_drop,Array.toArray_toList]
           congr 1
           rw[<-xw hw,setRow_self w p.bp cur e (0,0) hw]
          ·have:=run_append_room (P:=P) w t o.type e j' hu g1 p.bp p.len p.cap cur hw ad ys.length cap news (by rw[H9,g5,g2]) qV FT zz (by rw[g2,<-g5,H9,k2];omega)
           rw[wb,this,xw hw,g2,<-g5]
         have hlen:(xs++ys).length=p.len+ys.length:=by simp[k3]
         have Nf:=k1.append Dd
         have kz:∀i B' q,find (rem S.bl b) i=some B'->E.place i=some q->q.nil=false->q.bp≠p.bp:=fun i B' q eh hq Dc=>by
          obtain⟨wW,BY⟩:=EJ eh
          exact h.inj i b B' _ q p wW hf hq hp Dc dB (Ne.symm BY)
         have Tx:=Np.attach (p:=⟨false,p.bp,p.cap,p.len+ys.length⟩) (B:= .row false e ty (xs++ys)) (o:= .cells (cur.toList.take (p.len*ty.size)++news++cur.toList.drop (p.len*ty.size+news.length)).toArray e (0,0)) Nq rfl rfl (dR hw) own.1 (own.2 rfl) kz
          (Or.inr ⟨rfl,n6.mk' (p:=⟨false,p.bp,p.cap,p.len+ys.length⟩) (Nf.mono (Env.nH jY).F) k5 hlen zz (iK (dR hw)) rfl (by
           simp only[List.size_toArray,List.length_append,List.length_take,List.length_drop,Array.length_toList]
           rw[k2,H9]
           omega)⟩)
         exact bZ.value (run _ _ dE) ⟨Env.nH jY,Tx,⟨_,Env.fb,.inr ⟨rfl,rfl,zz,k5⟩⟩⟩
        ·-- a new array
         rcases hx with ⟨wb,kz⟩|⟨ad,cap,wb,qV⟩
         ·subst kz
          have:ys.length*ty.size=0:=by rw[<-H9];rfl
          rcases Nat.mul_eq_zero.1 this with h|h<;>omega
         ·have dE:=run_append_grow (P:=P) w t o.type e j' j.zero hu g1 g4 ⟨p.bp,0,none⟩ p.len p.cap (cur.toList.take (p.len*ty.size)) (by rw[k1.1,k3,g5,g2]) (fun jj u hu=>by
            rw[nk,jO hw]
            have PH:=(List.getElem?_eq_some_iff.1 hu).1
            simp only[List.length_take] at PH
            rw[List.getElem?_take_of_lt (by omega),Array.getElem?_toList] at hu
            simpa using hu) ad ys.length cap news (by rw[H9,g5,g2]) qV (by omega) (by rw[k3] at H8;omega) (growslice_fits (by omega) (by rw[g3,<-k3];exact H8.1))
          rw[<-hv,<-wb] at dE
          obtain⟨b1,b2⟩:=rT w (p.len+ys.length) p.cap e (by unfold aM;rw[k3] at H8;omega)
          have hlen:(xs++ys).length=p.len+ys.length:=by simp[k3]
          obtain⟨m1,m2,m3⟩:=fresh (S':={S with bl:=rem S.bl b}) (v:= .nilFunc) (xs:=xs++ys) rfl (Np.drew _) Nq (k1.append Dd) b2 (by rw[hlen];exact b1)
           (vs:=(cur.toList.take (p.len*ty.size)).toArray++news.toArray++Builtin.zeroCells j.zero.cells (grownCap w (p.len+ys.length) p.cap e - (p.len+ys.length))) (by simp;rfl)
           (by simp only[Array.size_append,List.size_toArray,H9,k1.1,k3,rH,g7,<-g5,<-Nat.add_mul];congr 1;omega)
          rw[hlen] at m1 m2 m3
          exact bZ.value (run _ _ dE) ⟨m2,m1,m3⟩
     ·cases hr
    ·cases hr
   ·cases hr
  ·cases hr
 ·cases hr
theorem aag (hT:dx P X.aA) (h:SRel w0 foot base S E a w) (hc:br a ctx) {o:Oper} {x:Operand} {t:Nat} {args:Array Operand} {yC:Array Nat} (ho:o.op= .call {callee:= .builtin .len,args:=args,argTypes:=yC})
  (hargs:args.toList=[x]) (Yf:yC.toList=[t]) {r:b9}
  (hr:(do
   let i <-ti X t
   let c <-lM x
   match i.d,c with
   | .str,.aG .str _=>uQ c
   | .slice _,.aG (.list _) _=>uQ c
   | .slice _,.row _ _=>uQ c
   | .slice _,.sub _ _ _ _=>uQ c
   | .slice _,.kq=>uQ c
   |_,_=> .fail:RM b9).run S ctx=some r):bZ P w0 foot base S E a w o r:=by
 obtain rfl:args= #[x]:=by apply Array.ext';simpa using hargs
 obtain rfl:yC= #[t]:=by apply Array.ext';simpa using Yf
 have bw:=RM.run_bind' hr
 clear hr
 obtain⟨i,h1,hr⟩:=bw
 have bw:=RM.run_bind' hr
 clear hr
 obtain⟨c,h2,hr⟩:=bw
 obtain⟨hs,_⟩:=dh hT h1
 have hx:=gu h hc h2
 have inr:∀n:Nat,n<=aM->bo .i64 (n:Int):=fun n hn=>by
  have h1:IntKind.i64.min= -9223372036854775808:=by decide
  have h2:IntKind.i64.max=9223372036854775807:=by decide
  unfold bo
  rw[h1,h2]
  unfold aM at hn
  omega
 have key:∀n:Nat,n<=aM->(Builtin.len_ #[t] o.type #[a.eval x]).run P w= .ok (.int .i64 n) w->r={val:=some (.one (.aG (.int .i64) (n:Int)))}->bZ P w0 foot base S E a w o r:=fun n hn dE he=>by
  rw[he]
  refine bZ.value (v:= .int .i64 n) (w':=w) ?_ (iF.pure h.toHRel ⟨rfl,rfl,inr n hn⟩)
  simp[execOp,ho,resolve,invoke,builtin,dE]
 have sl:∀e b n c,P.underlying t=some (.slice e)->a.eval x= .slice b n c->(Builtin.len_ #[t] o.type #[a.eval x]).run P w= .ok (.int .i64 n) w:=fun e b n c hu hv=>by
  simp[Builtin.len_,run_underlying hu,hv,goInt]
 split at hr
 ·rename_i s hd
  rw[hd] at hs
  unfold uQ at hr
  obtain⟨_,g1,g2⟩:=hx
  simp only[List.cons.injEq,and_true] at g1
  refine key _ g2 ?_ (fY hr)
  simp[Builtin.len_,run_underlying (qf hs),g1,goInt,Ea]
 ·rename_i e tt xs hd
  rw[hd] at hs
  unfold uQ at hr
  obtain⟨_,aa,cap,g1,g2,g3,_⟩:=hx
  simp only[List.cons.injEq,and_true] at g1
  exact key _ (Nat.le_trans g2 g3) (sl e _ _ _ (dO hs) g1) (fY hr)
 ·rename_i e tt b hd
  rw[hd] at hs
  unfold uQ at hr
  simp only[RM.run] at hr
  split at hr
  ·rename_i B hf
   split at hr
   ·rename_i je e' t' xs
    split at hr
    ·obtain⟨p,hp,hk⟩:=hx
     obtain⟨p',dn,hB⟩:=h.cn _ _ hf
     rw[hp] at dn;cases dn
     have hlen:=hB.sG
     rcases hk with ⟨_,hv,hz⟩|⟨_,hv,q1,q2⟩
     ·exact key xs.length (by rw[hlen,hz];simp[aM]) (by rw[hlen,hz];exact sl e _ _ _ (dO hs) hv) (fY hr)
     ·exact key xs.length (by omega) (by rw[hlen];exact sl e _ _ _ (dO hs) hv) (fY hr)
    ·cases hr
   ·cases hr
  ·cases hr
 ·rename_i e tt b lo len hd
  rw[hd] at hs
  unfold uQ at hr
  obtain⟨p,hp,hl,hk⟩:=hx
  rcases hk with ⟨_,hv,hz⟩|⟨_,aa,hv,q1,q2,_⟩
  ·have:len=0:=by omega
   subst this
   exact key 0 (by simp[aM]) (sl e _ _ _ (dO hs) hv) (fY hr)
  ·exact key len (by omega) (sl e _ _ _ (dO hs) hv) (fY hr)
 ·rename_i e hd
  rw[hd] at hs
  unfold uQ at hr
  exact key 0 (by simp[aM]) (sl e _ _ _ (dO hs) hx) (fY hr)
 ·cases hr
theorem HO (h:SRel w0 foot base S E a w) (hc:br a ctx) {o:Oper} {args:Array Operand} {yC:Array TypeId} {big:Bool} {x y:Operand} (ho:o.op= .call {callee:= .builtin (match big with |true=> .max|false=> .min),args:=args,argTypes:=yC})
  (ha:args.toList=[x,y]) {r:b9} (hr:(do GI big (<-ev x) (<-ev y):RM b9).run S ctx=some r):bZ P w0 foot base S E a w o r:=by
 have bw:=RM.run_bind' hr
 clear hr
 obtain⟨s1,h1,hr⟩:=bw
 have bw:=RM.run_bind' hr
 clear hr
 obtain⟨s2,h2,hr⟩:=bw
 have hx:=gi h hc h1
 have hy:=gi h hc h2
 have hargs:args.map a.eval= #[a.eval x,a.eval y]:=by
  obtain⟨l⟩:=args
  simp only at ha
  subst ha
  simp
 unfold GI at hr
 split at hr
 ·rename_i j m k n
  split at hr
  ·rename_i hk
   have:=ql hk
   subst this
   obtain⟨_,x1,x2⟩:=hx
   obtain⟨_,y1,y2⟩:=hy
   simp only[List.cons.injEq,and_true] at x1 y1
   cases big with
   |true=>
    refine bZ.value (v:= .int j (max (Ty.I m) (Ty.I n))) (w':=w) ?_ ((fv.cM hr ⟨rfl,rfl,?_⟩).after h.toHRel)
    ·simp[execOp,ho,resolve,invoke,builtin,hargs,x1,y1,Go.Lib.run_max_ints]
    ·rcases Int.max_def (Ty.I m) (Ty.I n)▸(by split<;>simp:(if Ty.I m<=Ty.I n then Ty.I n else Ty.I m)=Ty.I n\/(if Ty.I m<=Ty.I n then Ty.I n else Ty.I m)=Ty.I m) with e|e
     ·rw[e];exact y2
     ·rw[e];exact x2
   |false=>
    refine bZ.value (v:= .int j (min (Ty.I m) (Ty.I n))) (w':=w) ?_ ((fv.cM hr ⟨rfl,rfl,?_⟩).after h.toHRel)
    ·simp[execOp,ho,resolve,invoke,builtin,hargs,x1,y1,Go.Lib.run_min_ints]
    ·rcases Int.min_def (Ty.I m) (Ty.I n)▸(by split<;>simp:(if Ty.I m<=Ty.I n then Ty.I m else Ty.I n)=Ty.I m\/(if Ty.I m<=Ty.I n then Ty.I m else Ty.I n)=Ty.I n) with e|e
     ·rw[e];exact x2
     ·rw[e];exact y2
  ·cases hr
 ·cases hr
end Go.Vc
end

section
set_option linter.unusedVariables false
set_option linter.unusedSimpArgs false
namespace Go.Vc
open Go
variable {P:Program} {X:Ctx} {w0:World} {foot:gM} {base:Mem} {S:St} {E:Env} {a:Act} {w:World} {ctx:c9}
def jK (F:Mem) (t:Ty) (x:t.den) (v:Value):Prop:=∃us,dj F t x us/\v=t.valOf us
theorem rI {F:Mem}:∀{t:Ty} {x:t.den} {us:List Value},t.A8=true->dj F t x us->∃u,us=[u]
 | .int _,_,_,_,h=>⟨_,h.1⟩
 | .bool,_,_,_,h=>⟨_,h⟩
 | .str,_,_,_,h=>⟨_,h.1⟩
theorem Oy {t:Ty} (h:t.A8=true) (u:Value):t.valOf [u]=u:=by
 cases t<;>first|rfl|cases h
theorem qE {t:Nat} {b:Ty} (h:GB (kb P t) b=true):b.A8=true/\(match kb P t with | .struct _=>false| .array _ _=>false| .map _ _=>true| .other=>false|_=>true)=true/\
  ∃d,P.underlying t=some d/\∀(F:Mem) (w:World) (dd:Nat) (x y:b.den) (u v:Value),dj F b x [u]->dj F b y [v]->
   MapKept.IsKey d u/\Instr.sameNow d u v=some (b.jc x y)/\(Op.equalIn (dd+1) t u v).run P w= .ok (b.jc x y) w:=by
 cases hs:kb P t with
 |int j=>
  rw[hs] at h
  cases b with
  |int k=>
   have e:=ql (show pF j k=true from h)
   subst e
   refine⟨rfl,rfl,_,rG hs,fun F w dd x y u v hu hv=> ?_⟩
   obtain⟨hu,_⟩:=hu
   obtain⟨hv,_⟩:=hv
   simp only[List.cons.injEq,and_true] at hu hv
   subst hu hv
   exact⟨rfl,by simp[Instr.sameNow];rfl,run_equalIn_int w dd t _ j _ _ (rG hs)⟩
  |_=>cases h
 |bool=>
  rw[hs] at h
  cases b with
  |bool=>
   refine⟨rfl,rfl,_,ux hs,fun F w dd x y u v hu hv=> ?_⟩
   simp only[dj,List.cons.injEq,and_true] at hu hv
   subst hu hv
   exact⟨trivial,rfl,run_equalIn_bool w dd t _ _ (ux hs)⟩
  |_=>cases h
 |str=>
  rw[hs] at h
  cases b with
  |str=>
   refine⟨rfl,rfl,_,qf hs,fun F w dd x y u v hu hv=> ?_⟩
   obtain⟨hu,_⟩:=hu
   obtain⟨hv,_⟩:=hv
   simp only[List.cons.injEq,and_true] at hu hv
   subst hu hv
   refine⟨trivial,?_,by rw[run_equalIn_string w dd t _ _ (qf hs),oD,oD];rfl⟩
   simp only[Instr.sameNow,Ty.jc]
   congr 1
   rw[Bool.eq_iff_iff,MapKept.bytes_beq,beq_iff_eq]
   constructor
   ·intro h;cases h;rfl
   ·intro h;rw[h]
  |_=>cases h
 |slice e=>rw[hs] at h;cases b<;>cases h
 |struct fs=>rw[hs] at h;cases b<;>cases h
 |plain=>rw[hs] at h;cases b<;>cases h
 |vX=>rw[hs] at h;cases b<;>cases h
 |array n e=>rw[hs] at h;cases b<;>cases h
 |map k e=>rw[hs] at h;cases b<;>cases h
 |other=>rw[hs] at h;cases b<;>cases h
theorem C1:∀{fs:List (Nat×Nat×Nat)} {t:Ty} {o:Nat} {u:Unit},(zl X fs t o).run S ctx=some u->(∀{t:Nat} {i:TI},(ti X t).run S ctx=some i->kb P t=i.d)->t.A8=true\/t.uy=true
 |[],t,o,u,h,_=>by
  unfold zl at h
  split at h
  ·exact .inr rfl
  ·cases h
 |(off,sz,tf)::fs,t,o,u,h,hd=>by
  unfold zl at h
  split at h
  ·obtain⟨i,h1,h⟩:=RM.run_bind' h
   obtain⟨_,h2,h⟩:=RM.run_bind' h
   have h2:=bR h2
   simp only[Bool.and_eq_true] at h2
   rw[<-hd h1] at h2
   simp only[Ty.uy,Bool.and_eq_true,Bool.or_eq_true]
   exact .inr ⟨(qE h2.2).1,C1 h hd⟩
  ·obtain⟨i,h1,h⟩:=RM.run_bind' h
   have h2:=bR h
   simp only[Bool.and_eq_true] at h2
   rw[<-hd h1] at h2
   exact .inl (qE h2.2.2).1
theorem xK (hT:dx P X.aA) {F:Mem} (w:World):∀{gs:List Field} {t:Ty} {o:Nat} {u:Unit},(zl X (gs.map fun f=>(f.offset,P.cellsOf f.type,f.type)) t o).run S ctx=some u->
  (gs.all fun f=>f.name !="_")=true->∀{x y:t.den} {us ws pre pre':List Value},dj F t x us->dj F t y ws->pre.length=o->pre'.length=o->
  (∀d,(Op.eqFields (d+1) (pre++us).toArray (pre'++ws).toArray gs).run P w= .ok (t.jc x y) w)/\
  ∀(em:Bool) (n:Nat),(forIn gs PUnit.unit fun f r=>(do
   if f.name≠"_" then Instr.checkKey em (n+1) f.type (<-part f.type (pre++us).toArray f.offset)
   pure (ForInStep.yield PUnit.unit):Sem (ForInStep PUnit))).run P w= .ok PUnit.unit w
 |[],t,o,u,h,hn,x,y,us,ws,pre,pre',hx,hy,hp,dn=>by
  unfold zl at h
  simp only[List.map_nil] at h
  split at h
  ·exact⟨fun d=>by simp[Op.eqFields,Ty.jc],fun em n=>by simp⟩
  ·cases h
 |g::gs,t,o,u,h,hn,x,y,us,ws,pre,pre',hx,hy,hp,dn=>by
  unfold zl at h
  simp only[List.map_cons] at h
  simp only[List.all_cons,Bool.and_eq_true,bne_iff_ne] at hn
  split at h
  ·rename_i b c
   obtain⟨i,h1,h⟩:=RM.run_bind' h
   obtain⟨_,h2,h⟩:=RM.run_bind' h
   have h2:=bR h2
   simp only[Bool.and_eq_true] at h2
   obtain⟨hs,_⟩:=dh hT h1
   have ho:=Nat.eq_of_beq_eq_true h2.1
   rw[<-hs] at h2
   obtain⟨q1,q2,d0,q3,q4⟩:=qE h2.2
   obtain⟨us1,ZW,rfl,k1,k2⟩:=hx
   obtain⟨ws1,ws2,rfl,m1,m2⟩:=hy
   obtain⟨u1,rfl⟩:=rI q1 k1
   obtain⟨w1,rfl⟩:=rI q1 m1
   have ih:=xK hT w h (by simpa using hn.2) k2 m2 (pre:=pre++[u1]) (pre':=pre'++[w1]) (by simp[hp]) (by simp[dn])
   simp only[List.append_assoc] at ih
   have g1:(pre++([u1]++ZW)).toArray[g.offset]? =some u1:=by
    rw[ho,<-hp];simp
   have g2:(pre'++([w1]++ws2)).toArray[g.offset]? =some w1:=by
    rw[ho,<-dn];simp
   have r1:=iu (P:=P) (w:=w) q2 g1
   have r2:=iu (P:=P) (w:=w) q2 g2
   refine⟨fun d=> ?_,fun em n=> ?_⟩
   ·have e1:=(q4 F w d _ _ _ _ k1 m1).2.2
    simp only[Op.eqFields,if_pos hn.1,Sem.run_bind,r1,r2,Result.andThen_ok,e1,Ty.jc]
    cases b.jc x.1 y.1 with
    |true=>simpa using ih.1 d
    |false=>simp
   ·have e1:=MapKept.run_checkKey (w:=w) q3 (q4 F w 0 _ _ _ _ k1 k1).1 em n
    simp only[List.forIn_cons,Sem.run_bind,if_pos hn.1,r1,Result.andThen_ok,e1,Sem.run_pure]
    exact ih.2 em n
  ·obtain⟨i,h1,h⟩:=RM.run_bind' h
   have h2:=bR h
   simp only[Bool.and_eq_true] at h2
   obtain⟨hs,_⟩:=dh hT h1
   have ho:=Nat.eq_of_beq_eq_true h2.1
   have R5:gs=[]:=by
    have:=h2.2.1
    cases gs with
    |nil=>rfl
    |cons a l=>simp at this
   subst R5
   rw[<-hs] at h2
   obtain⟨q1,q2,d0,q3,q4⟩:=qE h2.2.2
   obtain⟨u1,rfl⟩:=rI q1 hx
   obtain⟨w1,rfl⟩:=rI q1 hy
   have g1:(pre++[u1]).toArray[g.offset]? =some u1:=by
    rw[ho,<-hp];simp
   have g2:(pre'++[w1]).toArray[g.offset]? =some w1:=by
    rw[ho,<-dn];simp
   have r1:=iu (P:=P) (w:=w) q2 g1
   have r2:=iu (P:=P) (w:=w) q2 g2
   refine⟨fun d=> ?_,fun em n=> ?_⟩
   ·have e1:=(q4 F w d _ _ _ _ hx hy).2.2
    simp only[Op.eqFields,if_pos hn.1,Sem.run_bind,r1,r2,Result.andThen_ok,e1]
    cases Ty.jc _ x y<;>simp
   ·have e1:=MapKept.run_checkKey (w:=w) q3 (q4 F w 0 _ _ _ _ hx hx).1 em n
    simp only[List.forIn_cons,Sem.run_bind,if_pos hn.1,r1,Result.andThen_ok,e1,Sem.run_pure]
    simp
inductive vR (F:Mem) (b:Ty) {β:Type}:List (b.den×β)->List MapEntry->Prop
 |nil:vR F b [] []
 |cons {y:b.den×β} {e:MapEntry} {m:List (b.den×β)} {l:List MapEntry} (h:jK F b y.1 e.key) (k:vR F b m l):vR F b (y::m) (e::l)
structure KeyLaw (P:Program) (kt:Nat) (b:Ty):Prop where
 key:b.isKey=true
 check:∀{F:Mem} (w:World) (em:Bool) {x:b.den} {v:Value},jK F b x v->(Instr.checkKey em 10000 kt v).run P w= .ok () w
 stays:∀{F:Mem} (w:World) {x:b.den} {u v:Value},jK F b x u->jK F b x v->(Instr.keyThatStays u v).run P w= .ok v w
 find:∀{F:Mem} (w:World) {β:Type} {m:List (b.den×β)} {l:List MapEntry} {x:b.den} {v:Value},jK F b x v->vR F b m l->
  ((aW b m x=none/\(Instr.findKey kt v l).run P w= .ok none w)\/∃e,(aW b m x).isSome=true/\l[jV b m x]? =some e/\(Instr.findKey kt v l).run P w= .ok (some (jV b m x,e.val)) w)
theorem xy {F:Mem}:∀{t:Ty} {x:t.den} {us ws:List Value},t.A8=true->dj F t x us->dj F t x ws->us=ws
 | .int _,_,_,_,_,h,k=>by rw[h.1,k.1]
 | .bool,_,_,_,_,h,k=>by rw[show _=_ from h,show _=_ from k]
 | .str,_,_,_,_,h,k=>by rw[h.1,k.1]
theorem A7 {F:Mem}:∀{t:Ty} {x:t.den} {us ws:List Value},t.uy=true->dj F t x us->dj F t x ws->us=ws
 | .unit,_,_,_,_,h,k=>by rw[show _=_ from h,show _=_ from k]
 | .pair a b,_,_,_,ht,h,k=>by
  simp only[Ty.uy,Bool.and_eq_true,Bool.or_eq_true] at ht
  obtain⟨_,_,rfl,h1,h2⟩:=h
  obtain⟨_,_,rfl,k1,k2⟩:=k
  rw[xy ht.1 h1 k1]
  rcases ht.2 with AW|AW
  ·rw[xy AW h2 k2]
  ·rw[A7 AW h2 k2]
theorem Bz {F:Mem}:∀{t:Ty} {x:t.den} {u:Value},t.A8=true->dj F t x [u]->∀n,Instr.sameBits n u u=true
 | .int _,_,_,_,h,n=>by
  obtain⟨h,_⟩:=h;simp only[List.cons.injEq,and_true] at h;subst h
  cases n<;>simp[Instr.sameBits]
 | .bool,_,_,_,h,n=>by
  simp only[dj,List.cons.injEq,and_true] at h;subst h
  cases n<;>simp[Instr.sameBits]
 | .str,_,_,_,h,n=>by
  obtain⟨h,_⟩:=h;simp only[List.cons.injEq,and_true] at h;subst h
  have:∀s:ByteArray,(s==s)=true:=fun s=>(MapKept.bytes_beq s s).2 rfl
  cases n<;>simp[Instr.sameBits,this]
theorem Fq {F:Mem}:∀{t:Ty} {x:t.den} {us:List Value},t.uy=true->dj F t x us->∀n,∀u∈us,Instr.sameBits n u u=true
 | .unit,_,_,_,h,n,u,hu=>by rw[show _=_ from h] at hu;cases hu
 | .pair a b,_,_,ht,h,n,u,hu=>by
  simp only[Ty.uy,Bool.and_eq_true,Bool.or_eq_true] at ht
  obtain⟨_,_,rfl,h1,h2⟩:=h
  obtain⟨u1,rfl⟩:=rI ht.1 h1
  rcases List.mem_append.1 hu with hu|hu
  ·rw[List.mem_singleton.1 hu];exact Bz ht.1 h1 n
  ·rcases ht.2 with AW|AW
   ·obtain⟨u2,rfl⟩:=rI AW h2
    rw[List.mem_singleton.1 hu];exact Bz AW h2 n
   ·exact Fq AW h2 n u hu
theorem Hn {u:Value} (h:Instr.sameBits 10000 u u=true):(Instr.keyThatStays u u).run P w= .ok u w:=by
 simp[Instr.keyThatStays,h]
theorem ID {b:Ty} {F:Mem} (f:Value->List MapEntry->Nat->Option (Option (Nat×Value))) {x:b.den} {v:Value} (h0:∀i,f v [] i=some none)
  (h1:∀(y:b.den) (e:MapEntry) (l:List MapEntry) (i:Nat),jK F b y e.key->f v (e::l) i=bif b.jc x y then some (some (i,e.val)) else f v l (i+1)) {β:Type}:
  ∀{m:List (b.den×β)} {l:List MapEntry} (i:Nat),vR F b m l->
   ((aW b m x=none/\f v l i=some none)\/∃e,(aW b m x).isSome=true/\l[jV b m x]? =some e/\f v l i=some (some (i+jV b m x,e.val)))
 |_,_,i,.nil=> .inl ⟨rfl,h0 i⟩
 |y::m,e::l,i,.cons hh ht=>by
  rw[h1 y.1 e l i hh]
  simp only[aW,jV]
  cases b.jc x y.1 with
  |true=>exact .inr ⟨e,rfl,rfl,rfl⟩
  |false=>
   rcases ID f h0 h1 (i+1) ht with ⟨k1,k2⟩|⟨e',k1,k2,k3⟩
   ·exact .inl ⟨k1,k2⟩
   ·refine .inr ⟨e',k1,by simpa using k2,?_⟩
    simp only[cond_false]
    rw[k3]
    simp;omega
theorem RN (hT:dx P X.aA) {kt:Nat} {b:Ty} {u:Unit} (h:(RO X kt b).run S ctx=some u):KeyLaw P kt b:=by
 unfold RO at h
 obtain⟨i,h1,h⟩:=RM.run_bind' h
 obtain⟨hs,_⟩:=dh hT h1
 split at h
 ·rename_i fs hd
  rw[hd] at hs
  obtain⟨gs,hu,rfl⟩:=lV hs
  obtain⟨u',h2,h⟩:=RM.run_bind' h
  have heq:uH P kt=true:=by
   have h1:=b0 h1
   obtain⟨hm,rfl⟩:=uv h1
   rw[qj hT.eqs i hm]
   exact bR h2
  unfold uH at heq
  simp only[Bool.and_eq_true,Bool.not_eq_true',hu] at heq
  obtain⟨_,zF,h⟩:=RM.run_bind' h
  have KM:=bR zF
  have Ni:b.uy=true:=(C1 (P:=P) h fun hi=>(dh hT hi).1).resolve_left fun hs=>by cases b<;>first|exact absurd KM Bool.false_ne_true|exact absurd hs Bool.false_ne_true
  have hval:∀us,b.valOf us= .agg us.toArray:=fun us=>by unfold Ty.valOf;rw[KM]
  have equal:∀(F:Mem) (w:World) (x y:b.den) (v k:Value),jK F b x v->jK F b y k->(Op.equal kt v k).run P w= .ok (b.jc x y) w:=fun F w x y v k hv hk=>by
   obtain⟨us,AU,rfl⟩:=hv
   obtain⟨ws,hws,rfl⟩:=hk
   have:=(xK hT w h (by simpa using heq.2) AU hws (pre:=[]) (pre':=[]) rfl rfl).1 9998
   rw[hval,hval]
   unfold Op.equal
   have R5:P.fieldsOf kt=gs:=by simp[Program.fieldsOf,hu]
   rw[show Op.maxDepth=9999+1 from rfl,run_equalIn_struct w 9999 kt us.toArray ws.toArray (by rw[R5];exact hu) heq.1.2,R5]
   exact this
  refine⟨by simp[Ty.isKey,Ni],fun {F} w em x v hv=> ?_,fun {F} w x u v RW hv=> ?_,fun {F} w β m l x v hv hl=> ?_⟩
  ·obtain⟨us,AU,rfl⟩:=hv
   have:=(xK hT w h (by simpa using heq.2) AU AU (pre:=[]) (pre':=[]) rfl rfl).2 em 9998
   rw[hval,show(10000:Nat)=9999+1 from rfl,Instr.checkKey]
   simp only[Sem.run_bind,run_underlying hu,Result.andThen_ok]
   rw[<-Array.forIn_toList]
   simp only[List.nil_append] at this
   simp at this
   simp[this]
  ·obtain⟨us,AU,rfl⟩:=RW
   obtain⟨ws,hws,rfl⟩:=hv
   rw[A7 Ni AU hws]
   refine Hn ?_
   rw[hval,show(10000:Nat)=9999+1 from rfl,Instr.sameBits]
   simp only[beq_self_eq_true,Bool.true_and,List.all_eq_true]
   intro p hp
   have:∀(l:List Value) (p:Value×Value),p∈l.zip l->p.1=p.2/\p.1∈l:=by
    intro l
    induction l with
    |nil=>intro p hp;cases hp
    |cons z l ih=>
     intro p hp
     simp only[List.zip_cons_cons,List.mem_cons] at hp
     rcases hp with rfl|hp
     ·exact⟨rfl,List.mem_cons_self⟩
     ·exact⟨(ih p hp).1,List.mem_cons_of_mem _ (ih p hp).2⟩
   obtain⟨p1,p2⟩:=p
   obtain⟨e1,e2⟩:=this _ _ hp
   simp only at e1 e2
   subst e1
   exact Fq Ni hws 9999 p1 e2
  ·have ad7:(match P.underlying kt with |some (.array _ _)|some (.struct _)=>true|_=>false)=true:=by rw[hu]
   rw[run_findKey_eq w ad7]
   have key:∀(m:List (b.den×β)) (l:List MapEntry) (i:Nat),vR F b m l->
     ((aW b m x=none/\(Instr.findAsking kt v l i).run P w= .ok none w)\/∃e,(aW b m x).isSome=true/\l[jV b m x]? =some e/\(Instr.findAsking kt v l i).run P w= .ok (some (i+jV b m x,e.val)) w):=by
    intro m
    induction m with
    |nil=>
     intro l i hl
     cases hl
     exact .inl ⟨rfl,by simp[Instr.findAsking]⟩
    |cons y m ih=>
     intro l i hl
     cases hl with
     |cons hh ht=>
      rename_i e l
      have he:=equal F w x y.1 v e.key hv hh
      simp only[aW,jV,Instr.findAsking,Sem.run_bind,he,Result.andThen_ok]
      cases b.jc x y.1 with
      |true=>exact .inr ⟨e,rfl,rfl,by simp⟩
      |false=>
       rcases ih l (i+1) ht with ⟨k1,k2⟩|⟨e',k1,k2,k3⟩
       ·exact .inl ⟨k1,by simpa using k2⟩
       ·refine .inr ⟨e',k1,by simpa using k2,?_⟩
        simp only[cond_false,Bool.false_eq_true,if_false]
        rw[k3]
        simp;omega
   simpa using key m l 0 hl
 ·have h:=bR h
  rw[<-hs] at h
  obtain⟨q1,q2,d,q3,q4⟩:=qE h
  have one:∀{F:Mem} {x:b.den} {v:Value},jK F b x v->dj F b x [v]:=fun {F x v} hv=>by
   obtain⟨us,AU,rfl⟩:=hv
   obtain⟨u,rfl⟩:=rI q1 AU
   rw[Oy q1]
   exact AU
  refine⟨by simp[Ty.isKey,q1],fun {F} w em x v hv=> ?_,fun {F} w x u v RW hv=> ?_,fun {F} w β m l x v hv hl=> ?_⟩
  ·exact MapKept.run_checkKey q3 (q4 F w 0 x x v v (one hv) (one hv)).1 em 9999
  ·have:=xy q1 (one RW) (one hv)
   simp only[List.cons.injEq,and_true] at this
   subst this
   exact Hn (Bz q1 (one RW) _)
  ·rcases ID (b:=b) (F:=F) (x:=x) (v:=v) (fun v l i=>Instr.findNow d v l i) (fun i=>rfl) (fun y e l i he=>by
    have:=(q4 F w 0 x y v e.key (one hv) (one he)).2.1
    simp only[Instr.findNow,this]
    cases b.jc x y<;>rfl) 0 hl with ⟨k1,k2⟩|⟨e,k1,k2,k3⟩
   ·exact .inl ⟨k1,MapKept.run_findKey q3 k2⟩
   ·refine .inr ⟨e,k1,k2,?_⟩
    have:=MapKept.run_findKey (w:=w) q3 k3
    simpa using this
end Go.Vc
end

section
set_option linter.unusedVariables false
set_option linter.unusedSimpArgs false
namespace Go.Vc
open Go
variable {P:Program} {X:Ctx} {w0:World} {foot:gM} {base:Mem} {S:St} {E:Env} {a:Act} {w:World} {ctx:c9}
theorem Ch {t:Ty} {s:SV} {cs:List C} {x:t.den} {fr:ij} {v:Value} (h1:(Jk t s).run S ctx=some cs) (h2:(reify t cs).run S ctx=some (x,fr)) (hv:fz E s v) (hf:ft S.bl E w fr):jK E.F t x v:=by
 unfold Jk at h1
 split at h1
 ·rename_i c
  split at h1
  ·cases h1
  ·rename_i hb
   cases h1
   exact⟨[v],jA h2 ⟨v,[],rfl,hv,rfl⟩ hf,by unfold Ty.valOf;rw[hb];rfl⟩
 ·split at h1
  ·rename_i hb
   cases h1
   obtain⟨vs,e,k⟩:=hv
   exact⟨vs.toList,jA h2 k hf,by unfold Ty.valOf;rw[hb,e]⟩
  ·cases h1
 ·cases h1
theorem jK.mono {F F':Mem} (h:F.le F') {t:Ty} {x:t.den} {v:Value} (k:jK F t x v):jK F' t x v:=let⟨us,h1,h2⟩:=k;⟨us,h1.mono h,h2⟩
theorem KR {t:Ty} (h:t.isAgg=false) (x:t.den):∃c,flat t x=[c]:=by
 have hl:=tz t x
 have h1:t.size=1:=by cases t<;>first|rfl|cases h
 rw[h1] at hl
 exact List.length_eq_one_iff.1 hl
theorem jK.part {t:Ty} {x:t.den} {v:Value} (k:jK E.F t x v):(match t.isAgg with |true=>∃ws,v= .agg ws/\b7 E (flat t x) ws.toList|false=>∃c,flat t x=[c]/\gV E c v):=by
 obtain⟨us,h1,rfl⟩:=k
 have h2:=gN h1
 unfold Ty.valOf
 cases hb:t.isAgg with
 |true=>exact⟨_,rfl,h2⟩
 |false=>
  obtain⟨c,hc⟩:=KR hb x
  rw[hc] at h2
  obtain⟨u,rfl,h3⟩:=jB h2
  exact⟨c,hc,h3⟩
theorem jK.sv {t:Ty} {x:t.den} {v:Value} (k:jK E.F t x v):fz E (Hc t x) v:=by
 have:=k.part
 unfold Hc
 cases hb:t.isAgg with
 |true=>rw[hb] at this;exact this
 |false=>
  rw[hb] at this
  obtain⟨c,hc,h⟩:=this
  rw[hc]
  exact h
theorem vD (hT:dx P X.aA) (h:SRel w0 foot base S E a w) (hc:br a ctx) {kt:Nat} {b:Ty} {x:Operand} {k:b.den} (hr:(C0 X kt b x).run S ctx=some k):KeyLaw P kt b/\jK E.F b k (a.eval x):=by
 unfold C0 at hr
 obtain⟨_,h1,hr⟩:=RM.run_bind' hr
 obtain⟨s,h2,hr⟩:=RM.run_bind' hr
 obtain⟨cs,h3,hr⟩:=RM.run_bind' hr
 obtain⟨⟨y,fr⟩,h4,hr⟩:=RM.run_bind' hr
 obtain⟨_,h5,hr⟩:=RM.run_bind' hr
 cases RM.run_pure' hr
 have h5:=List.isEmpty_iff.1 (bR h5)
 simp only at h5
 subst h5
 exact⟨RN hT h1,Ch (w:=w) h3 h4 (gi h hc h2) .nil⟩
theorem Ct (hT:dx P X.aA) {et:Nat} {b:Ty} {z:b.den} (hr:(G2 X et b).run S ctx=some z):∃v,(∀w,(zeroValue et).run P w= .ok v w)/\∀F,jK F b z v:=by
 unfold G2 at hr
 obtain⟨l,h1,hr⟩:=RM.run_bind' hr
 obtain⟨_,h2,hr⟩:=RM.run_bind' hr
 obtain⟨i,hi,e1,e2,e3,e4,e5,e6,h3⟩:=qx hT h1 hr
 have h2:=bR h2
 simp only[beq_iff_eq] at h2
 refine⟨l.zero,fun w=>kj hi e3,fun F=>⟨_,h3 F,?_⟩⟩
 unfold Ty.valOf
 rw[<-h2]
 cases hz:l.zero with
 |agg cs=>rfl
 |tuple vs=>rw[hz] at h3 h2;exact absurd (h3 default) (fun jJ=>by
   have kz:b.isAgg=false:=by rw[<-h2];rfl
   obtain⟨c,hc⟩:=KR kz z
   have:=gN (E:=⟨default,fun _=>none⟩) jJ
   rw[hc] at this
   obtain⟨u,hu,hk⟩:=jB this
   have:=hk.oK
   simp[Value.cells] at hu
   subst hu
   simp[Value.oneCell'] at this)
 |_=>rfl
theorem hY.xJ {F:Mem} {b c:Ty} {m:List (b.den×c.den)} {es:Array MapEntry} {cl:Nat} (h:hY F b c m es cl):vR F b m es.toList:=by
 have key:∀(m:List (b.den×c.den)) (l:List MapEntry),l.length=m.length->(∀(i:Nat) x,m[i]? =some x->∃e,l[i]? =some e/\jK F b x.1 e.key)->vR F b m l:=by
  intro m
  induction m with
  |nil=>intro l hl _;rw[List.eq_nil_of_length_eq_zero hl];exact .nil
  |cons x m ih=>
   intro l hl mZ
   cases l with
   |nil=>cases hl
   |cons e l=>
    obtain⟨e',he,hk⟩:=mZ 0 x rfl
    cases he
    exact .cons hk (ih l (by simpa using hl) fun i y hy=>mZ (i+1) y (by simpa using hy))
 refine key m es.toList (by simpa using h.size) fun i x hx=> ?_
 obtain⟨e,us,ws,q1,q2,q3,q4,q5⟩:=h.at_ i x hx
 exact⟨e,by simpa using q1,us,q2,q3⟩
theorem hY.val {F:Mem} {b c:Ty} {m:List (b.den×c.den)} {es:Array MapEntry} {cl:Nat} (h:hY F b c m es cl) {i:Nat} {x:b.den×c.den} {e:MapEntry} (hx:m[i]? =some x) (he:es[i]? =some e):
  jK F b x.1 e.key/\jK F c x.2 e.val:=by
 obtain⟨e',us,ws,q1,q2,q3,q4,q5⟩:=h.at_ i x hx
 rw[he] at q1
 cases q1
 exact⟨⟨us,q2,q3⟩,ws,q4,q5⟩
theorem hY.push {F:Mem} {b c:Ty} {m:List (b.den×c.den)} {es:Array MapEntry} {cl:Nat} (h:hY F b c m es cl) {k:b.den} {y:c.den} {u v:Value} (hk:∀x∈m,x.1≠k) (hu:jK F b k u) (hv:jK F c y v):
  hY F b c (m++[(k,y)]) (es.push ⟨u,v,cl⟩) (cl+1):=by
 obtain⟨us,XK,hu2⟩:=hu
 obtain⟨ws,rp,Ng⟩:=hv
 refine⟨⟨?_,fun e he=> ?_⟩,?_,by simp[h.size],fun i x hx=> ?_⟩
 ·rw[Array.toList_push]
  refine List.pairwise_append.2 ⟨h.stamps.1,by simp,fun x hx y hy=> ?_⟩
  rw[List.mem_singleton.1 hy]
  exact h.stamps.2 x hx
 ·simp only[Array.toList_push,List.mem_append,List.mem_singleton] at he
  rcases he with he|rfl
  ·exact Nat.lt_succ_of_lt (h.stamps.2 e he)
  ·exact Nat.lt_succ_self _
 ·rw[List.map_append,List.nodup_append]
  refine⟨h.keys,by simp,fun x hx y hy=> ?_⟩
  obtain⟨z,hz,rfl⟩:=List.mem_map.1 hx
  simp only[List.map_cons,List.map_nil,List.mem_singleton] at hy
  subst hy
  exact hk z hz
 ·rcases Nat.lt_or_ge i m.length with hi|hi
  ·rw[List.getElem?_append_left hi] at hx
   obtain⟨e,Gn,QJ,q1,q2⟩:=h.at_ i x hx
   refine⟨e,Gn,QJ,?_,q2⟩
   have:=h.size
   rw[Array.getElem?_push_lt (by omega)]
   rw[Array.getElem?_eq_getElem (by omega)] at q1
   exact q1
  ·have dQ:=(List.getElem?_eq_some_iff.1 hx).1
   have:i=m.length:=by simp at dQ;omega
   subst this
   have hx:(k,y)=x:=by simpa using hx
   subst hx
   exact⟨⟨u,v,cl⟩,us,ws,by rw[<-h.size];simp,XK,hu2,rp,Ng⟩
theorem hY.Wx {F:Mem} {b c:Ty} {m:List (b.den×c.den)} {es:Array MapEntry} {cl:Nat} (h:hY F b c m es cl) {i:Nat} {k:b.den} {y0 y:c.den} {e:MapEntry} (hm:m[i]? =some (k,y0)) (he:es[i]? =some e) (f:MapEntry->MapEntry)
  (hf:∀e,(f e).born=e.born) (hk:jK F b k (f e).key) (hv:jK F c y (f e).val):hY F b c (m.set i (k,y)) (es.modify i f) cl:=by
 have hi:i<es.size:=(Array.getElem?_eq_some_iff.1 he).1
 have EG:(es.modify i f).toList.map (·.born)=es.toList.map (·.born):=by
  apply List.ext_getElem?
  intro j
  simp only[List.getElem?_map,Array.getElem?_toList,Array.getElem?_modify]
  split
  ·cases es[j]? <;>simp[hf]
  ·rfl
 refine⟨⟨?_,fun x hx=> ?_⟩,?_,by simp[h.size],fun j x hx=> ?_⟩
 ·have h1:=h.stamps.1
  rw[<-List.pairwise_map (f:=fun e:MapEntry=>e.born) (R:=fun a b=>a<b)] at h1 ⊢
  rw[EG]
  exact h1
 ·have:x.born∈(es.modify i f).toList.map (·.born):=List.mem_map_of_mem hx
  rw[EG] at this
  obtain⟨z,hz,e1⟩:=List.mem_map.1 this
  rw[<-e1]
  exact h.stamps.2 z hz
 ·have:(m.set i (k,y)).map Prod.fst=m.map Prod.fst:=by
   apply List.ext_getElem?
   intro j
   simp only[List.getElem?_map,List.getElem?_set]
   split
   ·rename_i k6
    subst k6
    rw[hm]
    split<;>simp_all
   ·rfl
  rw[this]
  exact h.keys
 ·by_cases k6:i=j
  ·subst k6
   have dQ:i<m.length:=(List.getElem?_eq_some_iff.1 hm).1
   rw[List.getElem?_set_self dQ] at hx
   cases hx
   obtain⟨us,XK,hu2⟩:=hk
   obtain⟨ws,rp,Ng⟩:=hv
   exact⟨f e,us,ws,by rw[Array.getElem?_modify,if_pos rfl,he];rfl,XK,hu2,rp,Ng⟩
  ·rw[List.getElem?_set_ne k6] at hx
   obtain⟨e',Gn,QJ,q1,q2⟩:=h.at_ j x hx
   exact⟨e',Gn,QJ,by rw[Array.getElem?_modify,if_neg k6,q1],q2⟩
theorem hY.erase {F:Mem} {b c:Ty} {m:List (b.den×c.den)} {es:Array MapEntry} {cl:Nat} (h:hY F b c m es cl) {i:Nat} (hi:i<m.length):hY F b c (m.eraseIdx i) (es.eraseIdxIfInBounds i) cl:=by
 have hs:i<es.size:=by rw[h.size];exact hi
 have e:(es.eraseIdxIfInBounds i).toList=es.toList.eraseIdx i:=by
  unfold Array.eraseIdxIfInBounds
  rw[dif_pos hs,Array.toList_eraseIdx]
 have abE:(es.eraseIdxIfInBounds i).toList.Sublist es.toList:=by rw[e];exact List.eraseIdx_sublist _ _
 refine⟨⟨h.stamps.1.sublist abE,fun x hx=>h.stamps.2 x (abE.subset hx)⟩,((List.eraseIdx_sublist _ _).map _).nodup h.keys,?_,fun j x hx=> ?_⟩
 ·have:=congrArg List.length e
  simp only[Array.length_toList] at this
  rw[this,List.length_eraseIdx,List.length_eraseIdx]
  simp[h.size]
 ·rw[List.getElem?_eraseIdx] at hx
  have wU:∀j,(es.eraseIdxIfInBounds i)[j]? =(es.toList.eraseIdx i)[j]? :=fun j=>by rw[<-e,Array.getElem?_toList]
  split at hx
  ·rename_i hj
   obtain⟨e',Gn,QJ,q1,q2⟩:=h.at_ _ x hx
   exact⟨e',Gn,QJ,by rw[wU,List.getElem?_eraseIdx,if_pos hj];simpa using q1,q2⟩
  ·rename_i hj
   obtain⟨e',Gn,QJ,q1,q2⟩:=h.at_ _ x hx
   exact⟨e',Gn,QJ,by rw[wU,List.getElem?_eraseIdx,if_neg hj];simpa using q1,q2⟩
theorem HRel.Q4 {bl:List (Nat×c7)} {used:List Nat} (h:HRel w0 foot base bl used E w) {id:Nat} {p:Place} (uU:id∉used) (hp:p.nil=true):E.le (E.new id p)/\HRel w0 foot base bl (id::used) (E.new id p) w:=by
 have jY:E.place id=none:=by
  cases he:E.place id with
  |none=>rfl
  |some q=>exact absurd (h.used id q he) uU
 have hle:=Env.nH (p:=p) jY
 have lk:∀i q,(E.new id p).place i=some q->q.nil=false->E.place i=some q:=fun i q hq hn=>by
  by_cases e:i=id
  ·subst e;rw[Env.fb] at hq;cases hq;rw[hp] at hn;cases hn
  ·rwa [Env.gm e] at hq
 refine⟨hle,h.keep,h.m7,h.src,fun i B hf=> ?_,fun i B q hf hq hn=> ?_,fun i j B B' q q' hf eh hq nr hn dB k6=> ?_,fun i q hq=> ?_⟩
 ·obtain⟨q,hq,k⟩:=h.cn i B hf
  exact⟨q,hle.place _ _ hq,k.mono hle⟩
 ·exact h.own i B q hf (lk i q hq hn) hn
 ·exact h.inj i j B B' q q' hf eh (lk i q hq hn) (lk j q' nr dB) hn dB k6
 ·by_cases hi:i=id
  ·exact hi▸List.mem_cons_self
  ·rw[Env.gm hi] at hq
   exact List.mem_cons_of_mem _ (h.used i q hq)
theorem qQ (hT:dx P X.aA) {t:Nat} {ke:Nat×Nat} (h:(qR X t).run S ctx=some ke):P.underlying t=some (.map ke.1 ke.2):=by
 unfold qR at h
 obtain⟨i,h1,h⟩:=RM.run_bind' h
 obtain⟨hs,_⟩:=dh hT h1
 split at h
 ·rename_i k e hd
  cases h
  exact Kb (hs.trans hd)
 ·cases h
theorem Pd (hT:dx P X.aA) (h:SRel w0 foot base S E a w) {o:Oper} {t d:Nat} (ho:o.op= .makeMap t none) {r:b9}
  (hr:(do
   let ke <-qR X t
   let j <-ti X ke.1
   let l <-ti X ke.2
   let a <-RM.ofOption j.ty
   let b <-RM.ofOption l.ty
   .ret {val:=some (.one (.map a b d)),cn:=[(d,.map false a b [] none)],new:=[d]}:RM b9).run S ctx=some r) (hn:∀i∈r.new,i∉S.used):bZ P w0 foot base S E a w o r:=by
 obtain⟨ke,h1,hr⟩:=RM.run_bind' hr
 obtain⟨j,h2,hr⟩:=RM.run_bind' hr
 obtain⟨l,h3,hr⟩:=RM.run_bind' hr
 obtain⟨b,h4,hr⟩:=RM.run_bind' hr
 obtain⟨c,h5,hr⟩:=RM.run_bind' hr
 cases hr
 have hd:d∉S.used:=hn d (by simp)
 have jY:E.place d=none:=by
  cases he:E.place d with
  |none=>rfl
  |some q=>exact absurd (h.used d q he) hd
 have hle:=Env.nH (p:=⟨false,w.heap.size,0,0⟩) jY
 refine bZ.value (v:= .map (some w.heap.size)) (w':=w.alloc (.map #[] 0)) (E':=E.new d ⟨false,w.heap.size,0,0⟩) ?_ ⟨hle,h.toHRel.alloc hd (fun _=>rfl) ⟨rfl, #[],0,qu,(fun h=>by cases h),[],.refl _,⟨⟨.nil,fun e he=>by cases he⟩,.nil,rfl,fun i x hx=>by simp at hx⟩,.none⟩,⟨_,Env.fb,rfl,rfl⟩⟩
 have:=run_makeMap_plain (P:=P) (w:=w) t
 simp only[execOp,ho,Option.map_none]
 rw[Sem.run_bind,this]
 rfl
theorem Ev (hT:dx P X.aA) (h:SRel w0 foot base S E a w) (hc:br a ctx) {o:Oper} {t kt et:Nat} {x ix:Operand} {ok:Bool} (ho:o.op= .lookup t x ix ok) (hu:P.underlying t=some (.map kt et)) {r:b9} {b c:Ty} {m:List (b.den×c.den)}
  (hr:(MS X kt et ok ix b c m).run S ctx=some r)
  (hm:(a.eval x= .map none/\m=[])\/∃n es cl m0,a.eval x= .map (some n)/\w.heap[n]? =some (.map es cl)/\m0.Perm m/\hY E.F b c m0 es cl):bZ P w0 foot base S E a w o r:=by
 unfold MS at hr
 obtain⟨k,h1,hr⟩:=RM.run_bind' hr
 obtain⟨z,h2,hr⟩:=RM.run_bind' hr
 obtain⟨hK,hk⟩:=vD hT h hc h1
 obtain⟨zv,hz,XD⟩:=Ct hT h2
 have found:∃v,jK E.F c ((aW b m k).getD z) v/\(Instr.lookup t (a.eval x) (a.eval ix) ok).run P w= .ok (if ok then .tuple #[v,.bool (aW b m k).isSome] else v) w:=by
  rcases hm with ⟨hx,rfl⟩|⟨n,es,cl,m0,hx,jd,Gt,hM⟩
  ·refine⟨zv,XD _,?_⟩
   rcases hK.find (m:=([]:List (b.den×c.den))) (l:=[]) w hk .nil with ⟨_,k2⟩|⟨e,k1,_⟩
   ·simp[Instr.lookup,hx,run_underlying hu,hK.check w _ hk,k2,hz,aW]
   ·simp[aW] at k1
  ·rw[<-uI hK.key hM.keys Gt k]
   rcases hK.find w hk hM.xJ with ⟨k1,k2⟩|⟨e,k1,k2,k3⟩
   ·refine⟨zv,by rw[k1];exact XD _,?_⟩
    simp[Instr.lookup,hx,run_underlying hu,MapKept.run_getObj_map jd,hK.check w _ hk,k2,hz,k1]
   ·rcases uJ hK.key m0 k with ⟨m1,_⟩|⟨v0,m1,m2,_⟩
    ·rw[m1] at k1;cases k1
    ·refine⟨e.val,by rw[m1];exact(hM.val m2 (by simpa using k2)).2,?_⟩
     simp[Instr.lookup,hx,run_underlying hu,MapKept.run_getObj_map jd,hK.check w _ hk,k3,m1]
 obtain⟨v,hv,dE⟩:=found
 have hex:(execOp a.eval o).run P w= .ok (.value (if ok then .tuple #[v,.bool (aW b m k).isSome] else v)) w:=by
  simp only[execOp,ho]
  rw[Sem.run_bind,dE]
  rfl
 cases ok with
 |true=>
  cases hr
  refine bZ.value hex (iF.pure h.toHRel ⟨_,rfl,?_⟩)
  exact⟨v,[_],rfl,hv.part,_,[],rfl,⟨_,rfl,rfl,rfl⟩,rfl⟩
 |false=>
  cases hr
  exact bZ.value hex (iF.pure h.toHRel hv.sv)
theorem RF (hT:dx P X.aA) (h:SRel w0 foot base S E a w) (hc:br a ctx) {o:Oper} {t:Nat} {x ix:Operand} {ok:Bool} (ho:o.op= .lookup t x ix ok) {r:b9}
  (hr:(do
   let ke <-qR X t
   HT X ke.1 ke.2 ok ix (<-lM x):RM b9).run S ctx=some r):bZ P w0 foot base S E a w o r:=by
 obtain⟨ke,h1,hr⟩:=RM.run_bind' hr
 obtain⟨c,h2,hr⟩:=RM.run_bind' hr
 have hu:=qQ hT h1
 have hv:=gu h hc h2
 unfold HT at hr
 split at hr
 ·simp only[RM.run] at hr
  split at hr
  ·rename_i B hf
   split at hr
   ·rename_i je b c m cur
    obtain⟨p,hp,hn,hv⟩:=hv
    obtain⟨p',dn,_,es,cl,k1,k2,m0,k4,k3,_⟩:=h.cn _ _ hf
    rw[hp] at dn;cases dn
    exact Ev hT h hc ho hu hr (.inr ⟨_,es,cl,m0,hv,k1,k4,k3⟩)
   ·cases hr
  ·cases hr
 ·rename_i b c m
  obtain⟨_,oo,h3,h4,h5⟩:=hv
  simp only[List.cons.injEq,and_true] at h3
  cases oo with
  |none=>exact Ev hT h hc ho hu hr (.inl ⟨h3,h4 rfl⟩)
  |some n=>
   obtain⟨m0,es,cl,q0,q1,q2,q3,q4,q5⟩:=h5 n rfl
   exact Ev hT h hc ho hu hr (.inr ⟨n,es,cl,m0,h3,h.m7 _ _ q1,q0,q2,q3,q4,q5⟩)
 ·cases hr
theorem tl (h:SRel w0 foot base S E a w) {f:(n:Nat)->(a b:Ty)->List (a.den×b.den)->Option (Nat×Nat)->RM b9} {c:C} {r:b9} {v:Value} (hr:(sf f c).run S ctx=some r) (hv:gV E c v):
  ∃n b c m cur p es cl,(f n b c m cur).run S ctx=some r/\find S.bl n=some (.map false b c m cur)/\E.place n=some p/\p.nil=false/\v= .map (some p.bp)/\w.heap[p.bp]? =some (.map es cl)/\qc E b c m es cl cur:=by
 unfold sf at hr
 split at hr
 ·simp only[RM.run] at hr
  split at hr
  ·rename_i B hf
   split at hr
   ·rename_i b c m cur
    obtain⟨p,hp,hn,hv⟩:=hv
    obtain⟨p',dn,_,es,cl,k1,k2,k3⟩:=h.cn _ _ hf
    rw[hp] at dn;cases dn
    exact⟨_,b,c,m,cur,p,es,cl,hr,hf,hp,hn,hv,k1,k3⟩
   ·cases hr
  ·cases hr
 ·cases hr
theorem Fe (h:SRel w0 foot base S E a w) (hc:br a ctx) {b:Ty} {n:Nat} {x:Operand} {y:b.den×ij} (hr:(J1 b n x).run S ctx=some y):
  ∃E',E.le E'/\E'.place=E.place/\HRel w0 foot base (cE y.2 S.bl) S.used E' w/\(∀B,find S.bl n=some B->find (cE y.2 S.bl) n=some B)/\jK E'.F b y.1 (a.eval x):=by
 unfold J1 at hr
 obtain⟨s,h2,hr⟩:=RM.run_bind' hr
 obtain⟨cs,h3,hr⟩:=RM.run_bind' hr
 obtain⟨⟨y',fr⟩,h4,hr⟩:=RM.run_bind' hr
 obtain⟨_,h5,hr⟩:=RM.run_bind' hr
 cases RM.run_pure' hr
 have ho:=gD h4
 obtain⟨E1,l1,q1,f1,nY⟩:=h.toHRel.cE ho
 exact⟨E1,l1,q1,nY,fun B hB=>by rw[iv (BN (bR h5))];exact hB,Ch h3 h4 ((gi h hc h2).mono l1) (ft.qi ho nY)⟩
theorem JF (hT:dx P X.aA) (h:SRel w0 foot base S E a w) (hc:br a ctx) {o:Oper} {t:Nat} {x k v:Operand} (ho:o.op= .mapUpdate t x k v) {r:b9}
  (hr:(do
   let ke <-qR X t
   sf (fun n a b xs _=>do
    let x <-C0 X ke.1 a k
    let y <-J1 b n v
    .ret {cn:=y.2++[(n,.map false a b (df a xs x y.1) none)]}) (<-lM x):RM b9).run S ctx=some r):bZ P w0 foot base S E a w o r:=by
 obtain⟨ke,h1,hr⟩:=RM.run_bind' hr
 obtain⟨c,h2,hr⟩:=RM.run_bind' hr
 have hu:=qQ hT h1
 obtain⟨n,b,c,m,cur,p,es,cl,hr,hf,hp,hn,hv,jd,m0,Gt,hM,_⟩:=tl h hr (gu h hc h2)
 obtain⟨kk,h3,hr⟩:=RM.run_bind' hr
 obtain⟨y,h4,hr⟩:=RM.run_bind' hr
 cases hr
 obtain⟨hK,hk⟩:=vD hT h hc h3
 obtain⟨E1,l1,q1,hH,uV,hy⟩:=Fe h hc h4
 have hM1:=hM.mono l1.F
 have R3:=hk.mono l1.F
 have fin:∀wg zZ,(Instr.mapUpdate t (a.eval x) (a.eval k) (a.eval v)).run P w= .ok () (eu w p.bp (.map wg zZ))->hY E1.F b c (df b m0 kk y.1) wg zZ->
   bZ P w0 foot base S E a w o {cn:=y.2++[(n,.map false b c (df b m kk y.1) none)]}:=fun wg zZ dE Sc=>by
  have hw:=hH.write (B':= .map false b c (df b m kk y.1) none) (uV _ hf) (q1▸hp) hn rfl ⟨hn,wg,zZ,iK (dR jd),(fun h=>by cases h),_,HN hK.key hM.keys Gt _ _,Sc,.none⟩
  refine bZ.skip (w':=eu w p.bp (.map wg zZ)) (E':=E1) ?_ ⟨l1,by rw[tE];exact hw,trivial⟩
  simp only[execOp,ho]
  rw[Sem.run_bind,dE]
  rfl
 rcases uJ hK.key m0 kk with ⟨m1,m2,m3,m4,m5⟩|⟨v0,m1,m2,m3,m4,m5⟩
 ·rcases hK.find w hk hM.xJ with ⟨k1,k2⟩|⟨e,k1,k2,k3⟩
  ·refine fin (es.push ⟨a.eval k,a.eval v,cl⟩) (cl+1) ?_ (by rw[m2];exact hM1.push m5 R3 hy)
   simp[Instr.mapUpdate,hv,run_underlying hu,MapKept.run_getObj_map jd,hK.check w _ hk,k2,MapKept.run_setObj_map _ jd,eu]
  ·rw[m1] at k1;cases k1
 ·rcases hK.find w hk hM.xJ with ⟨k1,k2⟩|⟨e,k1,k2,k3⟩
  ·rw[m1] at k1;cases k1
  ·have he:es[jV b m0 kk]? =some e:=by simpa using k2
   have hs:=hK.stays w (hM.val m2 he).1 hk
   refine fin (es.modify (jV b m0 kk) fun e=>{e with key:=a.eval k,val:=a.eval v}) cl ?_ (by rw[m3];exact hM1.Wx m2 he _ (fun _=>rfl) R3 hy)
   simp[Instr.mapUpdate,hv,run_underlying hu,MapKept.run_getObj_map jd,hK.check w _ hk,k3,he,hs,MapKept.run_setObj_map _ jd,eu]
theorem MQ (hT:dx P X.aA) (h:SRel w0 foot base S E a w) (hc:br a ctx) {o:Oper} {t d:Nat} {x k:Operand} (ho:o.op= .mapEntry t x k) {r:b9}
  (hr:(do
   let ke <-qR X t
   sf (fun n a b xs _=>do
    let x <-C0 X ke.1 a k
    let z <-G2 X ke.2 b
    .ret {val:=some (.yv [(b.isAgg,flat b ((aW a xs x).getD z)),(false,[.xo d])]),cn:=[(n,.map false a b (rA a xs x z) (some (d,jV a xs x)))],new:=[d]}) (<-lM x):RM b9).run S ctx=some r)
  (qn:∀i∈r.new,i∉S.used):bZ P w0 foot base S E a w o r:=by
 obtain⟨ke,h1,hr⟩:=RM.run_bind' hr
 obtain⟨c,h2,hr⟩:=RM.run_bind' hr
 have hu:=qQ hT h1
 obtain⟨n,b,c,m,cur,p,es,cl,hr,hf,hp,hn,hv,jd,m0,Gt,hM,_⟩:=tl h hr (gu h hc h2)
 obtain⟨kk,h3,hr⟩:=RM.run_bind' hr
 obtain⟨z,h4,hr⟩:=RM.run_bind' hr
 cases hr
 obtain⟨hK,hk⟩:=vD hT h hc h3
 obtain⟨zv,hz,XD⟩:=Ct hT h4
 have hd:d∉S.used:=qn d (by simp)
 have fin:∀wg zZ u (st:Nat) e',(Instr.mapEntry t (a.eval x) (a.eval k)).run P w= .ok (.tuple #[u,goInt st]) (eu w p.bp (.map wg zZ))->hY E.F b c (rA b m0 kk z) wg zZ->wg[jV b m0 kk]? =some e'->e'.born=st->
   jK E.F c ((aW b m0 kk).getD z) u->
   bZ P w0 foot base S E a w o {val:=some (.yv [(c.isAgg,flat c ((aW b m kk).getD z)),(false,[.xo d])]),cn:=[(n,.map false b c (rA b m kk z) (some (d,jV b m kk)))],new:=[d]}:=fun wg zZ u st e' dE Sc Vm EG RW=>by
  rw[uI hK.key hM.keys Gt kk] at RW
  obtain⟨hle,hH⟩:=h.toHRel.Q4 (p:=⟨true,0,st,0⟩) hd rfl
  have hw:=hH.write (B':= .map false b c (rA b m kk z) (some (d,jV b m kk))) hf (hle.place _ _ hp) hn rfl ⟨hn,wg,zZ,iK (dR jd),(fun h=>by cases h),_,RC hK.key hM.keys Gt _ _,Sc.mono hle.F,fun d' i hc=>by
   cases hc
   exact⟨_,e',_,Env.fb,rfl,Vm,EG,by rw[Pb hK.key,Pb hK.key]⟩⟩
  refine bZ.value (v:= .tuple #[u,goInt st]) (w':=eu w p.bp (.map wg zZ)) (E':=E.new d ⟨true,0,st,0⟩) ?_ ⟨hle,hw,_,rfl,?_⟩
  ·simp only[execOp,ho]
   rw[Sem.run_bind,dE]
   rfl
  ·exact⟨u,[_],rfl,(RW.mono hle.F).part,_,[],rfl,⟨_,rfl,_,Env.fb,rfl,rfl⟩,rfl⟩
 rcases uJ hK.key m0 kk with ⟨m1,m2,m3,m4,m5⟩|⟨v0,m1,m2,m3,m4,m5⟩
 ·rcases hK.find w hk hM.xJ with ⟨k1,k2⟩|⟨e,k1,k2,k3⟩
  ·refine fin (es.push ⟨a.eval k,zv,cl⟩) (cl+1) zv cl ⟨a.eval k,zv,cl⟩ ?_ ?_ (by rw[m4,<-hM.size];simp) rfl (by rw[m1];exact XD _)
   ·simp[Instr.mapEntry,hv,run_underlying hu,MapKept.run_getObj_map jd,hK.check w _ hk,k2,hz,MapKept.run_setObj_map _ jd,eu]
   ·unfold rA;rw[m1,m2];exact hM.push m5 hk (XD _)
  ·rw[m1] at k1;cases k1
 ·rcases hK.find w hk hM.xJ with ⟨k1,k2⟩|⟨e,k1,k2,k3⟩
  ·rw[m1] at k1;cases k1
  ·have he:es[jV b m0 kk]? =some e:=by simpa using k2
   obtain⟨g1,g2⟩:=hM.val m2 he
   have hs:=hK.stays w g1 hk
   refine fin (es.modify (jV b m0 kk) fun e=>{e with key:=a.eval k}) cl e.val e.born {e with key:=a.eval k} ?_ ?_ (by rw[Array.getElem?_modify,if_pos rfl,he];rfl) rfl (by rw[m1];exact g2)
   ·simp[Instr.mapEntry,hv,run_underlying hu,MapKept.run_getObj_map jd,hK.check w _ hk,k3,he,hs,MapKept.run_setObj_map _ jd,eu]
   ·unfold rA;rw[m1,m3];exact hM.Wx m2 he _ (fun _=>rfl) hk g2
theorem IE {es:Array MapEntry} {cl:Nat} (h:AN es cl) {i:Nat} {e:MapEntry} (he:es[i]? =some e):es.findIdx? (fun x=>(x.born:Int)==(e.born:Int))=some i:=by
 obtain⟨dQ,hi⟩:=Array.getElem?_eq_some_iff.1 he
 rw[Array.findIdx?_eq_some_iff_getElem]
 refine⟨dQ,by rw[hi];simp,fun j hj=> ?_⟩
 have hp:=h.1
 rw[List.pairwise_iff_getElem] at hp
 have:=hp j i (by simpa using Nat.lt_trans hj dQ) (by simpa using dQ) hj
 simp only[Array.getElem_toList] at this
 rw[hi] at this
 simp only[beq_iff_eq,Bool.not_eq_true]
 intro hc
 omega
theorem RA {α β:Type} {m0 m:List (α×β)} (hn:(m0.map Prod.fst).Nodup) (hp:m0.Perm m) {i j:Nat} {k:α} (hj:(m0[j]?).map Prod.fst=some k) (hi:(m[i]?).map Prod.fst=some k) (v:β):(th m0 j v).Perm (th m i v):=by
 classical
 have key:∀{l:List (α×β)} {i:Nat},(l.map Prod.fst).Nodup->(l[i]?).map Prod.fst=some k->th l i v=l.map fun x=>if x.1=k then(x.1,v) else x:=fun {l i} hn hi=>by
  obtain⟨x,hx,hxk⟩:=Option.map_eq_some_iff.1 hi
  have dQ:=(List.getElem?_eq_some_iff.1 hx).1
  unfold th
  apply List.ext_getElem?
  intro n
  rw[List.getElem?_modify,List.getElem?_map]
  by_cases nJ:i=n
  ·subst nJ
   simp only[hx]
   simp[hxk]
  ·simp only[nJ,if_false]
   cases hy:l[n]? with
   |none=>rfl
   |some y=>
    have:y.1≠k:=fun e=>nJ<|by
     have e1:(l.map Prod.fst)[i]? =some k:=by rw[List.getElem?_map,hx];exact congrArg some hxk
     have e2:(l.map Prod.fst)[n]? =some k:=by rw[List.getElem?_map,hy];exact congrArg some e
     exact(List.getElem?_inj (by simpa using dQ) hn).1 (e1.trans e2.symm)
    simp[this]
 rw[key hn hj,key ((hp.map _).nodup_iff.1 hn) hi]
 exact hp.map _
theorem IJ (hT:dx P X.aA) (h:SRel w0 foot base S E a w) (hc:br a ctx) {o:Oper} {t:Nat} {x s v:Operand} (ho:o.op= .entryStore t x s v) {r:b9}
  (hr:(do
   let st <-Jl (<-lM s)
   sf (fun n a b xs cur=>match cur with
    |some (d',i)=>(do
     cS (Nat.beq st d')
     let y <-J1 b n v
     .ret {cn:=y.2++[(n,.map false a b (th xs i y.1) none)]})
    |none=> .fail) (<-lM x):RM b9).run S ctx=some r):bZ P w0 foot base S E a w o r:=by
 obtain⟨cst,h1,hr⟩:=RM.run_bind' hr
 obtain⟨st,h2,hr⟩:=RM.run_bind' hr
 obtain⟨c,h3,hr⟩:=RM.run_bind' hr
 have jD:=gu h hc h1
 have jD:gV E (.xo st) (a.eval s):=by
  unfold Jl at h2
  split at h2
  ·cases h2;exact jD
  ·cases h2
 obtain⟨n,b,c,m,cur,p,es,cl,hr,hf,hp,hn,hv,jd,m0,Gt,hM,Yc⟩:=tl h hr (gu h hc h3)
 split at hr
 ·rename_i d' i
  obtain⟨_,h5,hr⟩:=RM.run_bind' hr
  obtain⟨y,h4,hr⟩:=RM.run_bind' hr
  cases hr
  have e:=Nat.eq_of_beq_eq_true (bR h5)
  subst e
  obtain⟨q,e,j,hq,_,he,EG,aiK⟩:=Yc _ _ rfl
  obtain⟨q',nr,_,Py⟩:=jD
  rw[hq] at nr
  cases nr
  obtain⟨E1,l1,q1,hH,uV,hy⟩:=Fe h hc h4
  have dQ:j<m0.length:=by rw[<-hM.size];exact(Array.getElem?_eq_some_iff.1 he).1
  have hmi:m0[j]? =some (m0[j].1,m0[j].2):=List.getElem?_eq_getElem dQ
  have zw:th m0 j y.1=m0.set j (m0[j].1,y.1):=by
   unfold th
   apply List.ext_getElem?
   intro n'
   rw[List.getElem?_modify]
   by_cases hj:j=n'
   ·subst hj;simp[dQ]
   ·simp only[hj,if_false]
    rw[List.getElem?_set_ne hj]
    cases m0[n']? <;>rfl
  have Sc:hY E1.F b c (th m0 j y.1) (es.modify j fun e=>{e with val:=a.eval v}) cl:=by
   rw[zw]
   exact(hM.mono l1.F).Wx hmi he _ (fun _=>rfl) ((hM.mono l1.F).val hmi he).1 hy
  have R4:(m0[j]?).map Prod.fst=some m0[j].1:=by rw[hmi];rfl
  have hw:=hH.write (B':= .map false b c (th m i y.1) none) (uV _ hf) (q1▸hp) hn rfl ⟨hn,_,cl,iK (dR jd),(fun h=>by cases h),_,RA hM.keys Gt R4 (aiK.symm.trans R4) _,Sc,.none⟩
  refine bZ.skip (w':=eu w p.bp (.map (es.modify j fun e=>{e with val:=a.eval v}) cl)) (E':=E1) ?_ ⟨l1,by rw[tE];exact hw,trivial⟩
  have hfi:=IE hM.stamps he
  rw[EG] at hfi
  simp[execOp,ho,Instr.entryStore,hv,MapKept.run_getObj_map jd,Py,goInt,asInt,asIntOf,hfi,MapKept.run_setObj_map _ jd,eu]
 ·cases hr
theorem Ss (hT:dx P X.aA) (h:SRel w0 foot base S E a w) (hc:br a ctx) {o:Oper} {x k:Operand} {t t':Nat} {args:Array Operand} {yC:Array Nat} (ho:o.op= .call {callee:= .builtin .delete,args:=args,argTypes:=yC})
  (h1:args.toList=[x,k]) (h2:yC.toList=[t,t']) {r:b9}
  (hr:(do
   let ke <-qR X t
   sf (fun n a b xs _=>do
    let x <-C0 X ke.1 a k
    .ret {cn:=[(n,.map false a b (iV a xs x) none)]}) (<-lM x):RM b9).run S ctx=some r):bZ P w0 foot base S E a w o r:=by
 obtain⟨ke,h3,hr⟩:=RM.run_bind' hr
 obtain⟨c,h4,hr⟩:=RM.run_bind' hr
 have hu:=qQ hT h3
 obtain⟨n,b,c,m,cur,p,es,cl,hr,hf,hp,hn,hv,jd,m0,Gt,hM,_⟩:=tl h hr (gu h hc h4)
 obtain⟨kk,h5,hr⟩:=RM.run_bind' hr
 cases hr
 obtain⟨hK,hk⟩:=vD hT h hc h5
 have ha:args= #[x,k]:=by apply Array.ext';simpa using h1
 have mZ:yC= #[t,t']:=by apply Array.ext';simpa using h2
 have fin:∀wg zZ,(Builtin.delete_ #[t,t'] o.type #[a.eval x,a.eval k]).run P w= .ok (.tuple #[]) (eu w p.bp (.map wg zZ))->hY E.F b c (iV b m0 kk) wg zZ->
   bZ P w0 foot base S E a w o {cn:=[(n,.map false b c (iV b m kk) none)]}:=fun wg zZ dE Sc=>by
  have hw:=h.toHRel.write (B':= .map false b c (iV b m kk) none) hf hp hn rfl ⟨hn,wg,zZ,iK (dR jd),(fun h=>by cases h),_,RD hK.key hM.keys Gt _,Sc,.none⟩
  refine bZ.value (v:= .tuple #[]) (w':=eu w p.bp (.map wg zZ)) (E':=E) ?_ ⟨.refl _,hw,trivial⟩
  subst ha mZ
  simp[execOp,ho,resolve,invoke,builtin,dE]
 rcases uJ hK.key m0 kk with ⟨m1,m2,m3,m4,m5⟩|⟨v0,m1,m2,m3,m4,m5⟩
 ·rcases hK.find w hk hM.xJ with ⟨k1,k2⟩|⟨e,k1,k2,k3⟩
  ·refine fin es cl ?_ (by rw[m3];exact hM)
   simp[Builtin.delete_,hv,run_underlying hu,MapKept.run_getObj_map jd,hK.check w _ hk,k2,MapKept.run_setObj_map _ jd,eu]
  ·rw[m1] at k1;cases k1
 ·rcases hK.find w hk hM.xJ with ⟨k1,k2⟩|⟨e,k1,k2,k3⟩
  ·rw[m1] at k1;cases k1
  ·refine fin (es.eraseIdxIfInBounds (jV b m0 kk)) cl ?_ (by rw[m4];exact hM.erase (List.getElem?_eq_some_iff.1 m2).1)
   simp[Builtin.delete_,hv,run_underlying hu,MapKept.run_getObj_map jd,hK.check w _ hk,k3,MapKept.run_setObj_map _ jd,eu]
theorem QS (h:SRel w0 foot base S E a w) (hc:br a ctx) {o:Oper} {t n:Nat} {x v:Operand} (ho:o.op= .store t x v) {r:b9} {i:TI} {j:TypeInfo} (hj:P.info? t=some j) (e1:j.size=i.size)
  {s:SV} (h2:(ev v).run S ctx=some s) {cs:List C} (h3:(oT s).run S ctx=some cs)
  (hr:(do Mo n i.size cs (<-lM x):RM b9).run S ctx=some r) (cr:∀c∈r.conds,c):bZ P w0 foot base S E a w o r:=by
 obtain⟨c,h4,hr⟩:=RM.run_bind' hr
 have mF:=pe h hc h2 h3
 have FT:=mF.oK
 have hlen:=mF.length
 have hx:=gu h hc h4
 unfold Mo at hr
 split at hr
 ·rename_i tt b k off
  simp only[RM.run] at hr
  split at hr
  ·rename_i B hf
   split at hr
   ·rename_i e t' xs
    split at hr
    ·rename_i hb
     simp only[Bool.and_eq_true] at hb
     have ht:=Ty.beq_eq hb.1
     have hk:=Nat.eq_of_beq_eq_true hb.2.1
     have Ts:=Nat.eq_of_beq_eq_true hb.2.2.1
     have PE:=Nat.eq_of_beq_eq_true hb.2.2.2.1
     have zy:=Nat.eq_of_beq_eq_true hb.2.2.2.2
     subst ht hk Ts
     obtain⟨ys,h5,hr⟩:=RM.run_bind' hr
     cases hr
     have H5:=cr _ (List.mem_singleton.2 rfl)
     obtain⟨p,hp,hn,hi,De⟩:=hx
     obtain⟨p',dn,hB⟩:=h.cn _ _ hf
     rw[hp] at dn;cases dn
     have hB:n6 E w p false e tt xs:=by
      rcases hB with ⟨dB,_⟩|⟨_,hB⟩
      ·rw[hn] at dB;cases dB
      ·exact hB
     obtain⟨g0,⟨g1,g1'⟩,vs,g2,g3,g4,g5⟩:=hB
     have hmul:n*tt.size<=p.cap*tt.size:=Nat.mul_le_mul_right _ (by omega)
     obtain⟨rp,Ng⟩:=wi w h5 mF
     have dE:=qH (P:=P) (o:=0*tt.size+0) (v:=a.eval v) hj (by rw[hlen,zy,e1]) g2 (by rw[g3,hlen,PE];omega) FT
     have hw:=h.toHRel.write (B':= .row false e tt ys) (o:= .cells (vs.toList.take (0*tt.size+0)++(a.eval v).cells.toList++vs.toList.drop (0*tt.size+0+(a.eval v).cells.toList.length)).toArray e (0,0)) hf hp hn rfl
      (Or.inr ⟨hn,n6.mk' (us:=(a.eval v).cells.toList) (rest:=vs.toList.drop (a.eval v).cells.toList.length) rp g0 (by rw[Ng,<-H5];exact g1) g1' (iK (dR g2)) (by simp) (by
       have:vs.toList.length=p.cap*tt.size:=by simpa using g3
       simp only[List.size_toArray,List.length_append,List.length_take,List.length_drop]
       omega)⟩)
     refine bZ.skip (w':=eu w p.bp _) (E':=E) ?_ ⟨.refl _,hw,trivial⟩
     simp only[execOp,ho,Instr.storeAt,Instr.sureAddr,De,Sem.run_bind,Sem.run_pure,Result.andThen_ok]
     rw[dE]
     rfl
    ·cases hr
   ·cases hr
  ·cases hr
 ·cases hr
end Go.Vc
end
