/-
  The base of a small verification-condition generator: pure data types, symbolic values, how they lie in memory, and the basic facts about them. No program is named here; The symbolic state (slots and blocks), reading it with a record of what was read, and how a state stands to the machine's own; Maps as plain data: a list of keys with their values, each key once; looking up, storing, striking out; and what holds of these; The symbolic executor for single operations: what each operation answers, what it asks for, which blocks it makes or changes; The executor's single operations are sound: the readers, constants, data out of cells, numbers and places; The executor's single operations are sound, first part: values, numbers, places, loads and stores; The executor's single operations are sound, second part: stores, structs, indexes, slices, numbers; The executor's single operations are sound, third part: structs in registers, numbers, places of elements, pieces of slices; The executor's single operations are sound, fourth part: '==' and its like, conversions, places of elements, pieces of slices and texts; The executor's single operations are sound, fifth part: places of elements, pieces of slices and texts, slices that the call makes, appends, lengths; The executor's single operations are sound, sixth part: slices that the call makes, appends, lengths, calls; The executor's single operations are sound, seventh part: appends, literal slices, lengths, calls by contract; all operations together; A map's keys at the machine: what is asked of a key's type, that a key may be looked up, and where it is found; The executor's operations on maps are sound: a map made, looked up, stored into, an entry made ready and filled, a key struck out; a whole array stored.
-/
import Derived.Calls
import Derived.Orders
import Derived.Laws.Sem
import Derived.Laws.World
import Derived.Laws.Cells
import Derived.Laws.CopyRow
import Derived.Below
import Derived.Laws.IdiomRangeMap
import Derived.IntWalk
import Derived.Laws.Entries
import Derived.Laws.MakeOwn
import Derived.Laws.AppendOwn
import Derived.Laws.StructEq
import Derived.Laws.Append
import Derived.Lib.Strings
import Derived.Lib.MinMax
import Derived.WideKeyRuns
import Derived.WideMake

section
set_option linter.unusedVariables false
set_option linter.unusedSimpArgs false
namespace Go.Vc
open Go
inductive Ty where
 |int (k:IntKind)
 |bool
 |str
 |list (t:Ty)
 |unit
 |pair (a b:Ty)
 |ref (t:Ty)
 |ptr (t:Ty)
 |lD (k:Nat) (t:Ty)
 |map (a b:Ty)
@[reducible] def Ty.den (t:Ty):Type:=Ty.rec (motive:=fun _=>Type) (fun _=>Int) Bool (List UInt8) (fun _ d=>List d) Unit (fun _ _ a b=>a×b) (fun _ d=>d) (fun _ d=>Option d) (fun _ _ d=>d) (fun _ _ a b=>List (a×b)) t
@[reducible] def Ty.L {t:Ty} (xs:(Ty.list t).den):List t.den:=xs
@[reducible] def Ty.M {a b:Ty} (m:(Ty.map a b).den):List (a.den×b.den):=m
@[reducible] def Ty.I {k:IntKind} (n:(Ty.int k).den):Int:=n
@[reducible] def Ty.B (b:Ty.bool.den):Bool:=b
@[reducible] def Ty.S (s:Ty.str.den):List UInt8:=s
def Ty.size:Ty→Nat
 | .int _| .bool| .str| .list _| .ref _| .ptr _| .lD _ _| .map _ _=>1
 | .unit=>0
 | .pair a b=>a.size+b.size
def Ty.Dh:(t:Ty)→t.den
 | .int _=>(0:Int)
 | .bool=>false
 | .str=>([]:List UInt8)
 | .list _=>[]
 | .unit=>()
 | .pair a b=>(a.Dh,b.Dh)
 | .ref t=>t.Dh
 | .ptr _=>none
 | .lD _ t=>t.Dh
 | .map _ _=>[]
def Ty.isAgg:Ty→Bool
 | .unit| .pair _ _=>true
 |_=>false
def pE:IntKind→IntKind→Bool
 | .i8,.i8| .i16,.i16| .i32,.i32| .i64,.i64| .u8,.u8| .u16,.u16| .u32,.u32| .u64,.u64=>true
 |_,_=>false
theorem qj {a b:IntKind} (h:pE a b=true):a=b:=by
 cases a<;>cases b<;>simp[pE] at h<;>rfl
def Ty.beq:Ty→Ty→Bool
 | .int j,.int k=>pE j k
 | .bool,.bool=>true
 | .str,.str=>true
 | .list a,.list b=>a.beq b
 | .unit,.unit=>true
 | .pair a b,.pair c d=>a.beq c&&b.beq d
 | .ref a,.ref b=>a.beq b
 | .ptr a,.ptr b=>a.beq b
 | .lD j a,.lD k b=>Nat.beq j k&&a.beq b
 | .map a b,.map c d=>a.beq c&&b.beq d
 |_,_=>false
theorem Ty.beq_eq:∀{a b:Ty},a.beq b=true→a=b
 | .int j,.int k,h=>by rw[qj h]
 | .bool,.bool,_=>rfl
 | .str,.str,_=>rfl
 | .list a,.list b,h=>by rw[Ty.beq_eq (a:=a) (b:=b) h]
 | .unit,.unit,_=>rfl
 | .pair a b,.pair c d,h=>by
  simp only[Ty.beq,Bool.and_eq_true] at h
  rw[Ty.beq_eq h.1,Ty.beq_eq h.2]
 | .ref a,.ref b,h=>by rw[Ty.beq_eq (a:=a) (b:=b) h]
 | .ptr a,.ptr b,h=>by rw[Ty.beq_eq (a:=a) (b:=b) h]
 | .lD j a,.lD k b,h=>by
  simp only[Ty.beq,Bool.and_eq_true] at h
  rw[Nat.eq_of_beq_eq_true h.1,Ty.beq_eq h.2]
 | .map a b,.map c d,h=>by
  simp only[Ty.beq,Bool.and_eq_true] at h
  rw[Ty.beq_eq h.1,Ty.beq_eq h.2]
theorem Jw (a:IntKind):pE a a=true:=by cases a<;>rfl
theorem Ty.beq_refl:∀(a:Ty),a.beq a=true
 | .int j=>Jw j
 | .bool| .str| .unit=>rfl
 | .list a=>Ty.beq_refl a
 | .pair a b=>by simp[Ty.beq,Ty.beq_refl a,Ty.beq_refl b]
 | .ref a=>Ty.beq_refl a
 | .ptr a=>Ty.beq_refl a
 | .lD k a=>by simp[Ty.beq,Ty.beq_refl a]
 | .map a b=>by simp[Ty.beq,Ty.beq_refl a,Ty.beq_refl b]
def Ty.as {a:Ty} (b:Ty) (x:a.den):Option b.den:=
 match h:a.beq b with
 |true=>some (Ty.beq_eq h▸x)
 |false=>none
theorem Ty.Qd {a:Ty} (x:a.den):Ty.as a x=some x:=by
 unfold Ty.as
 split
 ·rfl
 ·rename_i h;rw[Ty.beq_refl] at h;cases h
theorem Ty.iJ {a b:Ty} {x:a.den} {y:b.den} (h:Ty.as b x=some y):∃e:a=b,y=e▸x:=by
 unfold Ty.as at h
 split at h
 ·rename_i hb
  exact⟨Ty.beq_eq hb,(Option.some.inj h).symm⟩
 ·cases h
def bq (k:IntKind) (n:Int):Prop:=k.min≤n∧n≤k.max
def aK:Nat:=9223372036854775807
def Ty.wf:(t:Ty)→t.den→Prop
 | .int k,n=>bq k n
 | .bool,_=>True
 | .str,s=>(Ty.S s).length≤aK
 | .list t,xs=>(Ty.L xs).length≤aK∧∀x∈Ty.L xs,t.wf x
 | .unit,_=>True
 | .pair a b,x=>a.wf x.1∧b.wf x.2
 | .ref t,x=>t.wf x
 | .ptr t,x=>∀y,x=some y→t.wf y
 | .lD _ t,x=>t.wf x
 | .map a b,m=>∀x∈Ty.M m,a.wf x.1∧b.wf x.2
inductive C where
 |aC (t:Ty) (x:t.den)
 |row (t:Ty) (b:Nat)
 |sub (t:Ty) (b lo len:Nat)
 |ptr (b o:Nat)
 |mw (t:Ty) (b i o:Nat)
 |sN (t:Ty) (xs:List t.den) (i o:Nat)
 |km
 |oZ
 |Hv
 |iz (k:Nat) (bs:List Nat)
 |map (a b:Ty) (n:Nat)
 |pP
 |xb (d:Nat)
inductive SV where
 |one (c:C)
 |agg (cs:List C)
 |yb (vs:List (Bool×List C))
inductive c5 where
 |cells (cs:List C)
 |row (iZ:Bool) (e:Nat) (t:Ty) (xs:List t.den)
 |im (t:Ty) (x:t.den)
 |map (iZ:Bool) (a b:Ty) (m:List (a.den×b.den)) (cur:Option (Nat×Nat))
 |iter (a b:Ty) (todo:List (a.den×b.den)) (cur:Option (a.den×b.den))
def flat:(t:Ty)→t.den→List C
 | .int k,n=>[.aC (.int k) n]
 | .bool,b=>[.aC .bool b]
 | .str,s=>[.aC .str s]
 | .list t,xs=>[.aC (.list t) xs]
 | .unit,_=>[]
 | .pair a b,x=>flat a x.1++flat b x.2
 | .ref t,x=>[.sN t [x] 0 0]
 | .ptr t,x=>[.aC (.ptr t) x]
 | .lD k t,x=>[.aC (.lD k t) x]
 | .map a b,m=>[.aC (.map a b) m]
theorem tg:∀(t:Ty) (x:t.den),(flat t x).length=t.size
 | .int _,_| .bool,_| .str,_| .list _,_| .unit,_| .ref _,_| .ptr _,_| .lD _ _,_| .map _ _,_=>rfl
 | .pair a b,x=>by simp[flat,Ty.size,tg a x.1,tg b x.2]
abbrev Mem:=Nat→Option Obj
def Mem.cell (F:Mem) (b o:Nat) (u:Value):Prop:=∃c e m,F b=some (.cells c e m)∧c[o]? =some u
def Mem.le (F F':Mem):Prop:=∀b o,F b=some o→F' b=some o
theorem Mem.le.refl (F:Mem):F.le F:=fun _ _ h=>h
theorem Mem.le.trans {F G H:Mem} (h:F.le G) (k:G.le H):F.le H:=fun b o e=>k b o (h b o e)
theorem Mem.cell.mono {F F':Mem} (h:F.le F') {b o:Nat} {u:Value} (k:F.cell b o u):F'.cell b o u:=
 let⟨c,e,m,h1,h2⟩:=k;⟨c,e,m,h _ _ h1,h2⟩
def Ao (es:Array MapEntry) (cl:Nat):Prop:=es.toList.Pairwise (fun x y=>x.born<y.born)∧∀e∈es.toList,e.born<cl
def Ty.valOf (t:Ty) (us:List Value):Value:=
 match t.isAgg with
 |true=> .agg us.toArray
 |false=>us.headD undef
def dh (F:Mem):(t:Ty)→t.den→List Value→Prop
 | .int k,n,vs=>vs=[.int k n]∧bq k n
 | .bool,b,vs=>vs=[.bool b]
 | .str,s,vs=>vs=[.string ⟨⟨Ty.S s⟩⟩]∧(Ty.S s).length≤aK
 | .list t,xs,vs=>∃a cap,vs=[.slice a ((Ty.L xs).length) cap]∧(Ty.L xs).length≤cap∧cap≤aK∧
   (a=none→cap=0)∧(∀p:Addr,a=some p→∀(i:Nat) (x:t.den),(Ty.L xs)[i]? =some x→
    p.spot=none∧∃us:List Value,dh F t x us∧us.length=t.size∧∀(j:Nat) u,us[j]? =some u→F.cell p.block (p.off+(i*t.size+j)) u)
 | .unit,_,vs=>vs=[]
 | .pair a b,x,vs=>∃us ws,vs=us++ws∧dh F a x.1 us∧dh F b x.2 ws
 | .ref t,x,vs=>∃b off,vs=[.pointer (some ⟨b,off,none⟩)]∧∃us:List Value,dh F t x us∧us.length=t.size∧∀(j:Nat) u,us[j]? =some u→F.cell b (off+j) u
 | .ptr t,x,vs=>(x=none∧vs=[.pointer none])∨∃y,x=some y∧∃b off,vs=[.pointer (some ⟨b,off,none⟩)]∧∃us:List Value,dh F t y us∧us.length=t.size∧∀(j:Nat) u,us[j]? =some u→F.cell b (off+j) u
 | .lD k t,x,vs=>∃ws,vs=[.func (.func k) #[] ws]∧dh F t x ws.toList
 | .map a b,m,vs=>∃o,vs=[.map o]∧(o=none→Ty.M m=[])∧∀n,o=some n→∃(m0:List (a.den×b.den)) (es:Array MapEntry) (cl:Nat),m0.Perm (Ty.M m)∧F n=some (.map es cl)∧Ao es cl∧(m0.map Prod.fst).Nodup∧es.size=m0.length∧
   ∀(i:Nat) (x:a.den×b.den),m0[i]? =some x→∃e us ws,es[i]? =some e∧dh F a x.1 us∧e.key=a.valOf us∧dh F b x.2 ws∧e.val=b.valOf ws
theorem dh.length {F:Mem}:∀{t:Ty} {x:t.den} {vs:List Value},dh F t x vs→vs.length=t.size
 | .int _,_,_,h=>by rw[h.1];rfl
 | .bool,_,_,h=>by rw[show _=_ from h];rfl
 | .str,_,_,h=>by rw[h.1];rfl
 | .list _,_,_,h=>by obtain⟨_,_,h,_⟩:=h;rw[h];rfl
 | .unit,_,_,h=>by rw[show _=_ from h];rfl
 | .pair _ _,_,_,h=>by obtain⟨_,_,rfl,h1,h2⟩:=h;simp[Ty.size,h1.length,h2.length]
 | .ref _,_,_,h=>by obtain⟨_,_,h,_⟩:=h;rw[h];rfl
 | .ptr _,_,_,h=>by
  rcases h with ⟨_,h⟩|⟨_,_,_,_,h,_⟩
  ·rw[h];rfl
  ·rw[h];rfl
 | .lD _ _,_,_,h=>by obtain⟨_,h,_⟩:=h;rw[h];rfl
 | .map _ _,_,_,h=>by obtain⟨_,h,_⟩:=h;rw[h];rfl
theorem dh.mono {F F':Mem} (hF:F.le F'):∀{t:Ty} {x:t.den} {vs:List Value},dh F t x vs→dh F' t x vs
 | .int _,_,_,h=>h
 | .bool,_,_,h=>h
 | .str,_,_,h=>h
 | .list t,xs,_,h=>by
  obtain⟨a,cap,h0,h1,h2,h3,h4⟩:=h
  refine⟨a,cap,h0,h1,h2,h3,fun p hp i x hx=> ?_⟩
  obtain⟨hs,us,k1,k2,k3⟩:=h4 p hp i x hx
  exact⟨hs,us,dh.mono hF k1,k2,fun j u hu=>(k3 j u hu).mono hF⟩
 | .unit,_,_,h=>h
 | .pair _ _,_,_,h=>by
  obtain⟨us,ws,h0,h1,h2⟩:=h
  exact⟨us,ws,h0,dh.mono hF h1,dh.mono hF h2⟩
 | .ref _,_,_,h=>by
  obtain⟨b,off,h0,us,k1,k2,k3⟩:=h
  exact⟨b,off,h0,us,dh.mono hF k1,k2,fun j u hu=>(k3 j u hu).mono hF⟩
 | .ptr _,_,_,h=>by
  rcases h with h|⟨y,hy,b,off,h0,us,k1,k2,k3⟩
  ·exact .inl h
  ·exact .inr ⟨y,hy,b,off,h0,us,dh.mono hF k1,k2,fun j u hu=>(k3 j u hu).mono hF⟩
 | .lD _ _,_,_,h=>by
  obtain⟨ws,h0,h1⟩:=h
  exact⟨ws,h0,dh.mono hF h1⟩
 | .map a b,m,_,h=>by
  obtain⟨o,h0,h1,h2⟩:=h
  refine⟨o,h0,h1,fun n hn=> ?_⟩
  obtain⟨m0,es,cl,k0,k1,k4,k5,k2,k3⟩:=h2 n hn
  refine⟨m0,es,cl,k0,hF _ _ k1,k4,k5,k2,fun i x hx=> ?_⟩
  obtain⟨e,us,ws,q1,q2,q3,q4,q5⟩:=k3 i x hx
  exact⟨e,us,ws,q1,dh.mono hF q2,q3,dh.mono hF q4,q5⟩
theorem dh.wf {F:Mem}:∀{t:Ty} {x:t.den} {vs:List Value},dh F t x vs→t.wf x
 | .int _,_,_,h=>h.2
 | .bool,_,_,_=>trivial
 | .str,_,_,h=>h.2
 | .list t,xs,_,h=>by
  obtain⟨a,cap,h0,h1,h2,h3,h4⟩:=h
  refine⟨Nat.le_trans h1 h2,fun x hx=> ?_⟩
  obtain⟨i,hi,rfl⟩:=List.mem_iff_getElem.1 hx
  cases a with
  |none=>have:=h3 rfl;subst this;exact absurd hi (by have:(Ty.L xs).length=0:=(by omega);omega)
  |some p=>
   obtain⟨_,us,k1,_⟩:=h4 p rfl i _ (List.getElem?_eq_getElem hi)
   exact dh.wf k1
 | .unit,_,_,_=>trivial
 | .pair _ _,_,_,h=>by
  obtain⟨us,ws,h0,h1,h2⟩:=h
  exact⟨dh.wf h1,dh.wf h2⟩
 | .ref t,x,_,h=>by
  obtain⟨_,_,_,us,k1,_⟩:=h
  exact dh.wf (t:=t) k1
 | .ptr t,x,_,h=>by
  rcases h with ⟨h,_⟩|⟨y,hy,_,_,_,us,k1,_⟩
  ·subst h;intro y hy;cases hy
  ·subst hy
   intro z hz
   cases hz
   exact dh.wf (t:=t) k1
 | .lD _ t,x,_,h=>by
  obtain⟨_,_,k1⟩:=h
  exact dh.wf (t:=t) k1
 | .map a b,m,_,h=>by
  obtain⟨o,_,h1,h2⟩:=h
  intro x hx
  cases o with
  |none=>rw[h1 rfl] at hx;cases hx
  |some n=>
   obtain⟨m0,es,cl,k0,_,_,_,_,k3⟩:=h2 n rfl
   obtain⟨i,hi,rfl⟩:=List.mem_iff_getElem.1 (k0.mem_iff.2 hx)
   obtain⟨e,us,ws,_,q2,_,q4,_⟩:=k3 i _ (List.getElem?_eq_getElem hi)
   exact⟨dh.wf q2,dh.wf q4⟩
structure Place where
 nil:Bool
 bc:Nat
 cap:Nat
 len:Nat
structure Env where
 F:Mem
 place:Nat→Option Place
structure Env.le (E E':Env):Prop where
 F:E.F.le E'.F
 place:∀b p,E.place b=some p→E'.place b=some p
theorem Env.le.refl (E:Env):E.le E:=⟨.refl _,fun _ _ h=>h⟩
theorem Env.le.trans {E E' E'':Env} (h:E.le E') (k:E'.le E''):E.le E'':=⟨h.F.trans k.F,fun b p e=>k.place b p (h.place b p e)⟩
def gO (E:Env):C→Value→Prop
 | .aC t x,v=>t.isAgg=false∧dh E.F t x [v]
 | .row _ b,v=>∃p,E.place b=some p∧
   ((p.nil=true∧v= .slice none 0 0∧p.len=0)∨(p.nil=false∧v= .slice (some ⟨p.bc,0,none⟩) p.len p.cap∧p.len≤p.cap∧p.cap≤aK))
 | .sub t b lo len,v=>∃p,E.place b=some p∧lo+len≤p.len∧
   ((p.nil=true∧v= .slice none 0 0∧p.len=0)∨
    (p.nil=false∧∃a:Addr,v= .slice (some a) len (p.cap - lo)∧p.len≤p.cap∧p.cap≤aK∧(lo=p.cap∨a=⟨p.bc,lo*t.size,none⟩)))
 | .ptr b o,v=>∃p,E.place b=some p∧p.nil=false∧v= .pointer (some ⟨p.bc,o,none⟩)
 | .mw t b i o,v=>∃p,E.place b=some p∧p.nil=false∧i<p.len∧v= .pointer (some ⟨p.bc,i*t.size+o,none⟩)
 | .sN t xs i o,v=>i<xs.length∧∃b off,v= .pointer (some ⟨b,off+(i*t.size+o),none⟩)∧
   ∀(i:Nat) (x:t.den),xs[i]? =some x→
    ∃us:List Value,dh E.F t x us∧us.length=t.size∧∀(j:Nat) u,us[j]? =some u→E.F.cell b (off+(i*t.size+j)) u
 | .km,v=>v= .slice none 0 0
 | .oZ,v=>v= .pointer none
 | .Hv,v=>v= .nilFunc
 | .iz k bs,v=>∃ps:List Place,ps.length=bs.length∧(∀(i:Nat) b,bs[i]? =some b→∃p,ps[i]? =some p∧E.place b=some p∧p.nil=false)∧v= .func (.func k) #[] (ps.map fun p=>Value.pointer (some ⟨p.bc,0,none⟩)).toArray
 | .map _ _ n,v=>∃p,E.place n=some p∧p.nil=false∧v= .map (some p.bc)
 | .pP,v=>v= .map none
 | .xb d,v=>∃q,E.place d=some q∧q.nil=true∧v=goInt q.cap
theorem gO.mono {E E':Env} (h:E.le E') {c:C} {v:Value} (k:gO E c v):gO E' c v:=by
 cases c with
 |aC t x=>exact⟨k.1,k.2.mono h.F⟩
 |row t b=>obtain⟨p,hp,k⟩:=k;exact⟨p,h.place _ _ hp,k⟩
 |sub t b lo len=>obtain⟨p,hp,k⟩:=k;exact⟨p,h.place _ _ hp,k⟩
 |ptr b o=>obtain⟨p,hp,k⟩:=k;exact⟨p,h.place _ _ hp,k⟩
 |mw t b i o=>obtain⟨p,hp,k⟩:=k;exact⟨p,h.place _ _ hp,k⟩
 |sN t xs i o=>
  obtain⟨hi,b,off,hv,k⟩:=k
  refine⟨hi,b,off,hv,fun i x hx=> ?_⟩
  obtain⟨us,k1,k2,k3⟩:=k i x hx
  exact⟨us,k1.mono h.F,k2,fun j u hu=>(k3 j u hu).mono h.F⟩
 |km=>exact k
 |oZ=>exact k
 |Hv=>exact k
 |iz k' bs=>
  obtain⟨ps,h1,h2,h3⟩:=k
  exact⟨ps,h1,fun i b hb=>let⟨p,g1,g2,g3⟩:=h2 i b hb;⟨p,g1,h.place _ _ g2,g3⟩,h3⟩
 |map a b n=>obtain⟨p,hp,k⟩:=k;exact⟨p,h.place _ _ hp,k⟩
 |pP=>exact k
 |xb d=>obtain⟨q,hq,k⟩:=k;exact⟨q,h.place _ _ hq,k⟩
theorem gO.oB {E:Env} {c:C} {v:Value} (k:gO E c v):v.oneCell'=true:=by
 cases c with
 |aC t x=>
  obtain⟨ha,k⟩:=k
  cases t with
  |int _=>obtain⟨k,_⟩:=k;simp at k;subst k;rfl
  |bool=>have k:_=_:=k;simp at k;subst k;rfl
  |str=>obtain⟨k,_⟩:=k;simp at k;subst k;rfl
  |list t=>obtain⟨_,_,k,_⟩:=k;simp at k;subst k;rfl
  |unit=>simp[Ty.isAgg] at ha
  |pair a b=>simp[Ty.isAgg] at ha
  |ref t=>obtain⟨_,_,k,_⟩:=k;simp at k;subst k;rfl
  |ptr t=>
   rcases k with ⟨_,k⟩|⟨_,_,_,_,k,_⟩
   ·simp at k;subst k;rfl
   ·simp at k;subst k;rfl
  |lD k' t=>obtain⟨_,k,_⟩:=k;simp at k;subst k;rfl
  |map a b=>obtain⟨_,k,_⟩:=k;simp at k;subst k;rfl
 |row t b=>
  obtain⟨p,_,⟨_,k,_⟩|⟨_,k,_⟩⟩:=k
  ·rw[k];rfl
  ·rw[k];rfl
 |sub t b lo len=>
  obtain⟨p,_,_,⟨_,k,_⟩|⟨_,a,k,_⟩⟩:=k
  ·rw[k];rfl
  ·rw[k];rfl
 |ptr b o=>obtain⟨p,_,_,k⟩:=k;rw[k];rfl
 |mw t b i o=>obtain⟨p,_,_,_,k⟩:=k;rw[k];rfl
 |sN t xs i o=>obtain⟨_,b,off,k,_⟩:=k;rw[k];rfl
 |km=>rw[show v=_ from k];rfl
 |oZ=>rw[show v=_ from k];rfl
 |Hv=>rw[show v=_ from k];rfl
 |iz _ _=>obtain⟨_,_,_,k⟩:=k;rw[k];rfl
 |map a b n=>obtain⟨p,_,_,k⟩:=k;rw[k];rfl
 |pP=>rw[show v=_ from k];rfl
 |xb d=>obtain⟨q,_,_,k⟩:=k;rw[k];rfl
theorem Value.BP {v:Value} (h:v.oneCell'=true):v.cells= #[v]:=by
 cases v<;>simp[Value.oneCell',Value.cells] at *
def b5 (E:Env):List C→List Value→Prop
 |[],vs=>vs=[]
 |c::cs,vs=>∃v us,vs=v::us∧gO E c v∧b5 E cs us
theorem b5.mono {E E':Env} (h:E.le E'):∀{cs:List C} {vs:List Value},b5 E cs vs→b5 E' cs vs
 |[],_,k=>k
 |_::_,_,⟨v,us,hv,k1,k2⟩=>⟨v,us,hv,k1.mono h,b5.mono h k2⟩
theorem b5.length {E:Env}:∀{cs:List C} {vs:List Value},b5 E cs vs→vs.length=cs.length
 |[],_,k=>by rw[show _=_ from k];rfl
 |_::_,_,⟨v,us,hv,_,k2⟩=>by rw[hv];simp[b5.length k2]
theorem b5.oB {E:Env}:∀{cs:List C} {vs:List Value},b5 E cs vs→∀v∈vs,v.oneCell'=true
 |[],_,k=>by rw[show _=_ from k];simp
 |_::_,_,⟨v,us,hv,k1,k2⟩=>by
  subst hv
  intro u hu
  rcases List.mem_cons.1 hu with rfl|hu
  ·exact k1.oB
  ·exact b5.oB k2 u hu
theorem b5.append {E:Env}:∀{cs ds:List C} {vs us:List Value},b5 E cs vs→b5 E ds us→b5 E (cs++ds) (vs++us)
 |[],_,_,_,k,l=>by rw[show _=_ from k];exact l
 |_::_,_,_,_,⟨v,ws,hv,k1,k2⟩,l=>⟨v,ws++_,by rw[hv];rfl,k1,b5.append k2 l⟩
theorem b5.get {E:Env}:∀{cs:List C} {vs:List Value},b5 E cs vs→∀(i:Nat) c,cs[i]? =some c→∃v,vs[i]? =some v∧gO E c v
 |[],_,_,i,c,h=>by simp at h
 |_::_,_,⟨v,us,hv,k1,k2⟩,0,c,h=>by subst hv;simp at h;subst h;exact⟨v,rfl,k1⟩
 |_::_,_,⟨v,us,hv,k1,k2⟩,i+1,c,h=>by subst hv;simpa using b5.get k2 i c (by simpa using h)
theorem b5.take {E:Env}:∀{cs:List C} {vs:List Value},b5 E cs vs→∀(n:Nat),b5 E (cs.take n) (vs.take n)
 |[],_,k,n=>by rw[show _=_ from k];simp[b5]
 |_::_,_,_,0=>rfl
 |_::_,_,⟨v,us,hv,k1,k2⟩,n+1=>by subst hv;exact⟨v,us.take n,rfl,k1,b5.take k2 n⟩
theorem b5.drop {E:Env}:∀{cs:List C} {vs:List Value},b5 E cs vs→∀(n:Nat),b5 E (cs.drop n) (vs.drop n)
 |[],_,k,n=>by rw[show _=_ from k];simp[b5]
 |_::_,_,k,0=>k
 |_::_,_,⟨v,us,hv,_,k2⟩,n+1=>by subst hv;exact b5.drop k2 n
theorem gG {E:Env}:∀{t:Ty} {x:t.den} {vs:List Value},dh E.F t x vs→b5 E (flat t x) vs
 | .int _,_,_,h=>⟨_,[],h.1,⟨rfl,rfl,h.2⟩,rfl⟩
 | .bool,_,_,h=>⟨_,[],h,⟨rfl,rfl⟩,rfl⟩
 | .str,_,_,h=>⟨_,[],h.1,⟨rfl,rfl,h.2⟩,rfl⟩
 | .list _,_,_,h=>by
  have h':=h
  obtain⟨a,cap,h0,h1⟩:=h
  exact⟨_,[],h0,⟨rfl,a,cap,rfl,h1⟩,rfl⟩
 | .unit,_,_,h=>h
 | .pair _ _,_,_,h=>by
  obtain⟨us,ws,rfl,h1,h2⟩:=h
  exact b5.append (gG h1) (gG h2)
 | .ref t,x,_,h=>by
  obtain⟨b,off,rfl,us,k1,k2,k3⟩:=h
  refine⟨_,[],rfl,⟨by simp,b,off,by simp,fun i y hy=> ?_⟩,rfl⟩
  cases i with
  |zero=>
   have hy:x=y:=by simpa using hy
   subst hy
   exact⟨us,k1,k2,fun j u hu=>by simpa using k3 j u hu⟩
  |succ i=>simp at hy
 | .ptr t,x,vs,h=>by
  have h':=h
  rcases h with ⟨_,h⟩|⟨_,_,_,_,h,_⟩
  ·subst h;exact⟨_,[],rfl,⟨rfl,h'⟩,rfl⟩
  ·subst h;exact⟨_,[],rfl,⟨rfl,h'⟩,rfl⟩
 | .lD k t,x,vs,h=>by
  have h':=h
  obtain⟨_,h,_⟩:=h
  subst h
  exact⟨_,[],rfl,⟨rfl,h'⟩,rfl⟩
 | .map a b,x,vs,h=>by
  have h':=h
  obtain⟨_,h,_⟩:=h
  subst h
  exact⟨_,[],rfl,⟨rfl,h'⟩,rfl⟩
def ft (E:Env):SV→Value→Prop
 | .one c,v=>gO E c v
 | .agg cs,v=>∃vs,v= .agg vs∧b5 E cs vs.toList
 | .yb l,v=>∃vs,v= .tuple vs∧go l vs.toList
where
 go:List (Bool×List C)→List Value→Prop
  |[],vs=>vs=[]
  |(g,cs)::l,vs=>∃v us,vs=v::us∧(match g with |true=>∃ws,v= .agg ws∧b5 E cs ws.toList|false=>∃c,cs=[c]∧gO E c v)∧go l us
theorem ft.PD {E E':Env} (h:E.le E'):∀{l:List (Bool×List C)} {vs:List Value},ft.go E l vs→ft.go E' l vs
 |[],_,k=>k
 |(g,cs)::l,_,k=>by
  obtain⟨v,us,hv,k1,k2⟩:=k
  refine⟨v,us,hv,?_,ft.PD h k2⟩
  cases g with
  |true=>obtain⟨ws,hw,k1⟩:=k1;exact⟨ws,hw,k1.mono h⟩
  |false=>obtain⟨c,hc,k1⟩:=k1;exact⟨c,hc,k1.mono h⟩
theorem ft.mono {E E':Env} (h:E.le E') {s:SV} {v:Value} (k:ft E s v):ft E' s v:=by
 cases s with
 |one c=>exact gO.mono h k
 |agg cs=>obtain⟨vs,hv,k⟩:=k;exact⟨vs,hv,k.mono h⟩
 |yb l=>obtain⟨vs,hv,k⟩:=k;exact⟨vs,hv,ft.PD h k⟩
def nT (E:Env) (w:World) (p:Place) (iZ:Bool) (e:Nat) (t:Ty) (xs:List t.den):Prop:=
 p.cap≤aK∧(xs.length=p.len∧p.len≤p.cap)∧∃vs,w.heap[p.bc]? =some (.cells vs e (0,0))∧vs.size=p.cap*t.size∧(iZ=true→E.F p.bc=some (.cells vs e (0,0)))∧
  ∀(i:Nat) (x:t.den),xs[i]? =some x→∃us:List Value,dh E.F t x us∧us.length=t.size∧∀(j:Nat) u,us[j]? =some u→vs[i*t.size+j]? =some u
structure gX (F:Mem) (a b:Ty) (m:List (a.den×b.den)) (es:Array MapEntry) (cl:Nat):Prop where
 stamps:Ao es cl
 keys:(m.map Prod.fst).Nodup
 size:es.size=m.length
 at_:∀(i:Nat) (x:a.den×b.den),m[i]? =some x→∃e us ws,es[i]? =some e∧dh F a x.1 us∧e.key=a.valOf us∧dh F b x.2 ws∧e.val=b.valOf ws
theorem gX.mono {F F':Mem} (hF:F.le F') {a b:Ty} {m:List (a.den×b.den)} {es:Array MapEntry} {cl:Nat} (h:gX F a b m es cl):gX F' a b m es cl:=by
 refine⟨h.stamps,h.keys,h.size,fun i x hx=> ?_⟩
 obtain⟨e,us,ws,q1,q2,q3,q4,q5⟩:=h.at_ i x hx
 exact⟨e,us,ws,q1,q2.mono hF,q3,q4.mono hF,q5⟩
def tn {α β:Type} (E:Env) (m0 m:List (α×β)) (es:Array MapEntry) (cur:Option (Nat×Nat)):Prop:=∀d i,cur=some (d,i)→∃(q:Place) (e:MapEntry) (j:Nat),E.place d=some q∧q.nil=true∧es[j]? =some e∧e.born=q.cap∧(m0[j]?).map Prod.fst=(m[i]?).map Prod.fst
theorem tn.mono {α β:Type} {E E':Env} (h:E.le E') {m0 m:List (α×β)} {es:Array MapEntry} {cur:Option (Nat×Nat)} (k:tn E m0 m es cur):tn E' m0 m es cur:=fun d i hc=>by
 obtain⟨q,e,j,h1,h2⟩:=k d i hc
 exact⟨q,e,j,h.place _ _ h1,h2⟩
theorem tn.none {α β:Type} {E:Env} {m0 m:List (α×β)} {es:Array MapEntry}:tn E m0 m es Option.none:=by
 intro d i h
 cases h
def qa (E:Env) (a b:Ty) (m:List (a.den×b.den)) (es:Array MapEntry) (cl:Nat) (cur:Option (Nat×Nat)):Prop:=∃m0,m0.Perm m∧gX E.F a b m0 es cl∧tn E m0 m es cur
theorem qa.mono {E E':Env} (h:E.le E') {a b:Ty} {m:List (a.den×b.den)} {es:Array MapEntry} {cl:Nat} {cur:Option (Nat×Nat)} (k:qa E a b m es cl cur):qa E' a b m es cl cur:=
 let⟨m0,k1,k2,k3⟩:=k;⟨m0,k1,k2.mono h.F,k3.mono h⟩
theorem qa.none {E:Env} {a b:Ty} {m:List (a.den×b.den)} {es:Array MapEntry} {cl:Nat} {cur:Option (Nat×Nat)} (k:qa E a b m es cl cur):qa E a b m es cl Option.none:=
 let⟨m0,k1,k2,_⟩:=k;⟨m0,k1,k2,tn.none⟩
theorem qa.aki {E E':Env} (h:E.F.le E'.F) {a b:Ty} {m:List (a.den×b.den)} {es:Array MapEntry} {cl:Nat} {cur:Option (Nat×Nat)} (k:qa E a b m es cl cur):qa E' a b m es cl Option.none:=
 let⟨m0,k1,k2,_⟩:=k;⟨m0,k1,k2.mono h,tn.none⟩
theorem qa.perm {E:Env} {a b:Ty} {m m':List (a.den×b.den)} {es:Array MapEntry} {cl:Nat} (k:qa E a b m es cl Option.none) (h:m.Perm m'):qa E a b m' es cl Option.none:=
 let⟨m0,k1,k2,_⟩:=k;⟨m0,k1.trans h,k2,tn.none⟩
def xQ (F:Mem) (a b:Ty) (x:a.den×b.den) (e:MapEntry):Prop:=(∃us,dh F a x.1 us∧e.key=a.valOf us)∧∃ws,dh F b x.2 ws∧e.val=b.valOf ws
theorem xQ.mono {F F':Mem} (hF:F.le F') {a b:Ty} {x:a.den×b.den} {e:MapEntry} (h:xQ F a b x e):xQ F' a b x e:=
 let⟨⟨us,h1,h2⟩,ws,h3,h4⟩:=h;⟨⟨us,h1.mono hF,h2⟩,ws,h3.mono hF,h4⟩
inductive je (F:Mem) (a b:Ty):List (a.den×b.den)→List MapEntry→Prop
 |nil:je F a b [] []
 |cons {x:a.den×b.den} {e:MapEntry} {m:List (a.den×b.den)} {l:List MapEntry} (h:xQ F a b x e) (k:je F a b m l):je F a b (x::m) (e::l)
theorem je.mono {F F':Mem} (hF:F.le F') {a b:Ty} {m:List (a.den×b.den)} {l:List MapEntry} (h:je F a b m l):je F' a b m l:=by
 induction h with
 |nil=>exact .nil
 |cons h k ih=>exact .cons (h.mono hF) ih
def DL (F:Mem) (a b:Ty) (todo:List (a.den×b.den)) (cur:Option (a.den×b.den)) (mo:Option Nat) (since:Nat) (seen:Array Nat) (last:Nat):Prop:=
 (mo=none∧todo=[]∧cur=none)∨∃mb es cl Gb,mo=some mb∧F mb=some (.map es cl)∧Ao es cl∧since=cl∧last=cl∧Gb.Perm (leftOf es seen).toList∧je F a b todo Gb∧
  ∀x,cur=some x→∃e∈es.toList,seen.back?=some e.born∧xQ F a b x e
theorem DL.mono {F F':Mem} (hF:F.le F') {a b:Ty} {todo:List (a.den×b.den)} {cur:Option (a.den×b.den)} {mo:Option Nat} {since:Nat} {seen:Array Nat} {last:Nat} (h:DL F a b todo cur mo since seen last):DL F' a b todo cur mo since seen last:=by
 rcases h with h|⟨mb,es,cl,Gb,h1,h2,h3,h4,h5,h6,h7,h8⟩
 ·exact .inl h
 ·refine .inr ⟨mb,es,cl,Gb,h1,hF _ _ h2,h3,h4,h5,h6,h7.mono hF,fun x hx=> ?_⟩
  obtain⟨e,k1,k2,k3⟩:=h8 x hx
  exact⟨e,k1,k2,k3.mono hF⟩
def fX (E:Env) (w:World) (p:Place):c5→Prop
 | .cells cs=>p.nil=false∧∃vs e,w.heap[p.bc]? =some (.cells vs e (0,0))∧b5 E cs vs.toList
 | .row iZ e t xs=>(p.nil=true∧xs=[]∧p.len=0)∨(p.nil=false∧nT E w p iZ e t xs)
 | .im t x=>p.nil=false∧∃vs e,w.heap[p.bc]? =some (.cells vs e (0,0))∧E.F p.bc=some (.cells vs e (0,0))∧dh E.F t x vs.toList
 | .map iZ a b m cur=>p.nil=false∧∃es cl,w.heap[p.bc]? =some (.map es cl)∧(iZ=true→E.F p.bc=some (.map es cl))∧qa E a b m es cl cur
 | .iter a b todo cur=>p.nil=false∧∃mo since seen last,w.heap[p.bc]? =some (.mapIter mo since seen last)∧DL E.F a b todo cur mo since seen last
theorem nT.mono {E E':Env} (h:E.le E') {w:World} {p:Place} {iZ:Bool} {e:Nat} {t:Ty} {xs:List t.den} (k:nT E w p iZ e t xs):nT E' w p iZ e t xs:=by
 obtain⟨h0,h1,vs,h2,h3,h4,h5⟩:=k
 refine⟨h0,h1,vs,h2,h3,fun hf=>h.F _ _ (h4 hf),fun i x hx=> ?_⟩
 obtain⟨us,k1,k2⟩:=h5 i x hx
 exact⟨us,k1.mono h.F,k2⟩
theorem fX.mono {E E':Env} (h:E.le E') {w:World} {p:Place} {B:c5} (k:fX E w p B):fX E' w p B:=by
 cases B with
 |cells cs=>obtain⟨h0,vs,e,h1,h2⟩:=k;exact⟨h0,vs,e,h1,h2.mono h⟩
 |row iZ e t xs=>exact k.imp id fun k=>⟨k.1,k.2.mono h⟩
 |im t x=>obtain⟨h0,vs,e,h1,h2,h3⟩:=k;exact⟨h0,vs,e,h1,h.F _ _ h2,h3.mono h.F⟩
 |map iZ a b m cur=>obtain⟨h0,es,cl,h1,h2,h3⟩:=k;exact⟨h0,es,cl,h1,fun hf=>h.F _ _ (h2 hf),h3.mono h⟩
 |iter a b todo cur=>obtain⟨h0,mo,si,se,la,h1,h2⟩:=k;exact⟨h0,mo,si,se,la,h1,h2.mono h.F⟩
theorem fX.world {E:Env} {w w':World} {p:Place} {B:c5} (k:fX E w p B) (h:p.nil=false→w'.heap[p.bc]? =w.heap[p.bc]?):fX E w' p B:=by
 cases B with
 |cells cs=>obtain⟨h0,vs,e,h1,h2⟩:=k;exact⟨h0,vs,e,by rw[h h0];exact h1,h2⟩
 |row iZ e t xs=>
  rcases k with k|⟨hn,h0,h1,vs,h2,h3⟩
  ·exact .inl k
  ·exact .inr ⟨hn,h0,h1,vs,by rw[h hn];exact h2,h3⟩
 |im t x=>obtain⟨h0,vs,e,h1,h2⟩:=k;exact⟨h0,vs,e,by rw[h h0];exact h1,h2⟩
 |map iZ a b m cur=>obtain⟨h0,es,cl,h1,h2⟩:=k;exact⟨h0,es,cl,by rw[h h0];exact h1,h2⟩
 |iter a b todo cur=>obtain⟨h0,mo,si,se,la,h1,h2⟩:=k;exact⟨h0,mo,si,se,la,by rw[h h0];exact h1,h2⟩
def find {α:Type}:List (Nat×α)→Nat→Option α
 |[],_=>none
 |(m,a)::l,n=>match Nat.beq m n with
  |true=>some a
  |false=>find l n
def rem {α:Type}:List (Nat×α)→Nat→List (Nat×α)
 |[],_=>[]
 |(m,a)::l,n=>match Nat.beq m n with
  |true=>rem l n
  |false=>(m,a)::rem l n
def put {α:Type} (l:List (Nat×α)) (n:Nat) (a:α):List (Nat×α):=(n,a)::rem l n
def has:List Nat→Nat→Bool
 |[],_=>false
 |m::l,n=>match Nat.beq m n with
  |true=>true
  |false=>has l n
theorem so:∀{l:List Nat} {n:Nat},has l n=true↔n∈l
 |[],n=>by simp[has]
 |m::l,n=>by
  unfold has
  split
  ·rename_i h;simp[Nat.eq_of_beq_eq_true h]
  ·rename_i h
   have:m≠n:=fun e=>by subst e;simp at h
   rw[so (l:=l)]
   simp[this.symm]
theorem mX {α:Type}:∀(l:List (Nat×α)) (n:Nat),find (rem l n) n=none
 |[],_=>rfl
 |(m,a)::l,n=>by
  unfold rem
  split
  ·exact mX l n
  ·rename_i h;unfold find;rw[h];exact mX l n
theorem gV {α:Type}:∀(l:List (Nat×α)) (n k:Nat),n≠k→find (rem l n) k=find l k
 |[],_,_,_=>rfl
 |(m,a)::l,n,k,h=>by
  unfold rem
  split
  ·rename_i hb
   have e:=Nat.eq_of_beq_eq_true hb
   subst e
   rw[gV l m k h,find]
   split
   ·rename_i hk;exact absurd (Nat.eq_of_beq_eq_true hk) h
   ·rfl
  ·simp only[find];rw[gV l n k h]
theorem gn {α:Type} {l:List (Nat×α)} {n k:Nat} {a:α} (h:find (rem l n) k=some a):find l k=some a∧n≠k:=by
 by_cases e:n=k
 ·subst e;rw[mX] at h;cases h
 ·rw[gV _ _ _ e] at h;exact⟨h,e⟩
theorem bO {α:Type} (l:List (Nat×α)) (n:Nat) (a:α):find (put l n a) n=some a:=by
 simp[put,find]
theorem bk {α:Type} (l:List (Nat×α)) (n k:Nat) (a:α) (h:n≠k):find (put l n a) k=find l k:=by
 simp only[put,find]
 split
 ·rename_i hk;exact absurd (Nat.eq_of_beq_eq_true hk) h
 ·exact gV l n k h
abbrev c8:=List (Nat×Bool)
structure St where
 sl:List (Nat×(c8×SV))
 bl:List (Nat×c5)
 used:List Nat
 n:Nat
 oA:List Nat:=[]
def CB:List Nat→List Nat→Bool
 |[],[]=>true
 |m::l,n::k=>Nat.beq m n&&CB l k
 |_,_=>false
theorem Br:∀{l k:List Nat},CB l k=true→l=k
 |[],[],_=>rfl
 |m::l,n::k,h=>by
  simp only[CB,Bool.and_eq_true] at h
  rw[Nat.eq_of_beq_eq_true h.1,Br h.2]
 |[],_::_,h=>by cases h
 |_::_,[],h=>by cases h
inductive Loc where
 |slot (n:Nat)
 |bc (n:Nat)
def Loc.beq:Loc→Loc→Bool
 | .slot a,.slot b=>Nat.beq a b
 | .bc a,.bc b=>Nat.beq a b
 |_,_=>false
theorem Loc.beq_eq {a b:Loc} (h:a.beq b=true):a=b:=by
 cases a<;>cases b<;>simp[Loc.beq] at h<;>simp_all
theorem Loc.beq_refl (a:Loc):a.beq a=true:=by cases a<;>simp[Loc.beq]
inductive RM (α:Type) where
 |ret (a:α)
 |fail
 |slot (ex:c8) (n:Nat) (k:SV→RM α)
 |bc (n:Nat) (k:c5→RM α)
def RM.bind {α β:Type}:RM α→(α→RM β)→RM β
 | .ret a,f=>f a
 | .fail,_=> .fail
 | .slot ex n k,f=> .slot ex n fun v=>(k v).bind f
 | .bc n k,f=> .bc n fun v=>(k v).bind f
instance:Monad RM where
 pure:=RM.ret
 bind:=RM.bind
def L6:c8→Nat×Bool→Bool
 |[],_=>false
 |(m,b)::l,t=>match Nat.beq m t.1&&(b==t.2) with
  |true=>true
  |false=>L6 l t
def Ci (l:c8):c8→Bool
 |[]=>true
 |t::ts=>match L6 l t with
  |true=>Ci l ts
  |false=>false
def RM.run {α:Type} (S:St) (ctx:c8):RM α→Option α
 | .ret a=>some a
 | .fail=>none
 | .slot ex n k=>match find S.sl n with
  |some (tags,v)=>(match Ci (ex++ctx) tags with
   |true=>(k v).run S ctx
   |false=>none)
  |none=>none
 | .bc n k=>match find S.bl n with
  |some B=>(k B).run S ctx
  |none=>none
def RM.reads {α:Type} (S:St) (ctx:c8):RM α→List Loc
 | .ret _=>[]
 | .fail=>[]
 | .slot _ n k=> .slot n::(match find S.sl n with
  |some (_,v)=>(k v).reads S ctx
  |none=>[])
 | .bc n k=> .bc n::(match find S.bl n with
  |some B=>(k B).reads S ctx
  |none=>[])
def gP (S S':St):Loc→Prop
 | .slot n=>find S'.sl n=find S.sl n
 | .bc n=>find S'.bl n=find S.bl n
theorem RM.Bh {α:Type} {S S':St} {ctx:c8}:∀{m:RM α},(∀l∈m.reads S ctx,gP S S' l)→m.run S' ctx=m.run S ctx
 | .ret _,_=>rfl
 | .fail,_=>rfl
 | .slot ex n k,h=>by
  have h0:find S'.sl n=find S.sl n:=h (.slot n) (by simp[RM.reads])
  simp only[RM.run,h0]
  cases hf:find S.sl n with
  |none=>rfl
  |some x=>
   obtain⟨tags,v⟩:=x
   simp only
   split
   ·refine RM.Bh fun l hl=>h l ?_
    simp only[RM.reads,hf]
    exact List.mem_cons_of_mem _ hl
   ·rfl
 | .bc n k,h=>by
  have h0:find S'.bl n=find S.bl n:=h (.bc n) (by simp[RM.reads])
  simp only[RM.run,h0]
  cases hf:find S.bl n with
  |none=>rfl
  |some B=>
   refine RM.Bh fun l hl=>h l ?_
   simp only[RM.reads,hf]
   exact List.mem_cons_of_mem _ hl
theorem RM.run_bind {α β:Type} {S:St} {ctx:c8}:∀{m:RM α} {f:α→RM β} {b:β},(m.bind f).run S ctx=some b→∃a,m.run S ctx=some a∧(f a).run S ctx=some b
 | .ret a,f,b,h=>⟨a,rfl,h⟩
 | .fail,f,b,h=>by cases h
 | .slot ex n k,f,b,h=>by
  simp only[RM.bind,RM.run] at h ⊢
  split at h
  ·split at h
   ·obtain⟨a,h1,h2⟩:=RM.run_bind h
    exact⟨a,h1,h2⟩
   ·cases h
  ·cases h
 | .bc n k,f,b,h=>by
  simp only[RM.bind,RM.run] at h ⊢
  split at h
  ·exact RM.run_bind h
  ·cases h
theorem RM.run_bind' {α β:Type} {S:St} {ctx:c8} {m:RM α} {f:α→RM β} {b:β} (h:(m>>=f).run S ctx=some b):∃a,m.run S ctx=some a∧(f a).run S ctx=some b:=RM.run_bind h
theorem RM.run_pure' {α:Type} {S:St} {ctx:c8} {a b:α} (h:(pure a:RM α).run S ctx=some b):a=b:=Option.some.inj h
theorem GZ:∀{l:c8} {t:Nat×Bool},L6 l t=true→t∈l
 |[],_,h=>by cases h
 |(m,b)::l,t,h=>by
  unfold L6 at h
  split at h
  ·rename_i hb
   simp only[Bool.and_eq_true,beq_iff_eq] at hb
   have:=Nat.eq_of_beq_eq_true hb.1
   obtain⟨t1,t2⟩:=t
   simp only at this hb
   rw[←this,←hb.2]
   exact List.mem_cons_self
  ·exact List.mem_cons_of_mem _ (GZ h)
theorem ES {l:c8}:∀{ts:c8},Ci l ts=true→∀t∈ts,t∈l
 |[],_,t,ht=>by cases ht
 |t'::ts,h,t,ht=>by
  unfold Ci at h
  split at h
  ·rename_i hb
   rcases List.mem_cons.1 ht with rfl|ht
   ·exact GZ hb
   ·exact ES h t ht
  ·cases h
def bo (a:Act) (ts:c8):Prop:=∀t∈ts,a.tmps[t.1]? =some (.bool t.2)
structure gF where
 at_:Nat→Prop
 oA:Nat→Option Place:=fun _=>none
instance:CoeFun gF (fun _=>Nat→Prop):=⟨gF.at_⟩
def Gr:gF:=⟨fun _=>False,fun _=>none⟩
structure sD (foot:Nat→Prop) (w w':World):Prop where
 os:w'.os=w.os
 tape:w'.tape=w.tape
 output:w'.output=w.output
 size:w.heap.size≤w'.heap.size
 block:∀k,k<w.heap.size→¬foot k→w'.heap[k]? =w.heap[k]?
theorem sD.refl (foot:Nat→Prop) (w:World):sD foot w w:=⟨rfl,rfl,rfl,Nat.le_refl _,fun _ _ _=>rfl⟩
theorem sD.trans {foot:Nat→Prop} {a b c:World} (h:sD foot a b) (k:sD foot b c):sD foot a c:=
 ⟨k.os.trans h.os,k.tape.trans h.tape,k.output.trans h.output,Nat.le_trans h.size k.size,fun i hi hf=>(k.block i (Nat.lt_of_lt_of_le hi h.size) hf).trans (h.block i hi hf)⟩
def c5.mut:c5→Bool
 | .cells _=>true
 | .row iZ _ _ _=> !iZ
 | .im _ _=>false
 | .map iZ _ _ _ _=> !iZ
 | .iter _ _ _ _=>true
structure HRel (w0:World) (foot:gF) (base:Mem) (bl:List (Nat×c5)) (used:List Nat) (E:Env) (w:World):Prop where
 keep:sD foot.at_ w0 w
 mW:∀b o,E.F b=some o→w.heap[b]? =some o
 src:∀b o,E.F b=some o→base b=some o∨w0.heap.size≤b∨foot b
 ck:∀id B,find bl id=some B→∃p,E.place id=some p∧fX E w p B
 own:∀id B p,find bl id=some B→E.place id=some p→p.nil=false→(w0.heap.size≤p.bc∨foot p.bc)∧(B.mut=true→E.F p.bc=none)
 inj:∀id MV B B' p p',find bl id=some B→find bl MV=some B'→E.place id=some p→E.place MV=some p'→p.nil=false→p'.nil=false→id≠MV→p.bc≠p'.bc
 used:∀id p,E.place id=some p→id∈used
structure SRel (w0:World) (foot:gF) (base:Mem) (S:St) (E:Env) (a:Act) (w:World):Prop extends HRel w0 foot base S.bl S.used E w where
 gZ:∀n ts v,find S.sl n=some (ts,v)→bo a ts→ft E v (a.tmps.getD n undef)
 size:a.tmps.size=S.n
 defers:a.defers=[]
 pins:∀n p,foot.oA n=some p→n∈S.oA∧E.place n=some p
theorem HRel.congr {w0:World} {foot:gF} {base:Mem} {bl NK:List (Nat×c5)} {used Wl:List Nat} {E:Env} {w:World}
  (h:HRel w0 foot base bl used E w) (hb:∀id B,find NK id=some B→find bl id=some B) (hu:∀i,i∈used→i∈Wl):HRel w0 foot base NK Wl E w:=
 ⟨h.keep,h.mW,h.src,fun id B hf=>h.ck id B (hb _ _ hf),fun id B p hf=>h.own id B p (hb _ _ hf),fun id MV B B' p p' hf eh=>h.inj id MV B B' p p' (hb _ _ hf) (hb _ _ eh),fun id p hp=>hu _ (h.used id p hp)⟩
theorem HRel.drew {w0:World} {foot:gF} {base:Mem} {bl:List (Nat×c5)} {used:List Nat} {E:Env} {w:World} (h:HRel w0 foot base bl used E w) (n:Nat):
  HRel w0 foot base bl used E {w with drawn:=n}:=
 ⟨⟨h.keep.os,h.keep.tape,h.keep.output,h.keep.size,h.keep.block⟩,h.mW,h.src,fun id B hf=>by
  obtain⟨p,hp,hB⟩:=h.ck id B hf
  exact⟨p,hp,hB.world fun _=>rfl⟩,h.own,h.inj,h.used⟩
theorem dw {w:World} {b:Nat} {o:Obj} (h:w.heap[b]? =some o):b<w.heap.size:=by
 rcases Nat.lt_or_ge b w.heap.size with h'|h'
 ·exact h'
 ·rw[Array.getElem?_eq_none h'] at h;cases h
theorem fX.lt {E:Env} {w:World} {p:Place} {B:c5} (k:fX E w p B) (hn:p.nil=false):p.bc<w.heap.size:=by
 cases B with
 |cells cs=>obtain⟨_,vs,e,h,_⟩:=k;exact dw h
 |im t x=>obtain⟨_,vs,e,h,_⟩:=k;exact dw h
 |map iZ a b m cur=>obtain⟨_,es,cl,h,_⟩:=k;exact dw h
 |iter a b todo cur=>obtain⟨_,_,_,_,_,h,_⟩:=k;exact dw h
 |row iZ e t xs=>
  rcases k with ⟨k,_,_⟩|⟨_,_,_,vs,h,_⟩
  ·rw[hn] at k;cases k
  ·exact dw h
def Env.new (E:Env) (id:Nat) (p:Place):Env:={E with place:=fun b=>if b=id then some p else E.place b}
theorem Env.nB {E:Env} {id:Nat} {p:Place} (h:E.place id=none):E.le (E.new id p):=
 ⟨.refl _,fun b q hb=>by
  unfold Env.new
  simp only
  split
  ·rename_i e;subst e;rw[h] at hb;cases hb
  ·exact hb⟩
theorem Env.fa {E:Env} {id:Nat} {p:Place}:(E.new id p).place id=some p:=by simp[Env.new]
theorem Env.gl {E:Env} {id b:Nat} {p:Place} (h:b≠id):(E.new id p).place b=E.place b:=by simp[Env.new,h]
theorem pd {w:World} {o:Obj} {k:Nat} (h:k<w.heap.size):(w.alloc o).heap[k]? =w.heap[k]? :=Go.RowKit.Below.heap_alloc _ _ _ h
theorem oM {w:World} {o:Obj}:(w.alloc o).heap[w.heap.size]? =some o:=by show(w.heap.push o)[w.heap.size]? =_;simp
theorem HRel.alloc {w0:World} {foot:gF} {base:Mem} {bl:List (Nat×c5)} {used:List Nat} {E:Env} {w:World} (h:HRel w0 foot base bl used E w)
  {id:Nat} {p:Place} {B:c5} {o:Obj} (uI:id∉used) (hp:p.nil=false→p.bc=w.heap.size)
  (hB:fX (E.new id p) (w.alloc o) p B):HRel w0 foot base (put bl id B) (id::used) (E.new id p) (w.alloc o):=by
 have jR:E.place id=none:=by
  cases he:E.place id with
  |none=>rfl
  |some q=>exact absurd (h.used id q he) uI
 have hle:=Env.nB (p:=p) jR
 have hF:E.F w.heap.size=none:=by
  cases he:E.F w.heap.size with
  |none=>rfl
  |some o=>have:=dw (h.mW _ _ he);omega
 have pH:∀i B',i≠id→find (put bl id B) i=some B'→find bl i=some B':=fun i B' hi hf=>by rwa [bk _ _ _ _ (Ne.symm hi)] at hf
 refine⟨h.keep.trans ⟨rfl,rfl,rfl,by simp,fun k hk _=>pd hk⟩,fun b o hb=> ?_,h.src,fun i B' hf=> ?_,fun i B' q hf hq hn=> ?_,fun i j B' nM q q' hf eh hq ni hn dk kS=> ?_,fun i q hq=> ?_⟩
 ·have:=h.mW b o hb
  rw[pd (dw this)]
  exact this
 ·by_cases hi:i=id
  ·subst hi
   rw[bO] at hf
   cases hf
   exact⟨p,Env.fa,hB⟩
  ·obtain⟨q,hq,k⟩:=h.ck i B' (pH i B' hi hf)
   exact⟨q,hle.place _ _ hq,(k.mono hle).world fun hn=>pd (k.lt hn)⟩
 ·by_cases hi:i=id
  ·subst hi
   rw[Env.fa] at hq
   cases hq
   rw[hp hn]
   exact⟨.inl h.keep.size,fun _=>hF⟩
  ·rw[Env.gl hi] at hq
   exact h.own i B' q (pH i B' hi hf) hq hn
 ·have k9:∀i B' q,i≠id→find (put bl id B) i=some B'→(E.new id p).place i=some q→q.nil=false→q.bc<w.heap.size:=fun i B' q hi hf hq hn=>by
   rw[Env.gl hi] at hq
   obtain⟨q',ni,k⟩:=h.ck i B' (pH i B' hi hf)
   rw[hq] at ni
   cases ni
   exact k.lt hn
  by_cases hi:i=id
  ·have hj:j≠id:=fun e=>kS (hi.trans e.symm)
   have:=k9 j nM q' hj eh ni dk
   subst hi
   rw[Env.fa] at hq
   cases hq
   have:=hp hn
   omega
  ·by_cases hj:j=id
   ·have:=k9 i B' q hi hf hq hn
    subst hj
    rw[Env.fa] at ni
    cases ni
    have:=hp dk
    omega
   ·rw[Env.gl hi] at hq
    rw[Env.gl hj] at ni
    exact h.inj i j B' nM q q' (pH i B' hi hf) (pH j nM hj eh) hq ni hn dk kS
 ·by_cases hi:i=id
  ·exact hi▸List.mem_cons_self
  ·rw[Env.gl hi] at hq
   exact List.mem_cons_of_mem _ (h.used i q hq)
theorem HRel.Mt {w0:World} {foot:gF} {base:Mem} {bl:List (Nat×c5)} {used:List Nat} {E:Env} {w:World} (h:HRel w0 foot base bl used E w)
  {id:Nat} {p:Place} {B:c5} (uI:id∉used) (hp:p.nil=true) (hB:fX (E.new id p) w p B):HRel w0 foot base (put bl id B) (id::used) (E.new id p) w:=by
 have jR:E.place id=none:=by
  cases he:E.place id with
  |none=>rfl
  |some q=>exact absurd (h.used id q he) uI
 have hle:=Env.nB (p:=p) jR
 have pH:∀i B',i≠id→find (put bl id B) i=some B'→find bl i=some B':=fun i B' hi hf=>by rwa [bk _ _ _ _ (Ne.symm hi)] at hf
 have ne:∀i q,(E.new id p).place i=some q→q.nil=false→i≠id:=fun i q hq hn e=>by
  subst e;rw[Env.fa] at hq;cases hq;rw[hp] at hn;cases hn
 refine⟨h.keep,h.mW,h.src,fun i B' hf=> ?_,fun i B' q hf hq hn=> ?_,fun i j B' nM q q' hf eh hq ni hn dk kS=> ?_,fun i q hq=> ?_⟩
 ·by_cases hi:i=id
  ·subst hi
   rw[bO] at hf
   cases hf
   exact⟨p,Env.fa,hB⟩
  ·obtain⟨q,hq,k⟩:=h.ck i B' (pH i B' hi hf)
   exact⟨q,hle.place _ _ hq,k.mono hle⟩
 ·have hi:=ne i q hq hn
  rw[Env.gl hi] at hq
  exact h.own i B' q (pH i B' hi hf) hq hn
 ·have hi:=ne i q hq hn
  have hj:=ne j q' ni dk
  rw[Env.gl hi] at hq
  rw[Env.gl hj] at ni
  exact h.inj i j B' nM q q' (pH i B' hi hf) (pH j nM hj eh) hq ni hn dk kS
 ·by_cases hi:i=id
  ·exact hi▸List.mem_cons_self
  ·rw[Env.gl hi] at hq
   exact List.mem_cons_of_mem _ (h.used i q hq)
def eu (w:World) (b:Nat) (o:Obj):World:={w with heap:=w.heap.setIfInBounds b o}
theorem iB {w:World} {b:Nat} {o:Obj} (h:b<w.heap.size):(eu w b o).heap[b]? =some o:=by simp[eu,h]
theorem nU {w:World} {b k:Nat} {o:Obj} (h:k≠b):(eu w b o).heap[k]? =w.heap[k]? :=by
 simp[eu,Array.getElem?_setIfInBounds_ne (Ne.symm h)]
theorem HRel.write {w0:World} {foot:gF} {base:Mem} {bl:List (Nat×c5)} {used:List Nat} {E:Env} {w:World} (h:HRel w0 foot base bl used E w)
  {id:Nat} {p:Place} {B B':c5} {o:Obj} (hf:find bl id=some B) (hp:E.place id=some p) (hn:p.nil=false) (hm:B.mut=true)
  (hB:fX E (eu w p.bc o) p B'):HRel w0 foot base (put bl id B') used E (eu w p.bc o):=by
 have dK:p.bc<w.heap.size:=by
  obtain⟨q,hq,k⟩:=h.ck id B hf
  rw[hp] at hq;cases hq
  exact k.lt hn
 have rm:=h.own id B p hf hp hn
 have pH:∀i nM,i≠id→find (put bl id B') i=some nM→find bl i=some nM:=fun i B' hi hf=>by rwa [bk _ _ _ _ (Ne.symm hi)] at hf
 have any:∀i nM,find (put bl id B') i=some nM→∃DO,find bl i=some DO:=fun i nM eh=>by
  by_cases hi:i=id
  ·exact hi▸⟨B,hf⟩
  ·exact⟨nM,pH i nM hi eh⟩
 refine⟨⟨h.keep.os,h.keep.tape,h.keep.output,Nat.le_trans h.keep.size (by simp[eu]),fun k hk Pw=>(nU fun e=> ?_).trans (h.keep.block k hk Pw)⟩,fun b o' hb=> ?_,h.src,fun i nM eh=> ?_,fun i nM q eh hq dk=> ?_,fun i j DN DM q q' h1 h2 hq ni hn dk kS=> ?_,h.used⟩
 ·subst e
  rcases rm.1 with h1|h1
  ·omega
  ·exact Pw h1
 ·have gI:=h.mW b o' hb
  rw[nU]
  ·exact gI
  ·rintro rfl
   rw[rm.2 hm] at hb
   cases hb
 ·by_cases hi:i=id
  ·subst hi
   rw[bO] at eh
   cases eh
   exact⟨p,hp,hB⟩
  ·obtain⟨q,hq,k⟩:=h.ck i nM (pH i nM hi eh)
   refine⟨q,hq,k.world fun dk=>nU ?_⟩
   exact h.inj i id nM B q p (pH i nM hi eh) hf hq hp dk hn hi
 ·by_cases hi:i=id
  ·subst hi
   rw[hp] at hq
   cases hq
   exact⟨rm.1,fun _=>rm.2 hm⟩
  ·exact h.own i nM q (pH i nM hi eh) hq dk
 ·obtain⟨afn,nR⟩:=any i DN h1
  obtain⟨afm,ze⟩:=any j DM h2
  exact h.inj i j afn afm q q' nR ze hq ni hn dk kS
theorem HRel.freeze {w0:World} {foot:gF} {base:Mem} {bl:List (Nat×c5)} {used:List Nat} {E:Env} {w:World} (h:HRel w0 foot base bl used E w)
  {id:Nat} {iZ:Bool} {e:Nat} {t:Ty} {xs:List t.den} (hf:find bl id=some (.row iZ e t xs)):
  ∃E',E.le E'∧E'.place=E.place∧(∀b o,E'.F b=some o→E.F b=some o∨(w.heap[b]? =some o∧(∃p,E.place id=some p∧p.nil=false∧p.bc=b)))∧HRel w0 foot base (put bl id (.row true e t xs)) used E' w:=by
 obtain⟨p,hp,hB⟩:=h.ck id _ hf
 rcases hB with ⟨hn,hx,hl⟩|⟨hn,h0,h1,vs,h2,h3,h4,h5⟩
 ·refine⟨E,.refl _,rfl,fun b o hb=> .inl hb,⟨h.keep,h.mW,h.src,fun i B' eh=> ?_,fun i B' q eh hq dk=> ?_,fun i j DN DM q q' h1 h2 hq ni hn dk kS=> ?_,h.used⟩⟩
  ·by_cases hi:i=id
   ·subst hi;rw[bO] at eh;cases eh;exact⟨p,hp,.inl ⟨hn,hx,hl⟩⟩
   ·rw[bk _ _ _ _ (Ne.symm hi)] at eh;exact h.ck i B' eh
  ·by_cases hi:i=id
   ·subst hi;rw[hp] at hq;cases hq;rw[hn] at dk;cases dk
   ·rw[bk _ _ _ _ (Ne.symm hi)] at eh;exact h.own i B' q eh hq dk
  ·have any:∀i nM,find (put bl id (c5.row true e t xs)) i=some nM→∃DO,find bl i=some DO:=fun i nM eh=>by
    by_cases hi:i=id
    ·exact hi▸⟨_,hf⟩
    ·rw[bk _ _ _ _ (Ne.symm hi)] at eh;exact⟨_,eh⟩
   obtain⟨_,nR⟩:=any i DN h1
   obtain⟨_,ze⟩:=any j DM h2
   exact h.inj i j _ _ q q' nR ze hq ni hn dk kS
 ·have hle:E.le {E with F:=fun b=>if b=p.bc then some (.cells vs e (0,0)) else E.F b}:=by
   refine⟨fun b o hb=> ?_,fun _ _ h=>h⟩
   simp only
   split
   ·rename_i gI
    subst gI
    rw[←h.mW _ _ hb,h2]
   ·exact hb
  refine⟨_,hle,rfl,fun b o hb=> ?_,⟨h.keep,fun b o hb=> ?_,fun b o hb=> ?_,fun i B' eh=> ?_,fun i B' q eh hq dk=> ?_,fun i j DN DM q q' h1 h2 hq ni hn dk kS=> ?_,h.used⟩⟩
  ·simp only at hb
   split at hb
   ·rename_i gI;subst gI;cases hb;exact .inr ⟨h2,p,hp,hn,rfl⟩
   ·exact .inl hb
  ·simp only at hb
   split at hb
   ·rename_i gI;subst gI;cases hb;exact h2
   ·exact h.mW _ _ hb
  ·simp only at hb
   split at hb
   ·rename_i gI;subst gI;exact .inr (h.own id _ p hf hp hn).1
   ·exact h.src _ _ hb
  ·by_cases hi:i=id
   ·subst hi
    rw[bO] at eh
    cases eh
    refine⟨p,hp,.inr ⟨hn,h0,h1,vs,h2,h3,fun _=>by simp,fun j x hx=> ?_⟩⟩
    obtain⟨us,k1,k2⟩:=h5 j x hx
    exact⟨us,k1.mono hle.F,k2⟩
   ·rw[bk _ _ _ _ (Ne.symm hi)] at eh
    obtain⟨q,hq,k⟩:=h.ck i B' eh
    exact⟨q,hq,k.mono hle⟩
  ·by_cases hi:i=id
   ·subst hi
    rw[bO] at eh
    cases eh
    exact⟨(h.own i _ q hf hq dk).1,fun hm=>by simp[c5.mut] at hm⟩
   ·rw[bk _ _ _ _ (Ne.symm hi)] at eh
    refine⟨(h.own i B' q eh hq dk).1,fun hm=> ?_⟩
    simp only
    rw[if_neg (h.inj i id B' _ q p eh hf hq hp dk hn hi)]
    exact(h.own i B' q eh hq dk).2 hm
  ·have any:∀i nM,find (put bl id (c5.row true e t xs)) i=some nM→∃DO,find bl i=some DO:=fun i nM eh=>by
    by_cases hi:i=id
    ·exact hi▸⟨_,hf⟩
    ·rw[bk _ _ _ _ (Ne.symm hi)] at eh;exact⟨_,eh⟩
   obtain⟨_,nR⟩:=any i DN h1
   obtain⟨_,ze⟩:=any j DM h2
   exact h.inj i j _ _ q q' nR ze hq ni hn dk kS
theorem HRel.Nk {w0:World} {foot:gF} {base:Mem} {bl:List (Nat×c5)} {used:List Nat} {E:Env} {w:World} (h:HRel w0 foot base bl used E w)
  {id:Nat} {cs:List C} {t:Ty} {x:t.den} (hf:find bl id=some (.cells cs)) (hr:∀vs:List Value,b5 E cs vs→dh E.F t x vs):
  ∃E',E.le E'∧E'.place=E.place∧(∀b o,E'.F b=some o→E.F b=some o∨(w.heap[b]? =some o∧(∃p,E.place id=some p∧p.nil=false∧p.bc=b)))∧HRel w0 foot base (put bl id (.im t x)) used E' w:=by
 obtain⟨p,hp,hB⟩:=h.ck id _ hf
 obtain⟨hn,vs,e,h2,h3⟩:=hB
 have hle:E.le {E with F:=fun b=>if b=p.bc then some (.cells vs e (0,0)) else E.F b}:=by
  refine⟨fun b o hb=> ?_,fun _ _ h=>h⟩
  simp only
  split
  ·rename_i gI
   subst gI
   rw[←h.mW _ _ hb,h2]
  ·exact hb
 refine⟨_,hle,rfl,fun b o hb=> ?_,⟨h.keep,fun b o hb=> ?_,fun b o hb=> ?_,fun i B' eh=> ?_,fun i B' q eh hq dk=> ?_,fun i j DN DM q q' h1 h2 hq ni hn dk kS=> ?_,h.used⟩⟩
 ·simp only at hb
  split at hb
  ·rename_i gI;subst gI;cases hb;exact .inr ⟨h2,p,hp,hn,rfl⟩
  ·exact .inl hb
 ·simp only at hb
  split at hb
  ·rename_i gI;subst gI;cases hb;exact h2
  ·exact h.mW _ _ hb
 ·simp only at hb
  split at hb
  ·rename_i gI;subst gI;exact .inr (h.own id _ p hf hp hn).1
  ·exact h.src _ _ hb
 ·by_cases hi:i=id
  ·subst hi
   rw[bO] at eh
   cases eh
   exact⟨p,hp,hn,vs,e,h2,by simp,(hr _ h3).mono hle.F⟩
  ·rw[bk _ _ _ _ (Ne.symm hi)] at eh
   obtain⟨q,hq,k⟩:=h.ck i B' eh
   exact⟨q,hq,k.mono hle⟩
 ·by_cases hi:i=id
  ·subst hi
   rw[bO] at eh
   cases eh
   exact⟨(h.own i _ q hf hq dk).1,fun hm=>by simp[c5.mut] at hm⟩
  ·rw[bk _ _ _ _ (Ne.symm hi)] at eh
   refine⟨(h.own i B' q eh hq dk).1,fun hm=> ?_⟩
   simp only
   rw[if_neg (h.inj i id B' _ q p eh hf hq hp dk hn hi)]
   exact(h.own i B' q eh hq dk).2 hm
 ·have any:∀i nM,find (put bl id (c5.im t x)) i=some nM→∃DO,find bl i=some DO:=fun i nM eh=>by
   by_cases hi:i=id
   ·exact hi▸⟨_,hf⟩
   ·rw[bk _ _ _ _ (Ne.symm hi)] at eh;exact⟨_,eh⟩
  obtain⟨_,nR⟩:=any i DN h1
  obtain⟨_,ze⟩:=any j DM h2
  exact h.inj i j _ _ q q' nR ze hq ni hn dk kS
theorem HRel.Ij {w0:World} {foot:gF} {base:Mem} {bl:List (Nat×c5)} {used:List Nat} {E:Env} {w:World} (h:HRel w0 foot base bl used E w)
  {id:Nat} {iZ:Bool} {a b:Ty} {m:List (a.den×b.den)} {cur:Option (Nat×Nat)} (hf:find bl id=some (.map iZ a b m cur)):
  ∃E',E.le E'∧E'.place=E.place∧(∀b o,E'.F b=some o→E.F b=some o∨(w.heap[b]? =some o∧(∃p,E.place id=some p∧p.nil=false∧p.bc=b)))∧HRel w0 foot base (put bl id (.map true a b m none)) used E' w:=by
 obtain⟨p,hp,hB⟩:=h.ck id _ hf
 obtain⟨hn,es,cl,h2,h4,h3⟩:=hB
 have hle:E.le {E with F:=fun b=>if b=p.bc then some (.map es cl) else E.F b}:=by
  refine⟨fun b o hb=> ?_,fun _ _ h=>h⟩
  simp only
  split
  ·rename_i gI
   subst gI
   rw[←h.mW _ _ hb,h2]
  ·exact hb
 refine⟨_,hle,rfl,fun b o hb=> ?_,⟨h.keep,fun b o hb=> ?_,fun b o hb=> ?_,fun i B' eh=> ?_,fun i B' q eh hq dk=> ?_,fun i j DN DM q q' h1 h2 hq ni hn dk kS=> ?_,h.used⟩⟩
 ·simp only at hb
  split at hb
  ·rename_i gI;subst gI;cases hb;exact .inr ⟨h2,p,hp,hn,rfl⟩
  ·exact .inl hb
 ·simp only at hb
  split at hb
  ·rename_i gI;subst gI;cases hb;exact h2
  ·exact h.mW _ _ hb
 ·simp only at hb
  split at hb
  ·rename_i gI;subst gI;exact .inr (h.own id _ p hf hp hn).1
  ·exact h.src _ _ hb
 ·by_cases hi:i=id
  ·subst hi
   rw[bO] at eh
   cases eh
   exact⟨p,hp,hn,es,cl,h2,fun _=>by simp,(h3.mono hle).none⟩
  ·rw[bk _ _ _ _ (Ne.symm hi)] at eh
   obtain⟨q,hq,k⟩:=h.ck i B' eh
   exact⟨q,hq,k.mono hle⟩
 ·by_cases hi:i=id
  ·subst hi
   rw[bO] at eh
   cases eh
   exact⟨(h.own i _ q hf hq dk).1,fun hm=>by simp[c5.mut] at hm⟩
  ·rw[bk _ _ _ _ (Ne.symm hi)] at eh
   refine⟨(h.own i B' q eh hq dk).1,fun hm=> ?_⟩
   simp only
   rw[if_neg (h.inj i id B' _ q p eh hf hq hp dk hn hi)]
   exact(h.own i B' q eh hq dk).2 hm
 ·have any:∀i nM,find (put bl id (c5.map true a b m none)) i=some nM→∃DO,find bl i=some DO:=fun i nM eh=>by
   by_cases hi:i=id
   ·exact hi▸⟨_,hf⟩
   ·rw[bk _ _ _ _ (Ne.symm hi)] at eh;exact⟨_,eh⟩
  obtain⟨_,nR⟩:=any i DN h1
  obtain⟨_,ze⟩:=any j DM h2
  exact h.inj i j _ _ q q' nR ze hq ni hn dk kS
end Go.Vc
end

section
set_option linter.unusedVariables false
set_option linter.unusedSimpArgs false
namespace Go.Vc
open Go
def Ty.AL:Ty→Bool
 | .int _| .bool| .str=>true
 |_=>false
def Ty.ug:Ty→Bool
 | .unit=>true
 | .pair a b=>a.AL&&(b.AL||b.ug)
 |_=>false
def Ty.isKey (t:Ty):Bool:=t.AL||t.ug
def Ty.iW:(t:Ty)→t.den→t.den→Bool
 | .int _,x,y=>Ty.I x==Ty.I y
 | .bool,x,y=>Ty.B x==Ty.B y
 | .str,x,y=>Ty.S x==Ty.S y
 | .unit,_,_=>true
 | .pair a b,x,y=>a.iW x.1 y.1&&b.iW x.2 y.2
 | .list _,_,_=>false
 | .ref _,_,_=>false
 | .ptr _,_,_=>false
 | .lD _ _,_,_=>false
 | .map _ _,_,_=>false
theorem Ty.Ej:∀{t:Ty},t.AL=true→∀(x y:t.den),t.iW x y=true↔x=y
 | .int _,_,x,y=>beq_iff_eq (α:=Int)
 | .bool,_,x,y=>beq_iff_eq (α:=Bool)
 | .str,_,x,y=>beq_iff_eq (α:=List UInt8)
theorem Ty.HO:∀{t:Ty},t.ug=true→∀(x y:t.den),t.iW x y=true↔x=y
 | .unit,_,x,y=>⟨fun _=>rfl,fun _=>rfl⟩
 | .pair a b,h,x,y=>by
  simp only[Ty.ug,Bool.and_eq_true,Bool.or_eq_true] at h
  have h2:b.iW x.2 y.2=true↔x.2=y.2:=by
   rcases h.2 with h2|h2
   ·exact Ty.Ej h2 x.2 y.2
   ·exact Ty.HO h2 x.2 y.2
  simp only[Ty.iW,Bool.and_eq_true,Ty.Ej h.1,h2]
  obtain⟨x1,x2⟩:=x
  obtain⟨y1,y2⟩:=y
  simp
theorem Ty.nP {t:Ty} (h:t.isKey=true) (x y:t.den):t.iW x y=true↔x=y:=by
 simp only[Ty.isKey,Bool.or_eq_true] at h
 rcases h with h|h
 ·exact Ty.Ej h x y
 ·exact Ty.HO h x y
def aT (a:Ty) {β:Type}:List (a.den×β)→a.den→Option β
 |[],_=>none
 |x::m,k=>bif a.iW k x.1 then some x.2 else aT a m k
def jO (a:Ty) {β:Type}:List (a.den×β)→a.den→Nat
 |[],_=>0
 |x::m,k=>bif a.iW k x.1 then 0 else jO a m k+1
def dc (a:Ty) {β:Type}:List (a.den×β)→a.den→β→List (a.den×β)
 |[],k,v=>[(k,v)]
 |x::m,k,v=>bif a.iW k x.1 then(k,v)::m else x::dc a m k v
def iQ (a:Ty) {β:Type}:List (a.den×β)→a.den→List (a.den×β)
 |[],_=>[]
 |x::m,k=>bif a.iW k x.1 then m else x::iQ a m k
def rl (a:Ty) {β:Type} (m:List (a.den×β)) (k:a.den) (z:β):List (a.den×β):=dc a m k ((aT a m k).getD z)
def sT {α β:Type} (m:List (α×β)) (i:Nat) (v:β):List (α×β):=m.modify i fun x=>(x.1,v)
section
variable {a:Ty} {β:Type}
theorem Xd:∀(m:List (a.den×β)) (k:a.den),jO a m k≤m.length
 |[],_=>Nat.le_refl _
 |x::m,k=>by
  unfold jO
  cases a.iW k x.1 with
  |true=>simp
  |false=>have:=Xd m k;simpa using this
theorem ux (h:a.isKey=true):∀(m:List (a.den×β)) (k:a.den),
  (aT a m k=none∧(∀v,dc a m k v=m++[(k,v)])∧iQ a m k=m∧jO a m k=m.length∧∀x∈m,x.1≠k)∨
  ∃v0,aT a m k=some v0∧m[jO a m k]? =some (k,v0)∧(∀v,dc a m k v=m.set (jO a m k) (k,v))∧iQ a m k=m.eraseIdx (jO a m k)∧(∀(j:Nat) x,j<jO a m k→m[j]? =some x→x.1≠k)
 |[],k=> .inl ⟨rfl,fun _=>rfl,rfl,rfl,fun x hx=>by cases hx⟩
 |x::m,k=>by
  have hk:=Ty.nP h k x.1
  simp only[aT,dc,iQ,jO]
  cases hb:a.iW k x.1 with
  |true=>
   have e:=hk.1 hb
   subst e
   exact .inr ⟨x.2,rfl,rfl,fun v=>rfl,rfl,fun j y hj=>by simp at hj⟩
  |false=>
   have jS:x.1≠k:=fun e=>by rw[hk.2 e.symm] at hb;cases hb
   rcases ux h m k with ⟨h1,h2,h3,h4,h5⟩|⟨v0,h1,h2,h3,h4,h5⟩
   ·refine .inl ⟨h1,fun v=>by simp[h2 v],by simp[h3],by simp[h4],fun y hy=> ?_⟩
    rcases List.mem_cons.1 hy with rfl|hy
    ·exact jS
    ·exact h5 y hy
   ·refine .inr ⟨v0,h1,by simpa using h2,fun v=>by simp[h3 v],by simp[h4],fun j y hj hy=> ?_⟩
    cases j with
    |zero=>
     have hy:x=y:=by simpa using hy
     subst hy;exact jS
    |succ j=>exact h5 j y (by simpa using hj) (by simpa using hy)
theorem wz (h:a.isKey=true):∀(m:List (a.den×β)) (k k':a.den) (v:β),aT a (dc a m k v) k'=bif a.iW k' k then some v else aT a m k'
 |[],k,k',v=>by simp[dc,aT]
 |x::m,k,k',v=>by
  simp only[dc]
  cases hb:a.iW k x.1 with
  |true=>
   have e:=(Ty.nP h k x.1).1 hb
   subst e
   simp only[cond_true,aT]
   cases a.iW k' x.1<;>rfl
  |false=>
   simp only[cond_false,aT,wz h m k k' v]
   cases hc:a.iW k' x.1 with
   |true=>
    have e:=(Ty.nP h k' x.1).1 hc
    subst e
    have:a.iW x.1 k=false:=by
     cases hd:a.iW x.1 k with
     |false=>rfl
     |true=>
      have e:=(Ty.nP h x.1 k).1 hd
      rw[←e] at hb
      rw[(Ty.nP h x.1 x.1).2 rfl] at hb
      cases hb
    rw[this];rfl
   |false=>rfl
theorem fI (h:a.isKey=true) {m:List (a.den×β)} {k:a.den} {v:β} (hg:aT a m k=some v):(k,v)∈m:=by
 rcases ux h m k with ⟨h1,_⟩|⟨v0,h1,h2,_⟩
 ·rw[h1] at hg;cases hg
 ·rw[h1] at hg;cases hg;exact List.mem_of_getElem? h2
theorem o2 (h:a.isKey=true):∀{m:List (a.den×β)} {k:a.den} {v:β},(m.map Prod.fst).Nodup→(k,v)∈m→aT a m k=some v
 |[],_,_,_,hm=>by cases hm
 |x::m,k,v,hn,hm=>by
  simp only[List.map_cons,List.nodup_cons] at hn
  simp only[aT]
  rcases List.mem_cons.1 hm with rfl|hm
  ·rw[(Ty.nP h k k).2 rfl];rfl
  ·cases hb:a.iW k x.1 with
   |true=>
    have e:=(Ty.nP h k x.1).1 hb
    exact absurd (List.mem_map.2 ⟨_,hm,e⟩) hn.1
   |false=>exact o2 h hn.2 hm
theorem HA (h:a.isKey=true) (m:List (a.den×β)) (k:a.den) (z v:β):sT (rl a m k z) (jO a m k) v=dc a m k v:=by
 unfold sT rl
 rcases ux h m k with ⟨h1,h2,h3,h4,h5⟩|⟨v0,h1,h2,h3,h4,h5⟩
 ·rw[h2,h2,h4]
  apply List.ext_getElem?
  intro j
  rw[List.getElem?_modify]
  by_cases hj:m.length=j
  ·subst hj;simp
  ·simp only[hj,if_false]
   cases hq:(m++[(k,(aT a m k).getD z)])[j]? with
   |none=>
    rw[List.getElem?_eq_none_iff] at hq
    rw[List.getElem?_eq_none (by simpa using hq)];rfl
   |some q=>
    have dK:=(List.getElem?_eq_some_iff.1 hq).1
    have dK:j<m.length:=by simp at dK;omega
    rw[List.getElem?_append_left dK] at hq ⊢
    rw[hq];rfl
 ·have dK:=(List.getElem?_eq_some_iff.1 h2).1
  rw[h3,h3]
  apply List.ext_getElem?
  intro j
  rw[List.getElem?_modify]
  by_cases hj:jO a m k=j
  ·subst hj;simp[dK]
  ·simp only[hj,if_false]
   rw[List.getElem?_set_ne hj,List.getElem?_set_ne hj]
   cases m[j]? <;>rfl
theorem qk (h:a.isKey=true) (m:List (a.den×β)) (k:a.den) (v:β) (hn:(m.map Prod.fst).Nodup):((dc a m k v).map Prod.fst).Nodup:=by
 rcases ux h m k with ⟨h1,h2,h3,h4,h5⟩|⟨v0,h1,h2,h3,h4,h5⟩
 ·rw[h2,List.map_append,List.nodup_append]
  refine⟨hn,by simp,fun x hx y hy=> ?_⟩
  obtain⟨z,hz,rfl⟩:=List.mem_map.1 hx
  simp only[List.map_cons,List.map_nil,List.mem_singleton] at hy
  subst hy
  exact h5 z hz
 ·rw[h3]
  have:(m.set (jO a m k) (k,v)).map Prod.fst=m.map Prod.fst:=by
   apply List.ext_getElem?
   intro i
   simp only[List.getElem?_map,List.getElem?_set]
   split
   ·rename_i hi
    subst hi
    split
    ·rw[h2];rfl
    ·rename_i dK;rw[List.getElem?_eq_none (by omega)]
   ·rfl
  rw[this]
  exact hn
theorem tF (m:List (a.den×β)) (k:a.den) (h:a.isKey=true) (hn:(m.map Prod.fst).Nodup):((iQ a m k).map Prod.fst).Nodup:=by
 rcases ux h m k with ⟨h1,h2,h3,h4,h5⟩|⟨v0,h1,h2,h3,h4,h5⟩
 ·rw[h3];exact hn
 ·rw[h4]
  exact((List.eraseIdx_sublist _ _).map _).nodup hn
theorem z6 (h:a.isKey=true):∀(m:List (a.den×β)) (k k':a.den),(m.map Prod.fst).Nodup→aT a (iQ a m k) k'=bif a.iW k' k then none else aT a m k'
 |[],k,k',_=>by simp[iQ,aT]
 |x::m,k,k',hn=>by
  simp only[List.map_cons,List.nodup_cons] at hn
  have ih:=z6 h m k k' hn.2
  simp only[iQ]
  cases hb:a.iW k x.1 with
  |true=>
   have e:=(Ty.nP h k x.1).1 hb
   subst e
   simp only[cond_true,aT]
   cases hc:a.iW k' x.1 with
   |true=>
    have e:=(Ty.nP h k' x.1).1 hc
    subst e
    simp only[cond_true]
    cases hg:aT a m x.1 with
    |none=>rfl
    |some v=>exact absurd (List.mem_map.2 ⟨_,fI h hg,rfl⟩) hn.1
   |false=>rfl
  |false=>
   simp only[cond_false,aT,ih]
   cases hc:a.iW k' x.1 with
   |true=>
    have e:=(Ty.nP h k' x.1).1 hc
    subst e
    have:a.iW x.1 k=false:=by
     cases hd:a.iW x.1 k with
     |false=>rfl
     |true=>
      have e:=(Ty.nP h x.1 k).1 hd
      rw[←e,(Ty.nP h x.1 x.1).2 rfl] at hb
      cases hb
    rw[this];rfl
   |false=>rfl
theorem uw (h:a.isKey=true) {m0 m:List (a.den×β)} (hn:(m0.map Prod.fst).Nodup) (hp:m0.Perm m) (k:a.den):aT a m0 k=aT a m k:=by
 have hm:(m.map Prod.fst).Nodup:=(hp.map _).nodup_iff.1 hn
 cases h1:aT a m0 k with
 |some v=>exact(o2 h hm (hp.mem_iff.1 (fI h h1))).symm
 |none=>
  cases h2:aT a m k with
  |none=>rfl
  |some v=>rw[o2 h hn (hp.mem_iff.2 (fI h h2))] at h1;cases h1
theorem AP (h:a.isKey=true) {m0 m:List (a.den×β)} (hn:(m0.map Prod.fst).Nodup) (hm:(m.map Prod.fst).Nodup) (hg:∀k,aT a m0 k=aT a m k):m0.Perm m:=by
 have nd:∀{l:List (a.den×β)},(l.map Prod.fst).Nodup→l.Nodup:=fun {l} h=>by
  have h:(l.map Prod.fst).Pairwise (· ≠ ·):=h
  rw[List.pairwise_map] at h
  exact h.imp fun jS e=>jS (by rw[e])
 refine(List.perm_ext_iff_of_nodup (nd hn) (nd hm)).2 fun x=> ?_
 obtain⟨k,v⟩:=x
 constructor
 ·intro hx
  exact fI h (by rw[←hg];exact o2 h hn hx)
 ·intro hx
  exact fI h (by rw[hg];exact o2 h hm hx)
theorem HB (h:a.isKey=true) {m0 m:List (a.den×β)} (hn:(m0.map Prod.fst).Nodup) (hp:m0.Perm m) (k:a.den) (v:β):(dc a m0 k v).Perm (dc a m k v):=by
 have hm:(m.map Prod.fst).Nodup:=(hp.map _).nodup_iff.1 hn
 exact AP h (qk h _ _ _ hn) (qk h _ _ _ hm) fun k'=>by rw[wz h,wz h,uw h hn hp]
theorem Rr (h:a.isKey=true) {m0 m:List (a.den×β)} (hn:(m0.map Prod.fst).Nodup) (hp:m0.Perm m) (k:a.den) (z:β):(rl a m0 k z).Perm (rl a m k z):=by
 unfold rl
 rw[uw h hn hp]
 exact HB h hn hp _ _
theorem Rs (h:a.isKey=true) {m0 m:List (a.den×β)} (hn:(m0.map Prod.fst).Nodup) (hp:m0.Perm m) (k:a.den):(iQ a m0 k).Perm (iQ a m k):=by
 have hm:(m.map Prod.fst).Nodup:=(hp.map _).nodup_iff.1 hn
 exact AP h (tF _ _ h hn) (tF _ _ h hm) fun k'=>by rw[z6 h _ _ _ hn,z6 h _ _ _ hm,uw h hn hp]
theorem OY (h:a.isKey=true) (m:List (a.den×β)) (k:a.den) (z:β):((rl a m k z)[jO a m k]?).map Prod.fst=some k:=by
 unfold rl
 rcases ux h m k with ⟨h1,h2,h3,h4,h5⟩|⟨v0,h1,h2,h3,h4,h5⟩
 ·rw[h2,h4];simp
 ·have dK:=(List.getElem?_eq_some_iff.1 h2).1
  rw[h3,List.getElem?_set_self dK];rfl
end
end Go.Vc
end

section
set_option linter.unusedVariables false
set_option linter.unusedSimpArgs false
namespace Go.Vc
open Go
inductive TD where
 |int (k:IntKind)
 |bool
 |str
 |slice (e:Nat)
 |struct (fs:List (Nat×Nat×Nat))
 |plain
 |vM
 |array (n e:Nat)
 |map (k e:Nat)
 |other
structure TI where
 id:Nat
 d:TD
 size:Nat
 bytes:Nat
 zero:Value
 ty:Option Ty
 eq:Bool
def j6 (P:Program) (t:Nat):TD:=
 match P.underlying t with
 |some (.int k)=> .int k
 |some .bool=> .bool
 |some .string=> .str
 |some (.slice e)=> .slice e
 |some (.struct fs)=> .struct (fs.toList.map fun f=>(f.offset,P.cellsOf f.type,f.type))
 |some (.pointer _)=> .vM
 |some (.array n e)=> .array n e
 |some (.map k e)=> .map k e
 |some (.func _ _ _)=> .plain
 |_=> .other
def L7:List TI→Nat→Option TI
 |[],_=>none
 |i::l,t=>match Nat.beq i.id t with
  |true=>some i
  |false=>L7 l t
def uu (P:Program) (t:Nat):Bool:=
 !P.eqGuardType P.depth t&& !P.stoodInHeld t&&(match P.underlying t with
  |some (.struct fs)=>fs.toList.all fun f=>f.name !="_"
  |_=>false)
structure dt (P:Program) (ay:List TI):Prop where
 Wu:ay.map (fun i=>j6 P i.id)=ay.map (fun i=>i.d)
 infos:ay.map (fun i=>(P.info? i.id).map fun j=>(j.size,j.bytes,j.zero))=ay.map (fun i=>some (i.size,i.bytes,some i.zero))
 eqs:ay.map (fun i=>uu P i.id)=ay.map (fun i=>i.eq)
 mixed:P.follows .mixedOrders=true
def GH:Value→Option C
 | .bool b=>some (.aC .bool b)
 | .int k n=>(match decide (k.min≤n)&&decide (n≤k.max) with
  |true=>some (.aC (.int k) n)
  |false=>none)
 | .string s=>(match Nat.ble s.data.toList.length aK with
  |true=>some (.aC .str s.data.toList)
  |false=>none)
 | .slice none 0 0=>some .km
 | .pointer none=>some .oZ
 | .nilFunc=>some .Hv
 | .map none=>some .pP
 |_=>none
def lY:List Value→Option (List C)
 |[]=>some []
 |v::vs=>match GH v,lY vs with
  |some c,some cs=>some (c::cs)
  |_,_=>none
def IF:Value→Option SV
 | .agg vs=>(lY vs.toList).map .agg
 |v=>(GH v).map .one
def RM.ofOption {α:Type}:Option α→RM α
 |some a=> .ret a
 |none=> .fail
def Sa (ex:c8):Operand→RM SV
 | .tmp t=> .slot ex t .ret
 | .const v=>RM.ofOption (IF v)
 | .func f=> .ret (.one (.aC (.lD f .unit) ()))
 |_=> .fail
def ev (x:Operand):RM SV:=Sa [] x
def asC:SV→RM C
 | .one c=> .ret c
 |_=> .fail
def lC (x:Operand):RM C:=do asC (←ev x)
def oK:SV→RM (List C)
 | .one c=> .ret [c]
 | .agg cs=> .ret cs
 |_=> .fail
def JK:SV→RM Bool
 | .one (.aC .bool b)=> .ret b
 |_=> .fail
def BY:SV→RM Int
 | .one (.aC (.int _) n)=> .ret n
 |_=> .fail
abbrev hY:=List (Nat×c5)
def cR (b:Bool):RM Unit:=
 match b with
 |true=> .ret ()
 |false=> .fail
def DB {t:Ty} (xs:List t.den) (i:Nat):t.den:=xs.getD i t.Dh
def lit {t:Ty} (x:List t.den):(Ty.list t).den:=x
def oT (t:Ty):C→RM (t.den×hY)
 | .aC _ x=>do return (←RM.ofOption (Ty.as t x),[])
 | .row tt b=> .bc b fun
  | .row _ e t' xs=>(match tt.beq t' with
   |true=>do return (←RM.ofOption (Ty.as (a:= .list t') t (lit xs)),[(b,.row true e t' xs)])
   |false=> .fail)
  |_=> .fail
 | .sub tt b lo len=> .bc b fun
  | .row _ e t' xs=>(match tt.beq t' with
   |true=>do return (←RM.ofOption (Ty.as (a:= .list t') t (lit ((xs.drop lo).take len))),[(b,.row true e t' xs)])
   |false=> .fail)
  |_=> .fail
 | .km=>(match t with
  | .list _=> .ret ([],[])
  |_=> .fail)
 | .oZ=>(match t with
  | .ptr _=> .ret (none,[])
  |_=> .fail)
 | .map _ _ n=> .bc n fun
  | .map _ a' b' m _=>do return (←RM.ofOption (Ty.as (a:= .map a' b') t m),[(n,.map true a' b' m none)])
  |_=> .fail
 | .pP=>(match t with
  | .map _ _=> .ret ([],[])
  |_=> .fail)
 |_=> .fail
def vn:hY→Nat→Bool
 |[],_=>true
 |(m,_)::l,n=>match Nat.beq m n with
  |true=>false
  |false=>vn l n
def Xp:c5→Bool
 | .im _ _=>true
 |_=>false
def noF:hY→Bool
 |[]=>true
 |(_,B)::l=> !Xp B&&noF l
def DD:hY→hY→Bool
 |[],_=>true
 |(m,B)::l,g=>(!Xp B||vn g m)&&DD l g
def o5 (f g:hY):Bool:=DD f g&&DD g f
def reify:(t:Ty)→List C→RM (t.den×hY)
 | .unit,cs=>(match cs with
  |[]=> .ret ((),[])
  |_=> .fail)
 | .pair a b,cs=>do
  let x ←reify a (cs.take a.size)
  let y ←reify b (cs.drop a.size)
  cR (o5 x.2 y.2)
  return ((x.1,y.1),x.2++y.2)
 | .int k,cs=>(match cs with
  |[c]=>oT (.int k) c
  |_=> .fail)
 | .bool,cs=>(match cs with
  |[c]=>oT .bool c
  |_=> .fail)
 | .str,cs=>(match cs with
  |[c]=>oT .str c
  |_=> .fail)
 | .list t,cs=>(match cs with
  |[c]=>oT (.list t) c
  |_=> .fail)
 | .ref t,cs=>(match cs with
  |[.sN t' xs i o]=>(match Nat.beq o 0 with
   |true=>do return (←RM.ofOption (Ty.as (a:=t') t (DB xs i)),[])
   |false=> .fail)
  |[.ptr b o]=>(match Nat.beq o 0 with
   |true=> .bc b fun
    | .cells cs=>do
     let y ←reify t cs
     cR (vn y.2 b)
     return (y.1,y.2++[(b,.im t y.1)])
    | .im t' x=>do return (←RM.ofOption (Ty.as (a:=t') t x),[(b,.im t' x)])
    |_=> .fail
   |false=> .fail)
  |[c]=>oT (.ref t) c
  |_=> .fail)
 | .ptr t,cs=>(match cs with
  |[.sN t' xs i o]=>(match Nat.beq o 0 with
   |true=>do return (some (←RM.ofOption (Ty.as (a:=t') t (DB xs i))),[])
   |false=> .fail)
  |[.ptr b o]=>(match Nat.beq o 0 with
   |true=> .bc b fun
    | .cells cs=>do
     let y ←reify t cs
     cR (vn y.2 b)
     return (some y.1,y.2++[(b,.im t y.1)])
    | .im t' x=>do return (some (←RM.ofOption (Ty.as (a:=t') t x)),[(b,.im t' x)])
    |_=> .fail
   |false=> .fail)
  |[c]=>oT (.ptr t) c
  |_=> .fail)
 | .lD k t,cs=>(match cs with
  |[c]=>oT (.lD k t) c
  |_=> .fail)
 | .map a b,cs=>(match cs with
  |[c]=>oT (.map a b) c
  |_=> .fail)
def Ac:hY→RM Bool
 |[]=> .ret true
 |(b,_)::l=> .bc b fun
  | .im _ _=>Ac l
  |_=> .ret false
def CS (k:IntKind):List C→Option (List Int)
 |[]=>some []
 | .aC t x::l=>(match Ty.as (a:=t) (.int k) x with
  |some y=>(match CS k l with
   |some ys=>some (Ty.I y::ys)
   |none=>none)
  |none=>none)
 |_::_=>none
structure b7 where
 val:Option SV:=none
 ck:List (Nat×c5):=[]
 del:List Nat:=[]
 new:List Nat:=[]
 conds:List Prop:=[]
def kH (v:SV):RM b7:= .ret {val:=some v}
def cH (c:C):RM b7:= .ret {val:=some (.one c)}
def oV (p:Prop) (c:C):RM b7:= .ret {val:=some (.one c),conds:=[p]}
structure SK where
 run:List SV→Nat→RM b7
structure Ctx where
 ay:List TI
 dy:Nat→Option SK
 wraps:List Nat:=[]
 clos:List (Nat×Ty):=[]
 mclos:List Nat:=[]
def ti (X:Ctx) (t:Nat):RM TI:=RM.ofOption (L7 X.ay t)
def aft:TD→Bool
 | .struct _=>true
 |_=>false
def CC (d:TD) (cs:List C):RM SV:=
 match d with
 | .struct _=> .ret (.agg cs)
 | .array _ _=> .ret (.agg cs)
 | .other=> .fail
 |_=>(match cs with
  |[c]=> .ret (.one c)
  |_=> .fail)
def G0 (t:Ty) (x:t.den):SV:=
 match t.isAgg with
 |true=> .agg (flat t x)
 |false=>(match flat t x with
  |[c]=> .one c
  |_=> .one (.aC t x))
def I8 (t:Ty):SV→RM (List C)
 | .one c=>(match t.isAgg with
  |true=> .fail
  |false=> .ret [c])
 | .agg cs=>(match t.isAgg with
  |true=> .ret cs
  |false=> .fail)
 |_=> .fail
def Ss (n size e:Nat):List (Nat×Nat×Nat):=(List.range n).map fun i=>(i*size,size,e)
def qy (cs:List C) (o:Nat) (ds:List C):List C:=cs.take o++ds++cs.drop (o+ds.length)
def Gx:IntKind→IntKind→Bool
 | .u8,.u8| .u8,.u16| .u8,.u32| .u8,.u64| .u8,.i16| .u8,.i32| .u8,.i64=>true
 | .u16,.u16| .u16,.u32| .u16,.u64| .u16,.i32| .u16,.i64=>true
 | .u32,.u32| .u32,.u64| .u32,.i64=>true
 | .u64,.u64=>true
 | .i8,.i8| .i8,.i16| .i8,.i32| .i8,.i64=>true
 | .i16,.i16| .i16,.i32| .i16,.i64=>true
 | .i32,.i32| .i32,.i64=>true
 | .i64,.i64=>true
 |_,_=>false
def bitsOf (op:BinOp) (k:IntKind) (x y:Int):Int:=
 match op with
 | .and=>k.wrap ((BitVec.ofInt k.bits x&&&BitVec.ofInt k.bits y).toNat)
 | .or=>k.wrap ((BitVec.ofInt k.bits x|||BitVec.ofInt k.bits y).toNat)
 | .xor=>k.wrap ((BitVec.ofInt k.bits x ^^^ BitVec.ofInt k.bits y).toNat)
 |_=>k.wrap ((BitVec.ofInt k.bits x&&& ~~~ (BitVec.ofInt k.bits y)).toNat)
def arith (w:Bool) (k:IntKind) (n:Int):RM b7:=
 match w|| !k.signed with
 |true=>cH (.aC (.int k) (k.wrap n))
 |false=>oV (bq k n) (.aC (.int k) n)
def RE (w:Bool) (op:BinOp) (k:IntKind) (a b:Int):RM b7:=
 match op with
 | .add=>arith w k (a+b)
 | .sub=>arith w k (a - b)
 | .mul=>arith w k (a*b)
 | .quo=> .ret {val:=some (.one (.aC (.int k) (k.wrap (a.tdiv b)))),conds:=[b≠0]}
 | .rem=> .ret {val:=some (.one (.aC (.int k) (a.tmod b))),conds:=[b≠0]}
 | .and=>cH (.aC (.int k) (bitsOf .and k a b))
 | .or=>cH (.aC (.int k) (bitsOf .or k a b))
 | .xor=>cH (.aC (.int k) (bitsOf .xor k a b))
 | .andNot=>cH (.aC (.int k) (bitsOf .andNot k a b))
 | .eql=>cH (.aC .bool (a==b))
 | .neq=>cH (.aC .bool (a !=b))
 | .lss=>cH (.aC .bool (decide (a<b)))
 | .leq=>cH (.aC .bool (decide (a≤b)))
 | .gtr=>cH (.aC .bool (decide (a>b)))
 | .geq=>cH (.aC .bool (decide (a≥b)))
 |_=> .fail
def G6 (op:BinOp) (k:IntKind) (a b:Int):RM b7:=
 match op with
 | .shl=> .ret {val:=some (.one (.aC (.int k) (k.wrap (a*2 ^ (min b.toNat k.bits))))),conds:=[0≤b]}
 | .shr=> .ret {val:=some (.one (.aC (.int k) (a.fdiv (2 ^ (min b.toNat k.bits))))),conds:=[0≤b]}
 |_=> .fail
def QG (op:BinOp) (a b:List UInt8):RM b7:=
 match op with
 | .add=>oV (a.length+b.length≤aK) (.aC .str (a++b))
 | .eql=>cH (.aC .bool (a==b))
 | .neq=>cH (.aC .bool (!(a==b)))
 | .lss=>cH (.aC .bool (Op.bytesLess a b))
 |_=> .fail
def Vz:TD→C→C→Option Bool
 | .int _,.aC (.int j) a,.aC (.int k) b=>(match pE j k with
  |true=>some (Ty.I a==Ty.I b)
  |false=>none)
 | .bool,.aC .bool a,.aC .bool b=>some (Ty.B a==Ty.B b)
 | .str,.aC .str a,.aC .str b=>some (Ty.S a==Ty.S b)
 |_,_,_=>none
def Xo:BinOp→Bool
 | .shl| .shr=>true
 |_=>false
def Gs (op:BinOp) (b:Bool):RM b7:=
 match op with
 | .eql=>cH (.aC .bool b)
 | .neq=>cH (.aC .bool (!b))
 |_=> .fail
def Xa (op:BinOp):C→RM b7
 | .aC (.ptr t) o=>Gs op (Option.isNone (α:=t.den) o)
 | .ptr _ _| .mw _ _ _ _| .sN _ _ _ _=>Gs op false
 |_=> .fail
def LR (w:Bool) (op:BinOp):SV→SV→RM b7
 | .one (.aC (.int j) a),.one (.aC (.int k) b)=>(match Xo op with
  |true=>G6 op j a b
  |false=>(match pE j k with
   |true=>RE w op j a b
   |false=> .fail))
 | .one (.aC .str a),.one (.aC .str b)=>QG op a b
 | .one (.aC .bool a),.one (.aC .bool b)=>(match op with
  | .eql=>cH (.aC .bool (Ty.B a==Ty.B b))
  | .neq=>cH (.aC .bool (!(Ty.B a==Ty.B b)))
  |_=> .fail)
 |_,_=> .fail
def eqFields (X:Ctx):List (Nat×Nat×Nat)→List C→List C→RM Bool
 |[],_,_=> .ret true
 |(off,_,t)::fs,cs,ds=>do
  let i ←ti X t
  match cs[off]?,ds[off]? with
  |some c,some d=>(do
   let b ←RM.ofOption (Vz i.d c d)
   let r ←eqFields X fs cs ds
   return (b&&r))
  |_,_=> .fail
def nG (X:Ctx):List (Nat×Nat×Nat)→List C→List C→RM Bool
 |[],_,_=> .ret true
 |(off,size,t)::fs,cs,ds=>do
  let i ←ti X t
  match i.d with
  | .struct gs=>(do
   cR (i.eq&&(Nat.beq i.size size&&(Nat.ble (off+size) cs.length&&Nat.ble (off+size) ds.length)))
   let b ←eqFields X gs ((cs.drop off).take size) ((ds.drop off).take size)
   let r ←nG X fs cs ds
   return (b&&r))
  |_=>match cs[off]?,ds[off]? with
   |some c,some d=>(do
    let b ←RM.ofOption (Vz i.d c d)
    let r ←nG X fs cs ds
    return (b&&r))
   |_,_=> .fail
def uE:C→RM b7
 | .aC (.list _) xs=>cH (.aC (.int .i64) ((Ty.L xs).length:Int))
 | .aC .str s=>cH (.aC (.int .i64) ((Ty.S s).length:Int))
 | .row tt b=> .bc b fun
  | .row _ _ t xs=>(match tt.beq t with
   |true=>cH (.aC (.int .i64) (xs.length:Int))
   |false=> .fail)
  |_=> .fail
 | .sub _ _ _ len=>cH (.aC (.int .i64) (len:Int))
 | .km=>cH (.aC (.int .i64) (0:Int))
 |_=> .fail
def aQ (n:Int) (len:Nat):Prop:=0≤n∧n<len
def MR (size:Nat) (n:Int):C→RM b7
 | .aC (.list t) xs=>(match Nat.beq size t.size with
  |true=>oV (aQ n (Ty.L xs).length) (.sN t xs n.toNat 0)
  |false=> .fail)
 | .row tt b=> .bc b fun
  | .row _ _ t xs=>(match Nat.beq size t.size&&tt.beq t with
   |true=>oV (aQ n xs.length) (.mw t b n.toNat 0)
   |false=> .fail)
  |_=> .fail
 | .sub tt b lo len=> .bc b fun
  | .row _ _ t _=>(match Nat.beq size t.size&&tt.beq t with
   |true=>oV (aQ n len) (.mw t b (lo+n.toNat) 0)
   |false=> .fail)
  |_=> .fail
 |_=> .fail
def CI (size:Nat):C→RM (List C)
 | .ptr b o=> .bc b fun
  | .cells cs=> .ret ((cs.drop o).take size)
  | .im t x=> .ret (((flat t x).drop o).take size)
  |_=> .fail
 | .mw tt b i o=> .bc b fun
  | .row _ _ t xs=>(match tt.beq t with
   |true=> .ret (((flat t (DB xs i)).drop o).take size)
   |false=> .fail)
  |_=> .fail
 | .sN t xs i o=> .ret (((flat t (DB xs i)).drop o).take size)
 |_=> .fail
def MS (size len:Nat) (n:Int):C→RM b7
 | .mw tt b i o=> .bc b fun
  | .row _ _ t xs=>(match Nat.beq i 0&&(Nat.beq o 0&&(Nat.beq size t.size&&tt.beq t)) with
   |true=>oV (aQ n len∧xs.length=len) (.mw t b n.toNat 0)
   |false=> .fail)
  |_=> .fail
 |_=> .fail
def zM (size:Nat) (cs:List C):C→RM b7
 | .ptr b o=> .bc b fun
  | .cells k9=>(match Nat.beq cs.length size&&Nat.ble (o+size) k9.length with
   |true=> .ret {ck:=[(b,.cells (qy k9 o cs))]}
   |false=> .fail)
  |_=> .fail
 | .mw tt b i o=> .bc b fun
  | .row false e t xs=>(match tt.beq t&&Nat.beq cs.length size&&Nat.ble (o+size) t.size with
   |true=>(match Nat.beq size t.size with
    |true=>do
     let y ←reify t cs
     cR (vn y.2 b)
     .ret {ck:=y.2++[(b,.row false e t (xs.set i y.1))]}
    |false=>do
     let y ←reify t (qy (flat t (DB xs i)) o cs)
     cR (vn y.2 b)
     .ret {ck:=y.2++[(b,.row false e t (xs.set i y.1))]})
   |false=> .fail)
  |_=> .fail
 |_=> .fail
def C0:List C→Option (Ty×Nat×Nat)
 |[.sub tt sb lo len]=>(match lo with
  |0=>some (tt,sb,len)
  |_+1=>none)
 |_=>none
def storeT (size:Nat) (cs:List C) (tt:Ty) (sb len:Nat):C→RM b7
 | .ptr bb o=> .bc sb fun
  | .row false e t xs=> .bc bb fun
   | .cells k9=>(match tt.beq t&&(Nat.beq size 1&&(Nat.ble (o+1) k9.length&& !Nat.beq bb sb)) with
    |true=> .ret {ck:=[(sb+7000000,.row false e t (xs.take len)),(bb,.cells (qy k9 o [.row t (sb+7000000)]))],del:=[sb],new:=[sb+7000000],conds:=[0<xs.length]}
    |false=> .fail)
   |_=> .fail
  |_=>zM size cs (.ptr bb o)
 |c=>zM size cs c
def cut {α:Type} (xs:List α) (lo hi:Option Int):List α:=
 match lo,hi with
 |none,none=>xs
 |some l,none=>xs.drop l.toNat
 |none,some h=>xs.take h.toNat
 |some l,some h=>(xs.take h.toNat).drop l.toNat
def p8 (len:Nat):Option Int→Option Int→List Prop
 |none,none=>[]
 |some l,none=>[0≤l∧l≤len]
 |none,some h=>[0≤h∧h≤len]
 |some l,some h=>[0≤l∧l≤h,h≤len]
def fZ:Option Int→Nat
 |none=>0
 |some l=>l.toNat
def gW (len:Nat):Option Int→Option Int→Nat
 |none,none=>len
 |some l,none=>len - l.toNat
 |none,some h=>h.toNat
 |some l,some h=>h.toNat - l.toNat
def Vy:Option Operand→RM (Option Int)
 |none=> .ret none
 |some x=>do return some (←BY (←ev x))
def pN (lo hi:Option Int):C→RM b7
 | .aC (.list t) xs=> .ret {val:=some (.one (.aC (.list t) (cut (Ty.L xs) lo hi))),conds:=p8 (Ty.L xs).length lo hi}
 | .aC .str s=> .ret {val:=some (.one (.aC .str (cut (Ty.S s) lo hi))),conds:=p8 ((Ty.S s).length) lo hi}
 | .row tt b=> .bc b fun
  | .row _ _ t xs=>(match tt.beq t with
   |true=> .ret {val:=some (.one (.sub t b (fZ lo) (gW xs.length lo hi))),conds:=p8 xs.length lo hi}
   |false=> .fail)
  |_=> .fail
 | .sub t b l len=> .ret {val:=some (.one (.sub t b (l+fZ lo) (gW len lo hi))),conds:=p8 len lo hi}
 |_=> .fail
def Of (t:Ty):C→RM (List t.den)
 | .aC (.list t') xs=>RM.ofOption (Ty.as (a:= .list t') (.list t) xs)
 | .row tt b=> .bc b fun
  | .row _ _ t' xs=>(match tt.beq t' with
   |true=>RM.ofOption (Ty.as (a:= .list t') (.list t) (lit xs))
   |false=> .fail)
  |_=> .fail
 | .sub tt b lo len=> .bc b fun
  | .row _ _ t' xs=>(match tt.beq t' with
   |true=>RM.ofOption (Ty.as (a:= .list t') (.list t) (lit ((xs.drop lo).take len)))
   |false=> .fail)
  |_=> .fail
 | .km=> .ret []
 |_=> .fail
def roomFor (n bytes:Nat):Prop:=n*(bytes+1)≤140737488355328
def Jc (d e:Nat) (i:TI) (t:Ty) (s x:C):RM b7:=do
 let ys ←Of t x
 match s with
 | .km=> .ret {val:=some (.one (.row t d)),ck:=[(d,.row false e t ys)],new:=[d],conds:=[roomFor ys.length i.bytes]}
 | .row tt b=> .bc b fun
  | .row false e' t' xs=>(match tt.beq t'&&Nat.beq e e' with
   |true=>do
    let zs ←RM.ofOption (Ty.as (a:= .list t') (.list t) (lit xs))
    .ret {val:=some (.one (.row t d)),ck:=[(d,.row false e t (Ty.L zs++ys))],del:=[b],new:=[d],conds:=[roomFor ((Ty.L zs).length+ys.length) i.bytes]}
   |false=> .fail)
  |_=> .fail
 |_=> .fail
def u3 (fs:List (Nat×Nat×Nat)):List (Nat×Operand)→List C→RM (List C)
 |[],cs=> .ret cs
 |(i,x)::ps,cs=>do
  let v ←oK (←ev x)
  match fs[i]? with
  |some (off,size,_)=>(match Nat.beq v.length size&&Nat.ble (off+size) cs.length with
   |true=>u3 fs ps (qy cs off v)
   |false=> .fail)
  |none=> .fail
def q7 (t:Ty):List (Nat×Operand)→List t.den→RM (List t.den×hY)
 |[],xs=> .ret (xs,[])
 |(i,x)::ps,xs=>do
  let v ←oK (←ev x)
  let y ←reify t v
  cR (Nat.blt i xs.length)
  let r ←q7 t ps (xs.set i y.1)
  cR (o5 y.2 r.2)
  return (r.1,y.2++r.2)
def tX (j:TI) (ty:Ty):RM ty.den:=do
 let cs ←RM.ofOption (lY j.zero.cells.toList)
 cR (Nat.beq cs.length j.size&&Nat.beq ty.size j.size&&Nat.blt 0 j.size)
 let z ←reify ty cs
 cR z.2.isEmpty
 return z.1
def uV (t:Ty):Nat→List C→RM (List t.den)
 |0,cs=>(match cs with
  |[]=> .ret []
  |_::_=> .fail)
 |n+1,cs=>do
  let y ←reify t (cs.take t.size)
  cR y.2.isEmpty
  let r ←uV t n (cs.drop t.size)
  return y.1::r
def sM:List Operand→RM (List SV)
 |[]=> .ret []
 |x::xs=>do
  let v ←ev x
  let vs ←sM xs
  return (v::vs)
def L9 (n size:Nat) (cs:List C):C→RM b7
 | .mw tt b i o=> .bc b fun
  | .row false e t xs=>(match tt.beq t&&(Nat.beq i 0&&(Nat.beq o 0&&(Nat.beq cs.length (n*t.size)&&Nat.beq cs.length size))) with
   |true=>do
    let ys ←uV t n cs
    .ret {ck:=[(b,.row false e t ys)],conds:=[xs.length=n]}
   |false=> .fail)
  |_=> .fail
 |_=> .fail
def Gm:TD→Ty→Bool
 | .int j,.int k=>pE j k
 | .bool,.bool=>true
 | .str,.str=>true
 |_,_=>false
def yQ (X:Ctx):List (Nat×Nat×Nat)→Ty→Nat→RM Unit
 |[],t,_=>(match t with
  | .unit=> .ret ()
  |_=> .fail)
 |(off,_,tf)::fs,t,o=>(match t with
  | .pair a b=>do
   let i ←ti X tf
   cR (Nat.beq off o&&Gm i.d a)
   yQ X fs b (o+1)
  |t=>do
   let i ←ti X tf
   cR (Nat.beq off o&&(fs.isEmpty&&Gm i.d t)))
def RC (X:Ctx) (kt:Nat) (a:Ty):RM Unit:=do
 let i ←ti X kt
 match i.d with
 | .struct fs=>(do
  cR i.eq
  cR a.isAgg
  yQ X fs a 0)
 |d=>cR (Gm d a)
def CK (X:Ctx) (kt:Nat) (a:Ty) (x:Operand):RM a.den:=do
 RC X kt a
 let y ←reify a (←I8 a (←ev x))
 cR y.2.isEmpty
 return y.1
def akk:Value→Bool
 | .agg _=>true
 |_=>false
def GP (X:Ctx) (et:Nat) (b:Ty):RM b.den:=do
 let l ←ti X et
 cR (akk l.zero==b.isAgg)
 tX l b
def qO (X:Ctx) (t:Nat):RM (Nat×Nat):=do
 let i ←ti X t
 match i.d with
 | .map k e=> .ret (k,e)
 |_=> .fail
def MD (X:Ctx) (kt et:Nat) (ok:Bool) (ix:Operand) (a b:Ty) (m:List (a.den×b.den)):RM b7:=do
 let k ←CK X kt a ix
 let z ←GP X et b
 match ok with
 |true=>kH (.yb [(b.isAgg,flat b ((aT a m k).getD z)),(false,[.aC .bool (aT a m k).isSome])])
 |false=>kH (G0 b ((aT a m k).getD z))
def HG (X:Ctx) (kt et:Nat) (ok:Bool) (ix:Operand):C→RM b7
 | .map _ _ n=> .bc n fun
  | .map _ a b m _=>MD X kt et ok ix a b m
  |_=> .fail
 | .aC (.map a b) m=>MD X kt et ok ix a b m
 |_=> .fail
def Mi (d:Nat):C→RM b7
 | .aC (.map a b) m=> .ret {val:=some (.one (.ptr d 0)),ck:=[(d,.iter a b m none)],new:=[d]}
 | .map _ _ n=> .bc n fun
  | .map _ a b m _=> .ret {val:=some (.one (.ptr d 0)),ck:=[(n,.map true a b m none),(d,.iter a b m none)],new:=[d]}
  |_=> .fail
 |_=> .fail
def Nv:C→RM b7
 | .ptr d o=> .bc d fun
  | .iter a b _ cur=>(match Nat.beq o 0,cur with
   |true,some x=>kH (.yb [(a.isAgg,flat a x.1),(b.isAgg,flat b x.2)])
   |_,_=> .fail)
  |_=> .fail
 |_=> .fail
def rV (k:(n:Nat)→(a b:Ty)→List (a.den×b.den)→Option (Nat×Nat)→RM b7):C→RM b7
 | .map _ _ n=> .bc n fun
  | .map false a b m cur=>k n a b m cur
  |_=> .fail
 |_=> .fail
def JQ (b:Ty) (n:Nat) (v:Operand):RM (b.den×hY):=do
 let y ←reify b (←I8 b (←ev v))
 cR (vn y.2 n)
 return y
def I9:C→RM Nat
 | .xb d=> .ret d
 |_=> .fail
def tB:List SV→RM (List C)
 |[]=> .ret []
 |v::vs=>do
  let c ←asC v
  let cs ←tB vs
  return (c::cs)
def Dm:(t:Ty)→t.den→Option (List SV)
 | .unit,_=>some []
 | .pair a b,x=>(match flat a x.1,Dm b x.2 with
  |[c],some vs=>some (.one c::vs)
  |_,_=>none)
 |_,_=>none
def Cs:List C→RM (List Nat)
 |[]=> .ret []
 | .ptr b o::cs=>(match Nat.beq o 0 with
  |true=>do
   let bs ←Cs cs
   return (b::bs)
  |false=> .fail)
 |_::_=> .fail
def Gt (big:Bool):SV→SV→RM b7
 | .one (.aC (.int j) a),.one (.aC (.int k) b)=>(match pE j k with
  |true=>(match big with
   |true=>cH (.aC (.int j) (max (Ty.I a) (Ty.I b)))
   |false=>cH (.aC (.int j) (min (Ty.I a) (Ty.I b))))
  |false=> .fail)
 |_,_=> .fail
def fE (X:Ctx) (o:Oper):RM b7:=
 let d:=o.dst.getD 0
 match o.op with
 | .move x| .assign x=>do kH (←ev x)
 | .pick (.tmp c) a b=>do
  let g ←JK (←ev (.tmp c))
  let x ←JK (←Sa [(c,true)] a)
  let y ←JK (←Sa [(c,false)] b)
  cH (.aC .bool (bif g then x else y))
 | .alloc t=>do
  let i ←ti X t
  match i.d with
  | .array n e=>(do
   let j ←ti X e
   let ty ←RM.ofOption j.ty
   let cs ←RM.ofOption (lY i.zero.cells.toList)
   cR (Nat.blt 0 n&&Nat.ble n 16777216)
   let xs ←uV ty n cs
   .ret {val:=some (.one (.mw ty d 0 0)),ck:=[(d,.row false t ty xs)],new:=[d]})
  |_=>(do
   let cs ←RM.ofOption (lY i.zero.cells.toList)
   .ret {val:=some (.one (.ptr d 0)),ck:=[(d,.cells cs)],new:=[d]})
 | .box t x=>do
  let cs ←oK (←ev x)
  .ret {val:=some (.one (.ptr d 0)),ck:=[(d,.cells cs)],new:=[d]}
 | .build t ps=>do
  let i ←ti X t
  match i.d with
  | .struct fs=>(do
   cR (fs.all fun f=>Nat.blt 0 f.2.1)
   let z ←RM.ofOption (lY i.zero.cells.toList)
   let cs ←u3 fs ps.toList z
   kH (.agg cs))
  | .array n e=>(do
   let j ←ti X e
   let z ←RM.ofOption (lY i.zero.cells.toList)
   let cs ←u3 (Ss n j.size e) ps.toList z
   kH (.agg cs))
  |_=> .fail
 | .buildSlice t n ps=>match o.guard with
  |none=>do
   let i ←ti X t
   match i.d with
   | .slice e=>(do
    let j ←ti X e
    let ty ←RM.ofOption j.ty
    cR (Nat.ble (n*j.size) 16777216)
    let z ←tX j ty
    let r ←q7 ty ps.toList (List.replicate n z)
    .ret {val:=some (.one (.row ty d)),ck:=r.2++[(d,.row false e ty r.1)],new:=[d]})
   |_=> .fail
  |some _=>do
   let i ←ti X t
   match i.d with
   | .slice e=>(do
    let j ←ti X e
    let ty ←RM.ofOption j.ty
    cR (Nat.ble (n*j.size) 16777216)
    let z ←tX j ty
    let r ←q7 ty ps.toList (List.replicate n z)
    cR r.2.isEmpty
    kH (.one (.aC (.list ty) r.1)))
   |_=> .fail
 | .load t a=>do
  let i ←ti X t
  let cs ←CI i.size (←lC a)
  cR (Nat.beq cs.length i.size)
  kH (←CC i.d cs)
 | .store t a v=>do
  let i ←ti X t
  let cs ←oK (←ev v)
  match i.d with
  | .array n _=>(do L9 n i.size cs (←lC a))
  |_=>(match C0 cs with
   |some (tt,sb,len)=>(do storeT i.size cs tt sb len (←lC a))
   |none=>(do zM i.size cs (←lC a)))
 | .nilCheck x=>do
  match ←lC x with
  | .ptr b o=>cH (.ptr b o)
  | .mw t b i o=>cH (.mw t b i o)
  | .sN t xs i o=>cH (.sN t xs i o)
  | .aC (.ptr t) x=> .ret {val:=some (.one (.sN t [x.getD t.Dh] 0 0)),conds:=[x≠none]}
  |_=> .fail
 | .makeFunc (.func k) first pR=>(match first.toList with
  |[]=>do
   let vs ←sM pR.toList
   let cs ←tB vs
   match has X.mclos k with
   |true=>do
    let bs ←Cs cs
    cH (.iz k bs)
   |false=>do
    let ty ←RM.ofOption (find X.clos k)
    let y ←reify ty cs
    match ←Ac y.2 with
    |true=>cH (.aC (.lD k ty) y.1)
    |false=> .ret {val:=some (.one (.aC (.lD k ty) y.1)),ck:=y.2}
  |_=> .fail)
 | .binOp op t x y _=>do
  let a ←ev x
  let b ←ev y
  match a,b with
  | .agg cs,.agg ds=>(do
   let i ←ti X t
   cR i.eq
   match op,i.d with
   | .eql,.struct fs=>(do cH (.aC .bool (←nG X fs cs ds)))
   | .neq,.struct fs=>(do cH (.aC .bool (!(←nG X fs cs ds))))
   |_,_=> .fail)
  | .one (.aC .bool _),.one (.aC .bool _)=>(do
   let i ←ti X t
   match i.d with
   | .bool=>LR (has X.wraps d) op a b
   |_=> .fail)
  | .one c,.one .oZ=>(do
   let i ←ti X t
   match i.d with
   | .vM=>Xa op c
   |_=> .fail)
  |_,_=>LR (has X.wraps d) op a b
 | .unOp op _ x=>do
  match op,←ev x with
  | .not,.one (.aC .bool b)=>cH (.aC .bool (!b))
  | .neg,.one (.aC (.int k) n)=>arith (has X.wraps d) k (0 - Ty.I n)
  |_,_=> .fail
 | .convert s t x=>do
  let i' ←ti X s
  let i ←ti X t
  match i'.d,i.d,←ev x with
  | .int _,.int k,.one (.aC (.int j) n)=>(match Gx j k with
   |true=>cH (.aC (.int k) n)
   |false=>cH (.aC (.int k) (k.wrap n)))
  | .slice e,.str,.one c=>(do
   let j ←ti X e
   match j.d with
   | .int .u8=>(do
    let ys ←Of (.int .u8) c
    cH (.aC .str (ys.map fun(n:Int)=>UInt8.ofNat n.toNat)))
   |_=> .fail)
  |_,_,_=> .fail
 | .makeSlice t l c=>do
  let i ←ti X t
  match i.d with
  | .slice e=>(do
   let j ←ti X e
   let ty ←RM.ofOption j.ty
   let n ←BY (←ev l)
   let m ←BY (←ev c)
   let z ←tX j ty
   .ret {val:=some (.one (.row ty d)),ck:=[(d,.row false e ty (List.replicate n.toNat z))],new:=[d],conds:=[0≤n∧n≤m,roomFor m.toNat j.bytes∧m≤aK]})
  |_=> .fail
 | .makeMap t none=>do
  let ke ←qO X t
  let j ←ti X ke.1
  let l ←ti X ke.2
  let a ←RM.ofOption j.ty
  let b ←RM.ofOption l.ty
  .ret {val:=some (.one (.map a b d)),ck:=[(d,.map false a b [] none)],new:=[d]}
 | .lookup t x ix ok=>do
  let ke ←qO X t
  HG X ke.1 ke.2 ok ix (←lC x)
 | .range t x=>do
  let _ ←qO X t
  Mi d (←lC x)
 | .entry it=>do Nv (←lC it)
 | .mapUpdate t m k v=>do
  let ke ←qO X t
  rV (fun n a b xs _=>do
   let x ←CK X ke.1 a k
   let y ←JQ b n v
   .ret {ck:=y.2++[(n,.map false a b (dc a xs x y.1) none)]}) (←lC m)
 | .mapEntry t m k=>do
  let ke ←qO X t
  rV (fun n a b xs _=>do
   let x ←CK X ke.1 a k
   let z ←GP X ke.2 b
   .ret {val:=some (.yb [(b.isAgg,flat b ((aT a xs x).getD z)),(false,[.xb d])]),ck:=[(n,.map false a b (rl a xs x z) (some (d,jO a xs x)))],new:=[d]}) (←lC m)
 | .entryStore _ m s v=>do
  let st ←I9 (←lC s)
  rV (fun n a b xs cur=>match cur with
   |some (d',i)=>(do
    cR (Nat.beq st d')
    let y ←JQ b n v
    .ret {ck:=y.2++[(n,.map false a b (sT xs i y.1) none)]})
   |none=> .fail) (←lC m)
 | .slice t x lo hi none=>do
  let i ←ti X t
  let c ←lC x
  let l ←Vy lo
  let h ←Vy hi
  match i.d,c with
  | .slice e,.aC (.list tt) _=>(do
   let j ←ti X e
   cR (Nat.beq tt.size j.size)
   pN l h c)
  | .slice e,.row tt _=>(do
   let j ←ti X e
   cR (Nat.beq tt.size j.size)
   pN l h c)
  | .slice e,.sub tt _ _ _=>(do
   let j ←ti X e
   cR (Nat.beq tt.size j.size)
   pN l h c)
  | .str,.aC .str _=>pN l h c
  |_,_=> .fail
 | .fieldAddr s x f=>do
  let i ←ti X s
  match i.d with
  | .struct fs=>(match fs[f]? with
   |some (off,size,_)=>(do
    cR (Nat.blt 0 size)
    match ←lC x with
    | .ptr b o=>cH (.ptr b (o+off))
    | .mw t b i o=>cH (.mw t b i (o+off))
    | .sN t xs i o=>cH (.sN t xs i (o+off))
    |_=> .fail)
   |none=> .fail)
  |_=> .fail
 | .field s x f=>do
  let i ←ti X s
  match i.d,←ev x with
  | .struct fs,.agg cs=>(match fs[f]? with
   |some (off,size,t)=>(do
    let j ←ti X t
    cR (Nat.ble (off+size) cs.length&&Nat.beq j.size size)
    kH (←CC j.d ((cs.drop off).take size)))
   |none=> .fail)
  |_,_=> .fail
 | .indexAddr t x ix=>do
  let i ←ti X t
  match i.d with
  | .slice e=>(do
   let j ←ti X e
   let c ←lC x
   MR j.size (←BY (←ev ix)) c)
  | .array n e=>(do
   let j ←ti X e
   let c ←lC x
   MS j.size n (←BY (←ev ix)) c)
  |_=> .fail
 | .index t x ix=>do
  let i ←ti X t
  match i.d,←ev x with
  | .str,.one (.aC .str s)=>(do
   let n ←BY (←ev ix)
   oV (aQ n ((Ty.S s).length)) (.aC (.int .u8) (((Ty.S s).getD n.toNat 0).toNat:Int)))
  | .array n e,.agg cs=>(do
   let j ←ti X e
   match j.d with
   | .int k=>(do
    cR (Nat.beq j.size 1&&Nat.beq n cs.length)
    let xs ←RM.ofOption (CS k cs)
    let m ←BY (←ev ix)
    oV (aQ m xs.length) (.aC (.int k) (xs.getD m.toNat 0)))
   |_=> .fail)
  |_,_=> .fail
 | .extract x k=>do
  match ←ev x with
  | .yb vs=>(match vs[k]? with
   |some (true,cs)=>kH (.agg cs)
   |some (false,[c])=>cH c
   |_=> .fail)
  |_=> .fail
 | .call {callee:= .value (.func f),args,.. }=>do
  let dy ←RM.ofOption (X.dy f)
  let vs ←sM args.toList
  dy.run vs d
 | .call {callee:= .value (.tmp f),args,.. }=>do
  match ←lC (.tmp f) with
  | .aC (.lD k ty) y=>(do
   let dy ←RM.ofOption (X.dy k)
   let vs ←sM args.toList
   let us ←RM.ofOption (Dm ty y)
   dy.run (vs++us) d)
  | .iz k bs=>(do
   let dy ←RM.ofOption (X.dy k)
   let vs ←sM args.toList
   dy.run (vs++bs.map fun b=> .one (.ptr b 0)) d)
  |_=> .fail
 | .call {callee:= .builtin .len,args,argTypes}=>(match args.toList,argTypes.toList with
  |[x],[t]=>(do
   let i ←ti X t
   let c ←lC x
   match i.d,c with
   | .str,.aC .str _=>uE c
   | .slice _,.aC (.list _) _=>uE c
   | .slice _,.row _ _=>uE c
   | .slice _,.sub _ _ _ _=>uE c
   | .slice _,.km=>uE c
   |_,_=> .fail)
  |_,_=> .fail)
 | .call {callee:= .builtin .max,args,.. }=>(match args.toList with
  |[x,y]=>(do Gt true (←ev x) (←ev y))
  |_=> .fail)
 | .call {callee:= .builtin .min,args,.. }=>(match args.toList with
  |[x,y]=>(do Gt false (←ev x) (←ev y))
  |_=> .fail)
 | .call {callee:= .builtin .delete,args,argTypes}=>(match args.toList,argTypes.toList with
  |[m,k],[t,_]=>(do
   let ke ←qO X t
   rV (fun n a b xs _=>do
    let x ←CK X ke.1 a k
    .ret {ck:=[(n,.map false a b (iQ a xs x) none)]}) (←lC m))
  |_,_=> .fail)
 | .call {callee:= .builtin .append,args,argTypes}=>(match args.toList,argTypes.toList with
  |[s,x],[t,u]=>(do
   cR (Nat.beq t u)
   let i ←ti X t
   match i.d with
   | .slice e=>(do
    let j ←ti X e
    let ty ←RM.ofOption j.ty
    let _ ←tX j ty
    let c ←lC s
    Jc d e j ty c (←lC x))
   |_=> .fail)
  |_,_=> .fail)
 |_=> .fail
end Go.Vc
end

section
set_option linter.unusedVariables false
set_option linter.unusedSimpArgs false
namespace Go.Vc
open Go
variable {P:Program} {X:Ctx} {w0:World} {foot:gF} {base:Mem} {S:St} {E:Env} {a:Act} {w:World} {ctx:c8}
theorem bY {α:Type} {x:Option α} {y:α} (h:(RM.ofOption x).run S ctx=some y):x=some y:=by
 cases x with
 |none=>cases h
 |some z=>exact h
theorem FP {v:Value} {c:C} (h:GH v=some c):gO E c v:=by
 unfold GH at h
 split at h
 ·cases h;exact⟨rfl,rfl⟩
 ·split at h
  ·rename_i k n hk
   cases h
   simp only[Bool.and_eq_true,decide_eq_true_eq] at hk
   exact⟨rfl,rfl,hk⟩
  ·cases h
 ·split at h
  ·rename_i s hs
   cases h
   exact⟨rfl,rfl,Nat.le_of_ble_eq_true hs⟩
  ·cases h
 ·cases h;rfl
 ·cases h;rfl
 ·cases h;rfl
 ·cases h;rfl
 ·cases h
theorem nI:∀{vs:List Value} {cs:List C},lY vs=some cs→b5 E cs vs
 |[],cs,h=>by cases h;rfl
 |v::vs,cs,h=>by
  unfold lY at h
  split at h
  ·rename_i c Yo h1 h2
   cases h
   exact⟨v,vs,rfl,FP h1,nI h2⟩
  ·cases h
theorem Ny {v:Value} {s:SV} (h:IF v=some s):ft E s v:=by
 unfold IF at h
 split at h
 ·obtain⟨cs,h1,rfl⟩:=Option.map_eq_some_iff.1 h
  exact⟨_,rfl,nI h1⟩
 ·obtain⟨c,h1,rfl⟩:=Option.map_eq_some_iff.1 h
  exact FP h1
theorem bo.sub {ts us:c8} (h:bo a us) (hs:Ci us ts=true):bo a ts:=fun t ht=>h t (ES hs t ht)
theorem Iw (h:SRel w0 foot base S E a w) {ex:c8} {x:Operand} {s:SV} (hc:bo a (ex++ctx)) (hr:(Sa ex x).run S ctx=some s):ft E s (a.eval x):=by
 unfold Sa at hr
 split at hr
 ·rename_i t
  simp only[RM.run] at hr
  split at hr
  ·rename_i tags v hf
   split at hr
   ·rename_i ht
    cases hr
    exact h.gZ _ _ _ hf (hc.sub ht)
   ·cases hr
  ·cases hr
 ·exact Ny (bY hr)
 ·cases hr
  exact⟨rfl, #[],rfl,rfl⟩
 ·cases hr
theorem gj (h:SRel w0 foot base S E a w) {x:Operand} {s:SV} (hc:bo a ctx) (hr:(ev x).run S ctx=some s):ft E s (a.eval x):=
 Iw h (ex:=[]) hc hr
theorem Qe {s:SV} {c:C} {v:Value} (hv:ft E s v) (hr:(asC s).run S ctx=some c):gO E c v:=by
 unfold asC at hr
 split at hr
 ·cases hr;exact hv
 ·cases hr
theorem gq (h:SRel w0 foot base S E a w) {x:Operand} {c:C} (hc:bo a ctx) (hr:(lC x).run S ctx=some c):gO E c (a.eval x):=by
 obtain⟨s,h1,h2⟩:=RM.run_bind' hr
 exact Qe (gj h hc h1) h2
theorem NL {s:SV} {cs:List C} {v:Value} (hv:ft E s v) (hr:(oK s).run S ctx=some cs):b5 E cs v.cells.toList:=by
 unfold oK at hr
 split at hr
 ·cases hr
  have hv:gO E _ v:=hv
  rw[Value.BP hv.oB]
  exact⟨v,[],rfl,hv,rfl⟩
 ·cases hr
  obtain⟨vs,rfl,hv⟩:=hv
  exact hv
 ·cases hr
theorem o9 (h:SRel w0 foot base S E a w) {x:Operand} {cs:List C} (hc:bo a ctx) {s:SV} (h1:(ev x).run S ctx=some s) (hr:(oK s).run S ctx=some cs):
  b5 E cs (a.eval x).cells.toList:=NL (gj h hc h1) hr
theorem zx {s:SV} {b:Bool} {v:Value} (hv:ft E s v) (hr:(JK s).run S ctx=some b):v= .bool b:=by
 unfold JK at hr
 split at hr
 ·cases hr
  have:=hv.2
  simpa [dh] using this
 ·cases hr
theorem u4 {s:SV} {n:Int} {v:Value} (hv:ft E s v) (hr:(BY s).run S ctx=some n):∃k,v= .int k n∧bq k n:=by
 unfold BY at hr
 split at hr
 ·rename_i k n
  cases hr
  have:=hv.2
  exact⟨k,by simpa using this.1,this.2⟩
 ·cases hr
def cA (fr:hY) (bl:List (Nat×c5)):List (Nat×c5):=fr.foldl (fun l p=>put l p.1 p.2) bl
def fm (bl:List (Nat×c5)) (E:Env) (w:World) (fr:hY):Prop:=
 ∀q∈fr,∃p,E.place q.1=some p∧fX E w p q.2
def ra (pre:hY) (B D:c5):Prop:=
 (∃f e t xs,D= .row true e t xs∧B= .row f e t xs)∨
 (∃t x,D= .im t x∧(B= .im t x∨∃cs g,B= .cells cs∧(∀q∈g,q∈pre)∧∀(E:Env) (w:World) (vs:List Value),b5 E cs vs→fm [] E w g→dh E.F t x vs))∨
 (∃f a b m c,D= .map true a b m none∧B= .map f a b m c)
theorem ra.again {pre:hY} {B D:c5} (h:ra pre B D):ra pre D D:=by
 rcases h with ⟨f,e,t,xs,rfl,rfl⟩|⟨t,x,rfl,h⟩|⟨f,a,b,m,c,rfl,rfl⟩
 ·exact .inl ⟨_,_,_,_,rfl,rfl⟩
 ·exact .inr (.inl ⟨_,_,rfl,.inl rfl⟩)
 ·exact .inr (.inr ⟨_,_,_,_,_,rfl,rfl⟩)
theorem ra.mono {pre pre':hY} (hp:∀q∈pre,q∈pre') {B D:c5} (h:ra pre B D):ra pre' B D:=by
 rcases h with h|⟨t,x,rfl,rfl|⟨cs,g,h1,h2,h3⟩⟩|h
 ·exact .inl h
 ·exact .inr (.inl ⟨_,_,rfl,.inl rfl⟩)
 ·exact .inr (.inl ⟨_,_,rfl,.inr ⟨cs,g,h1,fun q hq=>hp q (h2 q hq),h3⟩⟩)
 ·exact .inr (.inr h)
structure Jj (done:hY) (bl:List (Nat×c5)) (fr:hY):Prop where
 at_:∀l1 p l2,fr=l1++p::l2→∃B,find bl p.1=some B∧ra (done++l1) B p.2
 Gg:∀p∈done++fr,∀q∈done++fr,p.1=q.1→p.2=q.2
 Yb:∀q∈done,find bl q.1=some q.2
abbrev kP (bl:List (Nat×c5)) (fr:hY):Prop:=Jj [] bl fr
theorem kP.nil {bl:List (Nat×c5)}:kP bl [] where
 at_ l1 p l2 h:=by cases l1<;>cases h
 Gg p hp:=by cases hp
 Yb q hq:=by cases hq
theorem kP.one {bl:List (Nat×c5)} {n:Nat} {B D:c5} (hf:find bl n=some B) (hF:ra [] B D):kP bl [(n,D)] where
 at_ l1 p l2 h:=by
  cases l1 with
  |nil=>cases h;exact⟨B,hf,hF⟩
  |cons a l=>cases l<;>cases h
 Gg p hp q hq _:=by
  simp only[List.nil_append,List.mem_singleton] at hp hq
  rw[hp,hq]
 Yb q hq:=by cases hq
theorem Jj.tail {done:hY} {bl:List (Nat×c5)} {p:Nat×c5} {fr:hY} (ho:Jj done bl (p::fr)):Jj (done++[p]) (put bl p.1 p.2) fr where
 at_ l1 q l2 h:=by
  obtain⟨B,h1,h2⟩:=ho.at_ (p::l1) q l2 (by rw[h];rfl)
  have h2:ra (done++[p]++l1) B q.2:=by rw[List.append_assoc];exact h2
  by_cases hb:p.1=q.1
  ·have e:=ho.Gg p (by simp) q (by rw[h];simp) hb
   exact⟨p.2,by rw[←hb,bO],e▸h2.again⟩
  ·exact⟨B,by rw[bk _ _ _ _ hb];exact h1,h2⟩
 Gg q hq r hr:=ho.Gg q (by simpa using hq) r (by simpa using hr)
 Yb q hq:=by
  rcases List.mem_append.1 hq with hq|hq
  ·by_cases hb:p.1=q.1
   ·have e:=ho.Gg p (by simp) q (by simp[hq]) hb
    rw[←hb,bO,e]
   ·rw[bk _ _ _ _ hb]
    exact ho.Yb q hq
  ·rw[List.mem_singleton.1 hq,bO]
theorem zX:∀{g:hY} {m:Nat},vn g m=true→∀q∈g,q.1≠m
 |[],_,_,q,hq=>by cases hq
 |(k,B)::g,m,h,q,hq=>by
  unfold vn at h
  split at h
  ·cases h
  ·rename_i hb
   rcases List.mem_cons.1 hq with rfl|hq
   ·intro e;simp only at e;subst e;simp at hb
   ·exact zX h q hq
theorem xN:∀{f g:hY},DD f g=true→∀p∈f,∀q∈g,p.1=q.1→Xp p.2=false
 |[],_,_,p,hp=>by cases hp
 |(m,B)::f,g,h,p,hp=>by
  simp only[DD,Bool.and_eq_true,Bool.or_eq_true,Bool.not_eq_true'] at h
  rcases List.mem_cons.1 hp with rfl|hp
  ·intro q hq e
   rcases h.1 with h1|h1
   ·exact h1
   ·exact absurd e.symm (zX h1 q hq)
  ·exact xN h.2 p hp
theorem ra.Gg {pre pre':hY} {B D D':c5} (h:ra pre B D) (k:ra pre' B D') (hD:Xp D=false) (Vj:Xp D'=false):D=D':=by
 rcases h with ⟨f,e,t,xs,rfl,rfl⟩|⟨t,x,rfl,_⟩|⟨f,a,b,m,c,rfl,rfl⟩
 ·rcases k with ⟨f,e,t,xs,rfl,k⟩|⟨t,x,rfl,_⟩|⟨f,a,b,m,c',rfl,k⟩
  ·cases k;rfl
  ·cases Vj
  ·cases k
 ·cases hD
 ·rcases k with ⟨f,e,t,xs,rfl,k⟩|⟨t,x,rfl,_⟩|⟨f,a,b,m,c',rfl,k⟩
  ·cases k
  ·cases Vj
  ·cases k;rfl
theorem kP.append {bl:List (Nat×c5)} {f g:hY} (h:kP bl f) (k:kP bl g) (ha:o5 f g=true):kP bl (f++g):=by
 simp only[o5,Bool.and_eq_true] at ha
 have at1:∀{f:hY},kP bl f→∀p∈f,∃B pre,find bl p.1=some B∧ra pre B p.2:=fun {f} h p hp=>by
  obtain⟨l1,l2,e⟩:=List.append_of_mem hp
  obtain⟨B,h1,h2⟩:=h.at_ l1 p l2 e
  exact⟨B,_,h1,h2⟩
 have IE:∀p∈f,∀q∈g,p.1=q.1→p.2=q.2:=fun p hp q hq e=>by
  obtain⟨B,_,h1,h2⟩:=at1 h p hp
  obtain⟨B',_,h3,h4⟩:=at1 k q hq
  rw[e,h3] at h1
  cases h1
  exact h2.Gg h4 (xN ha.1 p hp q hq e) (xN ha.2 q hq p hp e.symm)
 refine⟨fun l1 p l2 e=> ?_,fun p hp q hq e=> ?_,fun q hq=>by cases hq⟩
 ·rcases List.append_eq_append_iff.1 e with ⟨l,e1,e2⟩|⟨l,e1,e2⟩
  ·obtain⟨B,h1,h2⟩:=k.at_ l p l2 e2
   exact⟨B,h1,h2.mono fun q hq=>by rw[e1];simp only[List.nil_append] at hq ⊢;exact List.mem_append_right _ hq⟩
  ·cases l with
   |nil=>
    obtain⟨B,h1,h2⟩:=k.at_ [] p l2 (by simpa using e2.symm)
    exact⟨B,h1,h2.mono fun q hq=>by cases hq⟩
   |cons r l=>
    simp only[List.cons_append,List.cons.injEq] at e2
    obtain⟨rfl,_⟩:=e2
    obtain⟨B,h1,h2⟩:=h.at_ l1 p l e1
    exact⟨B,h1,h2⟩
 ·simp only[List.nil_append] at hp hq
  rcases List.mem_append.1 hp with hp|hp
  ·rcases List.mem_append.1 hq with hq|hq
   ·exact h.Gg p hp q hq e
   ·exact IE p hp q hq e
  ·rcases List.mem_append.1 hq with hq|hq
   ·exact(IE q hq p hp e.symm).symm
   ·exact k.Gg p hp q hq e
theorem kP.nest {bl:List (Nat×c5)} {g:hY} {b:Nat} {cs:List C} {t:Ty} {x:t.den} (h:kP bl g) (hb:find bl b=some (.cells cs)) (hg:vn g b=true)
  (hr:∀(E:Env) (w:World) (vs:List Value),b5 E cs vs→fm [] E w g→dh E.F t x vs):kP bl (g++[(b,.im t x)]):=by
 have uI:=zX hg
 refine⟨fun l1 p l2 e=> ?_,fun p hp q hq e=> ?_,fun q hq=>by cases hq⟩
 ·rcases List.append_eq_append_iff.1 e with ⟨l,e1,e2⟩|⟨l,e1,e2⟩
  ·cases l with
   |nil=>
    simp only[List.nil_append,List.cons.injEq] at e2
    obtain⟨rfl,_⟩:=e2
    exact⟨_,hb,.inr (.inl ⟨t,x,rfl,.inr ⟨cs,g,rfl,fun q hq=>by rw[e1];simpa using hq,hr⟩⟩)⟩
   |cons r l=>cases l<;>cases e2
  ·cases l with
   |nil=>
    simp only[List.nil_append,List.cons.injEq] at e2
    obtain⟨rfl,_⟩:=e2
    refine⟨_,hb,.inr (.inl ⟨t,x,rfl,.inr ⟨cs,g,rfl,fun q hq=> ?_,hr⟩⟩)⟩
    rw[e1] at hq;simpa using hq
   |cons r l=>
    simp only[List.cons_append,List.cons.injEq] at e2
    obtain⟨rfl,_⟩:=e2
    exact h.at_ l1 p l e1
 ·simp only[List.nil_append,List.mem_append,List.mem_singleton] at hp hq
  rcases hp with hp|rfl
  ·rcases hq with hq|rfl
   ·exact h.Gg p hp q hq e
   ·exact absurd e (uI p hp)
  ·rcases hq with hq|rfl
   ·exact absurd e.symm (uI q hq)
   ·rfl
theorem HRel.Vn {bl:List (Nat×c5)} {used:List Nat} (h:HRel w0 foot base bl used E w) {id:Nat} {B D:c5} {pre:hY} (hf:find bl id=some B) (hF:ra pre B D) (hg:∀q∈pre,find bl q.1=some q.2):
  ∃E',E.le E'∧E'.place=E.place∧(∀b o,E'.F b=some o→E.F b=some o∨(w.heap[b]? =some o∧(∃p,E.place id=some p∧p.nil=false∧p.bc=b)))∧HRel w0 foot base (put bl id D) used E' w:=by
 rcases hF with ⟨f,e,t,xs,rfl,rfl⟩|⟨t,x,rfl,rfl|⟨cs,g,rfl,hgp,hr⟩⟩|⟨f,a,b,m,c,rfl,rfl⟩
 ·exact h.freeze hf
 ·refine⟨E,.refl _,rfl,fun _ _ h=> .inl h,h.congr (fun i D hi=> ?_) (fun _ h=>h)⟩
  by_cases e:i=id
  ·subst e;rw[bO] at hi;rw[←hi];exact hf
  ·rwa [bk _ _ _ _ (Ne.symm e)] at hi
 ·exact h.Nk hf fun vs hv=>hr E w vs hv fun q hq=>h.ck _ _ (hg q (hgp q hq))
 ·exact h.Ij hf
theorem HRel.FY {used:List Nat}:∀{fr done:hY} {bl:List (Nat×c5)} {E:Env},HRel w0 foot base bl used E w→Jj done bl fr→
  ∃E',E.le E'∧E'.place=E.place∧(∀b o,E'.F b=some o→E.F b=some o∨(w.heap[b]? =some o∧∃q∈fr,∃p,E.place q.1=some p∧p.nil=false∧p.bc=b))∧HRel w0 foot base (cA fr bl) used E' w
 |[],_,_,E,h,_=>⟨E,.refl _,rfl,fun _ _ h=> .inl h,h⟩
 |q::fr,done,bl,E,h,ho=>by
  obtain⟨B,h3,h4⟩:=ho.at_ [] q fr rfl
  have aim:=ho.Yb
  have ho:=ho.tail
  obtain⟨E1,l1,p1,f1,h1⟩:=h.Vn h3 h4 (by simpa using aim)
  obtain⟨E2,l2,p2,f2,h2⟩:=HRel.FY h1 ho
  refine⟨E2,l1.trans l2,p2.trans p1,fun b o hb=> ?_,h2⟩
  rcases f2 b o hb with h5|⟨h5,q',ni,p,h6⟩
  ·rcases f1 b o h5 with h5|⟨h5,p,h6⟩
   ·exact .inl h5
   ·exact .inr ⟨h5,q,List.mem_cons_self,p,h6⟩
  ·exact .inr ⟨h5,q',List.mem_cons_of_mem _ ni,p,p1▸h6⟩
theorem HRel.cA {used:List Nat} {fr:hY} {bl:List (Nat×c5)} {E:Env} (h:HRel w0 foot base bl used E w) (ho:kP bl fr):
  ∃E',E.le E'∧E'.place=E.place∧(∀b o,E'.F b=some o→E.F b=some o∨(w.heap[b]? =some o∧∃q∈fr,∃p,E.place q.1=some p∧p.nil=false∧p.bc=b))∧HRel w0 foot base (cA fr bl) used E' w:=
 HRel.FY h ho
theorem uP {q:Nat×c5}:∀{fr:hY} {bl:List (Nat×c5)},(∀p∈fr,p.1=q.1→p.2=q.2)→(find bl q.1=some q.2∨q∈fr)→find (cA fr bl) q.1=some q.2
 |[],bl,_,h=>by
  rcases h with h|h
  ·exact h
  ·cases h
 |r::fr,bl,hd,h=>by
  show find (Vc.cA fr (put bl r.1 r.2)) q.1=_
  refine uP (fun p hp=>hd p (List.mem_cons_of_mem _ hp)) ?_
  by_cases hb:r.1=q.1
  ·left
   rw[←hb,bO,hd r List.mem_cons_self hb]
  ·rw[bk _ _ _ _ hb]
   rcases h with h|h
   ·exact .inl h
   ·rcases List.mem_cons.1 h with rfl|h
    ·exact absurd rfl hb
    ·exact .inr h
theorem fm.qg {bl:List (Nat×c5)} {used:List Nat} {fr:hY} (ho:kP bl fr) (h:HRel w0 foot base (cA fr bl) used E w):fm bl E w fr:=fun q hq=>by
 obtain⟨p,hp,hB⟩:=h.ck q.1 q.2 (uP (fun p hp e=>ho.Gg p (by simpa using hp) q (by simpa using hq) e) (.inr hq))
 exact⟨p,hp,hB⟩
theorem Aq {F:Mem} {t t':Ty} {x:t.den} {y:t'.den} {vs:List Value} (h:Ty.as t' x=some y) (hr:dh F t x vs):dh F t' y vs:=by
 obtain⟨e,rfl⟩:=Ty.iJ h
 subst e
 exact hr
theorem Cp {p:Place} {e:Nat} {t:Ty} {xs:List t.den} (hB:fX E w p (.row true e t xs)) (lo len:Nat) (hl:lo+len≤p.len) {v:Value}
  (hv:(p.nil=true∧v= .slice none 0 0)∨(p.nil=false∧∃a:Addr,v= .slice (some a) len (p.cap - lo)∧(lo=p.cap∨a=⟨p.bc,lo*t.size,none⟩))):
  dh E.F (.list t) (lit ((xs.drop lo).take len)) [v]:=by
 rcases hB with ⟨hn,hx,hz⟩|⟨hn,h0,⟨h1,nR⟩,vs,h2,h3,h4,h5⟩
 ·rcases hv with ⟨_,rfl⟩|⟨dk,_⟩
  ·subst hx
   have CY:len=0:=by omega
   subst CY
   refine⟨none,0,by simp[lit],by simp[lit],by simp[aK],fun _=>rfl,fun p hp=>by cases hp⟩
  ·rw[hn] at dk;cases dk
 ·rcases hv with ⟨dk,_⟩|⟨_,a,rfl,ha⟩
  ·rw[hn] at dk;cases dk
  ·have hlen:(Ty.L (t:=t) (lit ((xs.drop lo).take len))).length=len:=by simp[lit,h1];omega
   refine⟨some a,p.cap - lo,by rw[hlen],by rw[hlen];omega,by omega,(fun h=>by cases h),fun p' hp i x hx=> ?_⟩
   cases hp
   have hi:i<len:=by
    have:=(List.getElem?_eq_some_iff.1 hx).1
    omega
   have RH:xs[lo+i]? =some x:=by
    have Ph:((xs.drop lo).take len)[i]? =some x:=hx
    rw[List.getElem?_take_of_lt hi,List.getElem?_drop] at Ph
    exact Ph
   rcases ha with ha|rfl
   ·omega
   ·obtain⟨us,k1,k2,k3⟩:=h5 _ x RH
    refine⟨rfl,us,k1,k2,fun j u hu=>⟨vs,e,(0,0),h4 rfl,?_⟩⟩
    have:=k3 j u hu
    rw[show lo*t.size+(i*t.size+j)=(lo+i)*t.size+j by rw[Nat.add_mul];omega]
    exact this
theorem Eg {t:Ty} (xs:List t.den):(xs.drop 0).take xs.length=xs:=by simp
theorem kQ {t:Ty} {c:C} {x:t.den} {fr:hY} (hr:(oT t c).run S ctx=some (x,fr)):kP S.bl fr:=by
 unfold oT at hr
 split at hr
 ·obtain⟨y,_,h2⟩:=RM.run_bind' hr
  cases RM.run_pure' h2
  exact .nil
 ·simp only[RM.run] at hr
  split at hr
  ·rename_i B hf
   split at hr
   ·split at hr
    ·obtain⟨y,_,h2⟩:=RM.run_bind' hr
     cases RM.run_pure' h2
     exact .one hf (.inl ⟨_,_,_,_,rfl,rfl⟩)
    ·cases hr
   ·cases hr
  ·cases hr
 ·simp only[RM.run] at hr
  split at hr
  ·rename_i B hf
   split at hr
   ·split at hr
    ·obtain⟨y,_,h2⟩:=RM.run_bind' hr
     cases RM.run_pure' h2
     exact .one hf (.inl ⟨_,_,_,_,rfl,rfl⟩)
    ·cases hr
   ·cases hr
  ·cases hr
 ·split at hr
  ·cases hr;exact .nil
  ·cases hr
 ·split at hr
  ·cases hr;exact .nil
  ·cases hr
 ·simp only[RM.run] at hr
  split at hr
  ·rename_i B hf
   split at hr
   ·obtain⟨y,_,h2⟩:=RM.run_bind' hr
    cases RM.run_pure' h2
    exact .one hf (.inr (.inr ⟨_,_,_,_,_,rfl,rfl⟩))
   ·cases hr
  ·cases hr
 ·split at hr
  ·cases hr;exact .nil
  ·cases hr
 ·cases hr
theorem bQ {b:Bool} {u:Unit} (h:(cR b).run S ctx=some u):b=true:=by
 unfold cR at h
 split at h
 ·rfl
 ·cases h
theorem fm.nil {bl:List (Nat×c5)}:fm bl E w []:=fun q hq=>(by cases hq)
theorem Xg {p:Place} {a b:Ty} {m:List (a.den×b.den)} {c:Option (Nat×Nat)} (hB:fX E w p (.map true a b m c)) {v:Value} (hv:v= .map (some p.bc)):dh E.F (.map a b) m [v]:=by
 obtain⟨_,es,cl,k1,k2,m0,k0,k3,_⟩:=hB
 refine⟨some p.bc,by rw[hv],(fun h=>by cases h),fun q hq=> ?_⟩
 cases hq
 exact⟨m0,es,cl,k0,k2 rfl,k3.stamps,k3.keys,k3.size,k3.at_⟩
theorem OF {t:Ty} {c:C} {x:t.den} {fr:hY} {v:Value} (hr:(oT t c).run S ctx=some (x,fr)) (hv:gO E c v) (hf:fm S.bl E w fr):dh E.F t x [v]:=by
 unfold oT at hr
 split at hr
 ·obtain⟨y,h1,h2⟩:=RM.run_bind' hr
  cases RM.run_pure' h2
  exact Aq (bY h1) hv.2
 ·rename_i tt b
  simp only[RM.run] at hr
  split at hr
  ·rename_i B hB
   split at hr
   ·rename_i f e t' xs
    split at hr
    ·rename_i ht
     obtain⟨y,h1,h2⟩:=RM.run_bind' hr
     cases RM.run_pure' h2
     refine Aq (bY h1) ?_
     obtain⟨p,hp,zc⟩:=hf (b,.row true e t' xs) (by simp)
     obtain⟨p',dj,k⟩:=hv
     rw[hp] at dj
     cases dj
     have hlen:p.len=xs.length:=by
      rcases zc with ⟨_,hx,hz⟩|⟨_,_,⟨h1,_⟩,_⟩
      ·subst hx;exact hz
      ·exact h1.symm
     have:=Cp (lo:=0) (len:=xs.length) zc (by omega) (v:=v) (by
      rcases k with ⟨hn,hv,_⟩|⟨hn,hv,_⟩
      ·exact .inl ⟨hn,hv⟩
      ·exact .inr ⟨hn,_,by rw[hv,hlen];rfl,.inr (by simp)⟩)
     rwa [Eg] at this
    ·cases hr
   ·cases hr
  ·cases hr
 ·rename_i tt b lo len
  simp only[RM.run] at hr
  split at hr
  ·rename_i B hB
   split at hr
   ·rename_i f e t' xs
    split at hr
    ·rename_i ht
     have ht:=Ty.beq_eq ht
     subst ht
     obtain⟨y,h1,h2⟩:=RM.run_bind' hr
     cases RM.run_pure' h2
     refine Aq (bY h1) ?_
     obtain⟨p,hp,zc⟩:=hf (b,.row true e tt xs) (by simp)
     obtain⟨p',dj,hl,k⟩:=hv
     rw[hp] at dj
     cases dj
     refine Cp zc lo len hl ?_
     rcases k with ⟨hn,hv,_⟩|⟨hn,a,hv,_,_,h⟩
     ·exact .inl ⟨hn,hv⟩
     ·exact .inr ⟨hn,a,hv,h⟩
    ·cases hr
   ·cases hr
  ·cases hr
 ·split at hr
  ·cases hr
   have hv:v=_:=hv
   subst hv
   exact⟨none,0,rfl,Nat.le_refl _,by simp[aK],fun _=>rfl,fun p hp=>by cases hp⟩
  ·cases hr
 ·split at hr
  ·cases hr
   have hv:v=_:=hv
   subst hv
   exact .inl ⟨rfl,rfl⟩
  ·cases hr
 ·rename_i a b n
  simp only[RM.run] at hr
  split at hr
  ·rename_i B hB
   split at hr
   ·rename_i f a' b' m c
    obtain⟨y,h1,h2⟩:=RM.run_bind' hr
    cases RM.run_pure' h2
    refine Aq (bY h1) ?_
    obtain⟨p,hp,zc⟩:=hf (n,.map true a' b' m none) (by simp)
    obtain⟨p',dj,hn,hv⟩:=hv
    rw[hp] at dj
    cases dj
    exact Xg zc hv
   ·cases hr
  ·cases hr
 ·split at hr
  ·cases hr
   have hv:v=_:=hv
   subst hv
   exact⟨none,rfl,fun _=>rfl,fun n hn=>by cases hn⟩
  ·cases hr
 ·cases hr
theorem fm.left {bl:List (Nat×c5)} {f g:hY} (h:fm bl E w (f++g)):fm bl E w f:=fun q hq=>h q (List.mem_append_left _ hq)
theorem fm.right {bl:List (Nat×c5)} {f g:hY} (h:fm bl E w (f++g)):fm bl E w g:=fun q hq=>h q (List.mem_append_right _ hq)
theorem one_cell {t:Ty} {c:C} {x:t.den} {fr:hY} {vs:List Value} (hr:(oT t c).run S ctx=some (x,fr)) (hv:b5 E [c] vs) (hf:fm S.bl E w fr):dh E.F t x vs:=by
 obtain⟨v,us,rfl,h1,h2⟩:=hv
 rw[show us=[] from h2]
 exact OF hr h1 hf
theorem IA {t t':Ty} {xs:List t'.den} {i:Nat} {x:t.den} {v:Value} (hv:gO E (.sN t' xs i 0) v) (hx:Ty.as (a:=t') t (DB xs i)=some x):dh E.F (.ref t) x [v]:=by
 obtain⟨hi,b,off,rfl,k⟩:=hv
 obtain⟨us,k1,k2,k3⟩:=k i (DB xs i) (by unfold DB;rw[List.getD_eq_getElem?_getD,List.getElem?_eq_getElem hi];rfl)
 have hr:=Aq hx k1
 obtain⟨e,_⟩:=Ty.iJ hx
 subst e
 exact⟨b,off+(i*t'.size+0),rfl,us,hr,k2,fun j u hu=>by simpa [Nat.add_assoc] using k3 j u hu⟩
theorem vA {t t':Ty} {b:Nat} {y:t'.den} {x:t.den} {v:Value} (hv:gO E (.ptr b 0) v) (hf:fm S.bl E w [(b,.im t' y)]) (hx:Ty.as (a:=t') t y=some x):dh E.F (.ref t) x [v]:=by
 obtain⟨p,hp,hB⟩:=hf (b,.im t' y) (by simp)
 obtain⟨p',dj,hn,rfl⟩:=hv
 rw[hp] at dj
 cases dj
 obtain⟨_,vs,e,h1,h2,h3⟩:=hB
 have hr:=Aq hx h3
 exact⟨p.bc,0,rfl,vs.toList,hr,hr.length,fun j u hu=>⟨vs,e,(0,0),h2,by simpa using hu⟩⟩
theorem dh.yD {F:Mem} {t:Ty} {x:t.den} {vs:List Value} (h:dh F (.ref t) x vs):dh F (.ptr t) (some x) vs:=by
 obtain⟨b,off,h0,h1⟩:=h
 exact .inr ⟨x,rfl,b,off,h0,h1⟩
theorem js {c:C} {vs:List Value} (hv:b5 E [c] vs):∃v,vs=[v]∧gO E c v:=by
 obtain⟨v,us,rfl,h1,h2⟩:=hv
 exact⟨v,by rw[show us=[] from h2],h1⟩
theorem jr:∀{t:Ty} {cs:List C} {x:t.den} {fr:hY} {E:Env} {vs:List Value},(reify t cs).run S ctx=some (x,fr)→b5 E cs vs→fm S.bl E w fr→dh E.F t x vs
 | .unit,cs,x,fr,E,vs,hr,hv,hf=>by
  unfold reify at hr
  split at hr
  ·exact hv
  ·cases hr
 | .pair t u,cs,x,fr,E,vs,hr,hv,hf=>by
  unfold reify at hr
  obtain⟨⟨y,f⟩,h1,h2⟩:=RM.run_bind' hr
  obtain⟨⟨z,g⟩,h3,h4⟩:=RM.run_bind' h2
  obtain⟨_,h5,h6⟩:=RM.run_bind' h4
  cases RM.run_pure' h6
  exact⟨vs.take t.size,vs.drop t.size,(List.take_append_drop _ _).symm,jr h1 (hv.take _) hf.left,jr h3 (hv.drop _) hf.right⟩
 | .int k,cs,x,fr,E,vs,hr,hv,hf=>by
  unfold reify at hr
  split at hr
  ·exact one_cell hr hv hf
  ·cases hr
 | .bool,cs,x,fr,E,vs,hr,hv,hf=>by
  unfold reify at hr
  split at hr
  ·exact one_cell hr hv hf
  ·cases hr
 | .str,cs,x,fr,E,vs,hr,hv,hf=>by
  unfold reify at hr
  split at hr
  ·exact one_cell hr hv hf
  ·cases hr
 | .list t,cs,x,fr,E,vs,hr,hv,hf=>by
  unfold reify at hr
  split at hr
  ·exact one_cell hr hv hf
  ·cases hr
 | .lD k t,cs,x,fr,E,vs,hr,hv,hf=>by
  unfold reify at hr
  split at hr
  ·exact one_cell hr hv hf
  ·cases hr
 | .map a b,cs,x,fr,E,vs,hr,hv,hf=>by
  unfold reify at hr
  split at hr
  ·exact one_cell hr hv hf
  ·cases hr
 | .ref t,cs,x,fr,E,vs,hr,hv,hf=>by
  unfold reify at hr
  split at hr
  ·split at hr
   ·rename_i ho
    have ho:=Nat.eq_of_beq_eq_true ho
    subst ho
    obtain⟨y,h1,h2⟩:=RM.run_bind' hr
    cases RM.run_pure' h2
    obtain⟨v,rfl,qt⟩:=js hv
    exact IA qt (bY h1)
   ·cases hr
  ·split at hr
   ·rename_i ho
    have ho:=Nat.eq_of_beq_eq_true ho
    subst ho
    obtain⟨v,rfl,qt⟩:=js hv
    simp only[RM.run] at hr
    split at hr
    ·split at hr
     ·obtain⟨⟨y,f⟩,h1,h2⟩:=RM.run_bind' hr
      obtain⟨_,h3,h4⟩:=RM.run_bind' h2
      cases RM.run_pure' h4
      exact vA qt hf.right (Ty.Qd y)
     ·obtain⟨y,h1,h2⟩:=RM.run_bind' hr
      cases RM.run_pure' h2
      exact vA qt hf (bY h1)
     ·cases hr
    ·cases hr
   ·cases hr
  ·exact one_cell hr hv hf
  ·cases hr
 | .ptr t,cs,x,fr,E,vs,hr,hv,hf=>by
  unfold reify at hr
  split at hr
  ·split at hr
   ·rename_i ho
    have ho:=Nat.eq_of_beq_eq_true ho
    subst ho
    obtain⟨y,h1,h2⟩:=RM.run_bind' hr
    cases RM.run_pure' h2
    obtain⟨v,rfl,qt⟩:=js hv
    exact(IA qt (bY h1)).yD
   ·cases hr
  ·split at hr
   ·rename_i ho
    have ho:=Nat.eq_of_beq_eq_true ho
    subst ho
    obtain⟨v,rfl,qt⟩:=js hv
    simp only[RM.run] at hr
    split at hr
    ·split at hr
     ·obtain⟨⟨y,f⟩,h1,h2⟩:=RM.run_bind' hr
      obtain⟨_,h3,h4⟩:=RM.run_bind' h2
      cases RM.run_pure' h4
      exact(vA qt hf.right (Ty.Qd y)).yD
     ·obtain⟨y,h1,h2⟩:=RM.run_bind' hr
      cases RM.run_pure' h2
      exact(vA qt hf (bY h1)).yD
     ·cases hr
    ·cases hr
   ·cases hr
  ·exact one_cell hr hv hf
  ·cases hr
theorem gx:∀{t:Ty} {cs:List C} {x:t.den} {fr:hY},(reify t cs).run S ctx=some (x,fr)→kP S.bl fr
 | .unit,cs,x,fr,hr=>by
  unfold reify at hr
  split at hr
  ·cases hr;exact .nil
  ·cases hr
 | .pair t u,cs,x,fr,hr=>by
  unfold reify at hr
  obtain⟨⟨y,f⟩,h1,h2⟩:=RM.run_bind' hr
  obtain⟨⟨z,g⟩,h3,h4⟩:=RM.run_bind' h2
  obtain⟨_,h5,h6⟩:=RM.run_bind' h4
  cases RM.run_pure' h6
  exact(gx h1).append (gx h3) (bQ h5)
 | .int k,cs,x,fr,hr=>by
  unfold reify at hr
  split at hr
  ·exact kQ hr
  ·cases hr
 | .bool,cs,x,fr,hr=>by
  unfold reify at hr
  split at hr
  ·exact kQ hr
  ·cases hr
 | .str,cs,x,fr,hr=>by
  unfold reify at hr
  split at hr
  ·exact kQ hr
  ·cases hr
 | .list t,cs,x,fr,hr=>by
  unfold reify at hr
  split at hr
  ·exact kQ hr
  ·cases hr
 | .lD k t,cs,x,fr,hr=>by
  unfold reify at hr
  split at hr
  ·exact kQ hr
  ·cases hr
 | .map a b,cs,x,fr,hr=>by
  unfold reify at hr
  split at hr
  ·exact kQ hr
  ·cases hr
 | .ref t,cs,x,fr,hr=>by
  unfold reify at hr
  split at hr
  ·split at hr
   ·obtain⟨y,h1,h2⟩:=RM.run_bind' hr
    cases RM.run_pure' h2
    exact .nil
   ·cases hr
  ·split at hr
   ·simp only[RM.run] at hr
    split at hr
    ·rename_i hB
     split at hr
     ·obtain⟨⟨y,f⟩,h1,h2⟩:=RM.run_bind' hr
      obtain⟨_,h3,h4⟩:=RM.run_bind' h2
      cases RM.run_pure' h4
      exact(gx h1).nest hB (bQ h3) fun E w vs hv hf=>jr (w:=w) h1 hv hf
     ·obtain⟨y,h1,h2⟩:=RM.run_bind' hr
      cases RM.run_pure' h2
      exact .one hB (.inr (.inl ⟨_,_,rfl,.inl rfl⟩))
     ·cases hr
    ·cases hr
   ·cases hr
  ·exact kQ hr
  ·cases hr
 | .ptr t,cs,x,fr,hr=>by
  unfold reify at hr
  split at hr
  ·split at hr
   ·obtain⟨y,h1,h2⟩:=RM.run_bind' hr
    cases RM.run_pure' h2
    exact .nil
   ·cases hr
  ·split at hr
   ·simp only[RM.run] at hr
    split at hr
    ·rename_i hB
     split at hr
     ·obtain⟨⟨y,f⟩,h1,h2⟩:=RM.run_bind' hr
      obtain⟨_,h3,h4⟩:=RM.run_bind' h2
      cases RM.run_pure' h4
      exact(gx h1).nest hB (bQ h3) fun E w vs hv hf=>jr (w:=w) h1 hv hf
     ·obtain⟨y,h1,h2⟩:=RM.run_bind' hr
      cases RM.run_pure' h2
      exact .one hB (.inr (.inl ⟨_,_,rfl,.inl rfl⟩))
     ·cases hr
    ·cases hr
   ·cases hr
  ·exact kQ hr
  ·cases hr
end Go.Vc
end

section
set_option linter.unusedVariables false
set_option linter.unusedSimpArgs false
namespace Go.Vc
open Go
variable {P:Program} {X:Ctx} {w0:World} {foot:gF} {base:Mem} {S:St} {E:Env} {a:Act} {w:World} {ctx:c8}
def gN (r:b7) (bl:List (Nat×c5)):List (Nat×c5):=r.ck.foldl (fun l p=>put l p.1 p.2) (r.del.foldl rem bl)
def afa (E:Env):Option SV→Value→Prop
 |none,_=>True
 |some s,v=>ft E s v
structure iw (w0:World) (foot:gF) (base:Mem) (bl:List (Nat×c5)) (used:List Nat) (E:Env) (r:b7) (E':Env) (w':World) (v:Value):Prop where
 le:E.le E'
 heap:HRel w0 foot base (gN r bl) (r.new++used) E' w'
 val:afa E' r.val v
def bX (P:Program) (w0:World) (foot:gF) (base:Mem) (S:St) (E:Env) (a:Act) (w:World) (o:Oper) (r:b7):Prop:=
 ∀(next:Act→World→Prop) (Q:Exit→Act→World→Prop),(∀E' w' v,iw w0 foot base S.bl S.used E r E' w' v→next (a.put o.dst v) w')→o.wp P a w next Q
theorem bX.value {o:Oper} {r:b7} {v:Value} {w':World} {E':Env} (dA:(execOp a.eval o).run P w= .ok (.value v) w') (hA:iw w0 foot base S.bl S.used E r E' w' v):
  bX P w0 foot base S E a w o r:=fun next Q hn=>by
 unfold Oper.wp
 rw[dA]
 exact hn _ _ _ hA
theorem bX.skip {o:Oper} {r:b7} {w':World} {E':Env} (dA:(execOp a.eval o).run P w= .ok .skip w') (hA:iw w0 foot base S.bl S.used E r E' w' undef):
  bX P w0 foot base S E a w o r:=fun next Q hn=>by
 unfold Oper.wp
 rw[dA]
 exact hn _ _ _ hA
theorem iw.pure (h:HRel w0 foot base S.bl S.used E w) {s:SV} {v:Value} {cs:List Prop} (hv:ft E s v):iw w0 foot base S.bl S.used E {val:=some s,conds:=cs} E w v:=
 ⟨.refl _,h,hv⟩
theorem ud:∀{l:List TI} {t:Nat} {i:TI},L7 l t=some i→i∈l∧i.id=t
 |[],_,_,h=>by cases h
 |j::l,t,i,h=>by
  unfold L7 at h
  split at h
  ·rename_i hb
   cases h
   exact⟨List.mem_cons_self,Nat.eq_of_beq_eq_true hb⟩
  ·obtain⟨h1,h2⟩:=ud h
   exact⟨List.mem_cons_of_mem _ h1,h2⟩
theorem qh {α β:Type} {f g:α→β}:∀{l:List α},l.map f=l.map g→∀x∈l,f x=g x
 |[],_,x,hx=>by cases hx
 |y::l,h,x,hx=>by
  simp only[List.map_cons,List.cons.injEq] at h
  rcases List.mem_cons.1 hx with rfl|hx
  ·exact h.1
  ·exact qh h.2 x hx
theorem df (hT:dt P X.ay) {t:Nat} {i:TI} (h:(ti X t).run S ctx=some i):
  j6 P t=i.d∧∃j,P.info? t=some j∧j.size=i.size∧j.bytes=i.bytes∧j.zero=some i.zero:=by
 have h:=bY h
 obtain⟨hm,rfl⟩:=ud h
 refine⟨qh hT.Wu i hm,?_⟩
 have:=qh hT.infos i hm
 obtain⟨j,hj,e⟩:=Option.map_eq_some_iff.1 this
 simp only[Prod.mk.injEq] at e
 exact⟨j,hj,e.1,e.2.1,e.2.2⟩
theorem dP {t e:Nat} (h:j6 P t= .slice e):P.underlying t=some (.slice e):=by
 unfold j6 at h;split at h<;>first|cases h|skip
 assumption
theorem ru {t:Nat} {k:IntKind} (h:j6 P t= .int k):P.underlying t=some (.int k):=by
 unfold j6 at h;split at h<;>first|cases h|skip
 assumption
theorem uf {t:Nat} (h:j6 P t= .bool):P.underlying t=some .bool:=by
 unfold j6 at h;split at h<;>first|cases h|skip
 assumption
theorem qd {t:Nat} (h:j6 P t= .str):P.underlying t=some .string:=by
 unfold j6 at h;split at h<;>first|cases h|skip
 assumption
theorem lL {t:Nat} {fs:List (Nat×Nat×Nat)} (h:j6 P t= .struct fs):
  ∃gs,P.underlying t=some (.struct gs)∧fs=gs.toList.map fun f=>(f.offset,P.cellsOf f.type,f.type):=by
 unfold j6 at h;split at h<;>first|cases h|skip
 rename_i gs hg
 exact⟨gs,hg,rfl⟩
theorem sd {t n e:Nat} (h:j6 P t= .array n e):P.underlying t=some (.array n e):=by
 unfold j6 at h;split at h<;>first|cases h|skip
 assumption
theorem JY {t k e:Nat} (h:j6 P t= .map k e):P.underlying t=some (.map k e):=by
 unfold j6 at h;split at h<;>first|cases h|skip
 assumption
theorem Oh {t:Nat} (h:j6 P t= .plain):∃a b c,P.underlying t=some (.func a b c):=by
 unfold j6 at h;split at h<;>first|cases h|skip
 rename_i a b c he;exact⟨a,b,c,he⟩
theorem JX {t:Nat} (h:j6 P t= .vM):∃e,P.underlying t=some (.pointer e):=by
 unfold j6 at h;split at h<;>first|cases h|skip
 rename_i e he;exact⟨e,he⟩
theorem yx {t:Nat} {j:TypeInfo} (h:P.info? t=some j):(typeInfo t).run P w= .ok j w:=by
 simp[typeInfo,h]
theorem dY {t:Nat} {j:TypeInfo} (h:P.info? t=some j):(sizeOf t).run P w= .ok j.size w:=by
 simp[sizeOf,yx h]
theorem kg {t:Nat} {j:TypeInfo} {z:Value} (h:P.info? t=some j) (hz:j.zero=some z):(zeroValue t).run P w= .ok z w:=by
 simp[zeroValue,yx h,hz]
theorem qE {t:Nat} {gs:Array Field} (h:P.underlying t=some (.struct gs)):(isAgg t).run P w= .ok true w:=by
 simp[isAgg,run_underlying h]
theorem wi {t n e:Nat} (h:P.underlying t=some (.array n e)):(isAgg t).run P w= .ok true w:=by
 simp[isAgg,run_underlying h]
theorem oc {t:Nat} (h:(match j6 P t with | .struct _=>false| .array _ _=>false| .map _ _=>true| .other=>false|_=>true)=true):(isAgg t).run P w= .ok false w:=by
 cases hs:j6 P t with
 |int k=>simp[isAgg,run_underlying (ru hs)]
 |bool=>simp[isAgg,run_underlying (uf hs)]
 |str=>simp[isAgg,run_underlying (qd hs)]
 |slice e=>simp[isAgg,run_underlying (dP hs)]
 |struct fs=>rw[hs] at h;cases h
 |plain=>
  obtain⟨a,b,c,he⟩:=Oh hs
  simp[isAgg,run_underlying he]
 |vM=>
  obtain⟨e,he⟩:=JX hs
  simp[isAgg,run_underlying he]
 |array n e=>rw[hs] at h;cases h
 |map k e=>simp[isAgg,run_underlying (JY hs)]
 |other=>rw[hs] at h;cases h
def nh (w:World) (b o:Nat) (us:List Value):Prop:=∀(j:Nat) u,us[j]? =some u→w.cell? ⟨b,o+j,none⟩=some u
theorem nc (b o n:Nat):(⟨b,o,none⟩:Addr).add n=⟨b,o+n,none⟩:=by
 unfold Addr.add
 split
 ·rename_i h;subst h;rfl
 ·rfl
theorem jH {w:World} {b:Nat} {vs:Array Value} {e:TypeId} {m:Nat×Nat} (h:w.heap[b]? =some (.cells vs e m)) (o:Nat):w.cell? ⟨b,o,none⟩=vs[o]? :=by
 simp[World.cell?,h]
theorem xU {b o:Nat} {us:List Value} (h:nh w b o us):(loadCells ⟨b,o,none⟩ us.length).run P w= .ok us.toArray w:=
 run_loadCells_list w _ us fun j v hv=>by rw[nc];exact h j v hv
theorem AN {t b o:Nat} {us:List Value} {cs:List C} {s:SV} {j:TypeInfo} (hd:(CC (j6 P t) cs).run S ctx=some s) (hi:P.info? t=some j) (hl:us.length=j.size)
  (hr:b5 E cs us) (h:nh w b o us):∃v,(loadVar t ⟨b,o,none⟩).run P w= .ok v w∧ft E s v:=by
 unfold CC at hd
 split at hd
 ·rename_i fs hs
  cases hd
  obtain⟨gs,hu,_⟩:=lL hs
  refine⟨.agg us.toArray,?_,_,rfl,hr⟩
  simp[loadVar,qE hu,dY hi,←hl,xU h]
 ·rename_i n e hs
  cases hd
  refine⟨.agg us.toArray,?_,_,rfl,hr⟩
  simp[loadVar,wi (sd hs),dY hi,←hl,xU h]
 ·cases hd
 ·rename_i h1 h2 h3
  split at hd
  ·rename_i c
   cases hd
   obtain⟨v,vs,rfl,k1,k2⟩:=hr
   have RJ:vs=[]:=k2
   subst RJ
   refine⟨v,?_,k1⟩
   have hc:=h 0 v rfl
   have:(isAgg t).run P w= .ok false w:=oc (by
    cases hs:j6 P t<;>simp_all)
   simp only[loadVar,Sem.run_bind,this,Result.andThen_ok]
   simp only[Bool.false_eq_true,if_false,run_load]
   simp only[Nat.add_zero] at hc
   rw[hc]
  ·cases hd
theorem Hh {p:Place} {iZ:Bool} {e:Nat} {t:Ty} {xs:List t.den} (hB:nT E w p iZ e t xs) {i:Nat} (hi:i<p.len):
  ∃us,dh E.F t (DB xs i) us∧us.length=t.size∧nh w p.bc (i*t.size) us:=by
 obtain⟨h0,⟨h1,nR⟩,vs,h2,h3,h4,h5⟩:=hB
 have hx:xs[i]? =some (DB xs i):=by
  unfold DB
  rw[List.getD_eq_getElem?_getD,List.getElem?_eq_getElem (by omega)]
  rfl
 obtain⟨us,k1,k2,k3⟩:=h5 i _ hx
 exact⟨us,k1,k2,fun j u hu=>by rw[jH h2];exact k3 j u hu⟩
theorem nh.drop {b o:Nat} {us:List Value} (h:nh w b o us) (n:Nat):nh w b (o+n) (us.drop n):=fun j u hu=>by
 rw[List.getElem?_drop] at hu
 have:=h _ _ hu
 rwa [←Nat.add_assoc] at this
theorem nh.take {b o:Nat} {us:List Value} (h:nh w b o us) (n:Nat):nh w b o (us.take n):=fun j u hu=>by
 have hj:j<n:=by
  have:=(List.getElem?_eq_some_iff.1 hu).1
  simp only[List.length_take] at this
  omega
 rw[List.getElem?_take_of_lt hj] at hu
 exact h _ _ hu
theorem AT (h:HRel w0 foot base S.bl S.used E w) {size:Nat} {c:C} {cs:List C} {v:Value} (hr:(CI size c).run S ctx=some cs) (hv:gO E c v):
  ∃b o us,v= .pointer (some ⟨b,o,none⟩)∧b5 E cs us∧nh w b o us:=by
 unfold CI at hr
 split at hr
 ·rename_i b o
  simp only[RM.run] at hr
  split at hr
  ·rename_i B hf
   split at hr
   ·rename_i k9
    cases hr
    obtain⟨p,hp,hn,rfl⟩:=hv
    obtain⟨p',dj,_,vs,e,h1,h2⟩:=h.ck _ _ hf
    rw[hp] at dj;cases dj
    refine⟨_,_,(vs.toList.drop o).take size,rfl,(h2.drop o).take size,?_⟩
    have:nh w p.bc 0 vs.toList:=fun j u hu=>by rw[jH h1];simpa using hu
    simpa using (this.drop o).take size
   ·cases hr
    obtain⟨p,hp,hn,rfl⟩:=hv
    obtain⟨p',dj,_,vs,e,h1,_,h2⟩:=h.ck _ _ hf
    rw[hp] at dj;cases dj
    refine⟨_,_,(vs.toList.drop o).take size,rfl,((gG h2).drop o).take size,?_⟩
    have:nh w p.bc 0 vs.toList:=fun j u hu=>by rw[jH h1];simpa using hu
    simpa using (this.drop o).take size
   ·cases hr
  ·cases hr
 ·rename_i tt b i o
  simp only[RM.run] at hr
  split at hr
  ·rename_i B hf
   split at hr
   ·rename_i iZ e t xs
    split at hr
    ·rename_i ht
     have ht:=Ty.beq_eq ht
     subst ht
     cases hr
     obtain⟨p,hp,hn,hi,rfl⟩:=hv
     obtain⟨p',dj,hB⟩:=h.ck _ _ hf
     rw[hp] at dj;cases dj
     rcases hB with ⟨dk,_⟩|⟨_,hB⟩
     ·rw[hn] at dk;cases dk
     ·obtain⟨us,k1,k2,k3⟩:=Hh hB hi
      exact⟨_,_,(us.drop o).take size,rfl,((gG k1).drop o).take size,(k3.drop o).take size⟩
    ·cases hr
   ·cases hr
  ·cases hr
 ·rename_i t xs i o
  cases hr
  obtain⟨hi,b,off,rfl,k⟩:=hv
  have hx:(Ty.L (t:=t) xs)[i]? =some (DB xs i):=by
   unfold DB
   rw[List.getD_eq_getElem?_getD,List.getElem?_eq_getElem hi]
   rfl
  obtain⟨us,k1,k2,k3⟩:=k i _ hx
  have:nh w b (off+i*t.size) us:=fun j u hu=>by
   obtain⟨c,e,m,h1,h2⟩:=k3 j u hu
   rw[jH (h.mW _ _ h1),Nat.add_assoc]
   exact h2
  have:=(this.drop o).take size
  rw[Nat.add_assoc] at this
  exact⟨_,_,(us.drop o).take size,rfl,((gG k1).drop o).take size,this⟩
 ·cases hr
theorem lM {s:SV} {r:b7} (h:(kH s).run S ctx=some r):r={val:=some s}:=by cases h;rfl
theorem fU {c:C} {r:b7} (h:(cH c).run S ctx=some r):r={val:=some (.one c)}:=by cases h;rfl
theorem Cr {p:Prop} {c:C} {r:b7} (h:(oV p c).run S ctx=some r):r={val:=some (.one c),conds:=[p]}:=by cases h;rfl
theorem Xh (hT:dt P X.ay) (h:SRel w0 foot base S E a w) (hc:bo a ctx) {o:Oper} {t:Nat} {x:Operand} (ho:o.op= .load t x) {r:b7}
  (hr:(do let i ←ti X t;let cs ←CI i.size (←lC x);cR (Nat.beq cs.length i.size);kH (←CC i.d cs):RM b7).run S ctx=some r):bX P w0 foot base S E a w o r:=by
 obtain⟨i,h1,hr⟩:=RM.run_bind' hr
 obtain⟨c,h2,hr⟩:=RM.run_bind' hr
 obtain⟨cs,h3,hr⟩:=RM.run_bind' hr
 obtain⟨u,h4,hr⟩:=RM.run_bind' hr
 obtain⟨s,h5,hr⟩:=RM.run_bind' hr
 obtain⟨hs,j,hj,e1,e2,e3⟩:=df hT h1
 obtain⟨b,off,us,hv,k1,k2⟩:=AT h.toHRel h3 (gq h hc h2)
 have hl:us.length=j.size:=by rw[k1.length,Nat.eq_of_beq_eq_true (bQ h4),e1]
 rw[←hs] at h5
 obtain⟨v,dA,jz⟩:=AN h5 hj hl k1 k2
 rw[lM hr]
 refine bX.value (v:=v) (w':=w) ?_ (iw.pure h.toHRel jz)
 simp[execOp,ho,Instr.loadAt,Instr.sureAddr,hv,dA]
theorem Je (h:HRel w0 foot base S.bl S.used E w) {d:Nat} {cs:List C} {vs:Array Value} {e:TypeId} (hv:b5 E cs vs.toList) (hd:d∉S.used):
  iw w0 foot base S.bl S.used E {val:=some (.one (.ptr d 0)),ck:=[(d,.cells cs)],new:=[d]} (E.new d ⟨false,w.heap.size,0,0⟩) (w.alloc (.cells vs e)) (.pointer (some ⟨w.heap.size,0,none⟩)):=by
 have jR:E.place d=none:=by
  cases he:E.place d with
  |none=>rfl
  |some q=>exact absurd (h.used d q he) hd
 have hle:=Env.nB (p:=⟨false,w.heap.size,0,0⟩) jR
 exact⟨hle,h.alloc hd (fun _=>rfl) ⟨rfl,vs,e,oM,hv.mono hle⟩,⟨_,Env.fa,rfl,rfl⟩⟩
theorem Wd (hT:dt P X.ay) (h:SRel w0 foot base S E a w) {o:Oper} {t d:Nat} (ho:o.op= .alloc t) {r:b7} {i:TI} (h1:(ti X t).run S ctx=some i)
  (hr:(do let cs ←RM.ofOption (lY i.zero.cells.toList); .ret {val:=some (.one (.ptr d 0)),ck:=[(d,.cells cs)],new:=[d]}:RM b7).run S ctx=some r)
  (hn:∀i∈r.new,i∉S.used):bX P w0 foot base S E a w o r:=by
 obtain⟨cs,h2,hr⟩:=RM.run_bind' hr
 obtain⟨hs,j,hj,e1,e2,e3⟩:=df hT h1
 cases hr
 refine bX.value (v:= .pointer (some ⟨w.heap.size,0,none⟩)) (w':=w.alloc (.cells i.zero.cells t)) ?_ (Je h.toHRel (nI (bY h2)) (hn d (by simp)))
 simp[execOp,ho,Instr.alloc,kg hj e3,newVar,newRow]
theorem aaU (h:SRel w0 foot base S E a w) (hc:bo a ctx) {o:Oper} {t d:Nat} {x:Operand} (ho:o.op= .box t x) {r:b7}
  (hr:(do let cs ←oK (←ev x); .ret {val:=some (.one (.ptr d 0)),ck:=[(d,.cells cs)],new:=[d]}:RM b7).run S ctx=some r)
  (hn:∀i∈r.new,i∉S.used):bX P w0 foot base S E a w o r:=by
 obtain⟨s,h1,hr⟩:=RM.run_bind' hr
 obtain⟨cs,h2,hr⟩:=RM.run_bind' hr
 cases hr
 refine bX.value (v:= .pointer (some ⟨w.heap.size,0,none⟩)) (w':=w.alloc (.cells (a.eval x).cells t)) ?_ (Je h.toHRel (o9 h hc h1 h2) (hn d (by simp)))
 simp[execOp,ho,Instr.box,newVar,newRow]
theorem OU (h:SRel w0 foot base S E a w) (hc:bo a ctx) {o:Oper} {x:Operand} (ho:o.op= .move x∨o.op= .assign x) {r:b7}
  (hr:(do kH (←ev x):RM b7).run S ctx=some r):bX P w0 foot base S E a w o r:=by
 obtain⟨s,h1,hr⟩:=RM.run_bind' hr
 rw[lM hr]
 refine bX.value (v:=a.eval x) (w':=w) ?_ (iw.pure h.toHRel (gj h hc h1))
 rcases ho with ho|ho<;>simp[execOp,ho]
theorem WK (h:SRel w0 foot base S E a w) (hc:bo a ctx) {o:Oper} {c:Nat} {x y:Operand} (ho:o.op= .pick (.tmp c) x y) {r:b7}
  (hr:(do
   let g ←JK (←ev (.tmp c))
   let x ←JK (←Sa [(c,true)] x)
   let y ←JK (←Sa [(c,false)] y)
   cH (.aC .bool (bif g then x else y)):RM b7).run S ctx=some r):bX P w0 foot base S E a w o r:=by
 obtain⟨s,h1,hr⟩:=RM.run_bind' hr
 obtain⟨g,h2,hr⟩:=RM.run_bind' hr
 obtain⟨s',h3,hr⟩:=RM.run_bind' hr
 obtain⟨x',h4,hr⟩:=RM.run_bind' hr
 obtain⟨s'',h5,hr⟩:=RM.run_bind' hr
 obtain⟨y',h6,hr⟩:=RM.run_bind' hr
 rw[fU hr]
 have hg:=zx (gj h hc h1) h2
 have Th:bo a ((c,g)::ctx):=fun t ht=>by
  rcases List.mem_cons.1 ht with rfl|ht
  ·have:a.tmps.getD c undef= .bool g:=hg
   simp only
   rw[Array.getD_eq_getD_getElem?] at this
   cases hh:a.tmps[c]? with
   |none=>rw[hh] at this;simp[undef] at this
   |some v=>rw[hh] at this;simpa using this
  ·exact hc t ht
 cases g with
 |true=>
  have hx:=zx (Iw h Th h3) h4
  refine bX.value (v:= .bool x') (w':=w) ?_ (iw.pure h.toHRel ⟨rfl,rfl⟩)
  simp[execOp,ho,hg,asBool,hx]
 |false=>
  have hy:=zx (Iw h Th h5) h6
  refine bX.value (v:= .bool y') (w':=w) ?_ (iw.pure h.toHRel ⟨rfl,rfl⟩)
  simp[execOp,ho,hg,asBool,hy]
theorem Mv (h:SRel w0 foot base S E a w) (hc:bo a ctx) {o:Oper} {x:Operand} (ho:o.op= .nilCheck x) {r:b7}
  (hr:(do
   match ←lC x with
   | .ptr b o=>cH (.ptr b o)
   | .mw t b i o=>cH (.mw t b i o)
   | .sN t xs i o=>cH (.sN t xs i o)
   | .aC (.ptr t) x=> .ret {val:=some (.one (.sN t [x.getD t.Dh] 0 0)),conds:=[x≠none]}
   |_=> .fail:RM b7).run S ctx=some r) (cq:∀c∈r.conds,c):bX P w0 foot base S E a w o r:=by
 obtain⟨c,h1,hr⟩:=RM.run_bind' hr
 have hv:=gq h hc h1
 have key:∀b off,a.eval x= .pointer (some ⟨b,off,none⟩)→r={val:=some (.one c)}→bX P w0 foot base S E a w o r:=fun b off he er=>by
  rw[er]
  exact bX.value (v:=a.eval x) (w':=w) (by simp[execOp,ho,he]) (iw.pure h.toHRel hv)
 split at hr
 ·obtain⟨p,_,_,he⟩:=hv;exact key _ _ he (fU hr)
 ·obtain⟨p,_,_,_,he⟩:=hv;exact key _ _ he (fU hr)
 ·obtain⟨_,b,off,he,_⟩:=hv;exact key _ _ he (fU hr)
 ·rename_i t y
  cases hr
  have hy:=cq _ (List.mem_singleton.2 rfl)
  obtain⟨_,⟨MX,_⟩|⟨z,hz,b,off,he,us,k1,k2,k3⟩⟩:=hv
  ·exact absurd MX hy
  ·subst hz
   simp only[List.cons.injEq,and_true] at he
   refine bX.value (v:=a.eval x) (w':=w) (by simp[execOp,ho,he]) (iw.pure h.toHRel ⟨by simp,b,off,by simpa using he,fun i y hy=> ?_⟩)
   cases i with
   |zero=>
    have hy:z=y:=by simpa using hy
    subst hy
    exact⟨us,k1,k2,fun j u hu=>by simpa using k3 j u hu⟩
   |succ i=>simp at hy
 ·cases hr
theorem JF (hT:dt P X.ay) (h:SRel w0 foot base S E a w) (hc:bo a ctx) {o:Oper} {s:Nat} {x:Operand} {f:Nat} (ho:o.op= .fieldAddr s x f) {r:b7}
  (hr:(do
   let i ←ti X s
   match i.d with
   | .struct fs=>(match fs[f]? with
    |some (off,size,_)=>(do
     cR (Nat.blt 0 size)
     match ←lC x with
     | .ptr b o=>cH (.ptr b (o+off))
     | .mw t b i o=>cH (.mw t b i (o+off))
     | .sN t xs i o=>cH (.sN t xs i (o+off))
     |_=> .fail)
    |none=> .fail)
   |_=> .fail:RM b7).run S ctx=some r):bX P w0 foot base S E a w o r:=by
 obtain⟨i,h1,hr⟩:=RM.run_bind' hr
 obtain⟨hs,j,hj,e1,e2,e3⟩:=df hT h1
 split at hr
 ·rename_i fs hd
  rw[hd] at hs
  obtain⟨gs,hu,rfl⟩:=lL hs
  split at hr
  ·rename_i off size tf hf
   rw[List.getElem?_map] at hf
   obtain⟨g,hg,e⟩:=Option.map_eq_some_iff.1 hf
   simp only[Prod.mk.injEq] at e
   obtain⟨u,h2,hr⟩:=RM.run_bind' hr
   obtain⟨c,h3,hr⟩:=RM.run_bind' hr
   have iX:0<size:=Nat.le_of_ble_eq_true (bQ h2)
   have hv:=gq h hc h3
   have hgi:∃jj,P.info? g.type=some jj∧jj.size=size:=by
    have:=e.2.1
    unfold Program.cellsOf at this
    cases hh:P.info? g.type with
    |none=>rw[hh] at this;simp at this;omega
    |some jj=>rw[hh] at this;exact⟨jj,rfl,by simpa using this⟩
   obtain⟨jj,Pu,hjs⟩:=hgi
   have RX:gs[f]? =some g:=by simpa using hg
   have key:∀b oo c',a.eval x= .pointer (some ⟨b,oo,none⟩)→r={val:=some (.one c')}→gO E c' (.pointer (some ⟨b,oo+off,none⟩))→bX P w0 foot base S E a w o r:=fun b oo c' he er jz=>by
    rw[er]
    refine bX.value (v:= .pointer (some ⟨b,oo+off,none⟩)) (w':=w) ?_ (iw.pure h.toHRel jz)
    have jS:¬jj.size=0:=by omega
    simp[execOp,ho,Instr.fieldAt,run_underlying hu,RX,Instr.sureAddr,he,fieldPlace,dY Pu,jS,nc,e.1]
   split at hr
   ·obtain⟨p,hp,hn,he⟩:=hv
    exact key _ _ _ he (fU hr) ⟨p,hp,hn,rfl⟩
   ·obtain⟨p,hp,hn,hi,he⟩:=hv
    exact key _ _ _ he (fU hr) ⟨p,hp,hn,hi,by simp[Nat.add_assoc]⟩
   ·obtain⟨hi,b,oo,he,k⟩:=hv
    exact key _ _ _ he (fU hr) ⟨hi,b,oo,by simp[Nat.add_assoc],k⟩
   ·cases hr
  ·cases hr
 ·cases hr
end Go.Vc
end

section
set_option linter.unusedVariables false
set_option linter.unusedSimpArgs false
namespace Go.Vc
open Go
variable {P:Program} {X:Ctx} {w0:World} {foot:gF} {base:Mem} {S:St} {E:Env} {a:Act} {w:World} {ctx:c8}
theorem xh {g:Nat} {cur cs:Array Value} {e:TypeId} {m:Nat×Nat} (h:w.heap[g]? =some (.cells cur e m)):w.setRow g cs=eu w g (.cells cs e m):=by
 unfold World.setRow eu
 have hg:=dw h
 congr 1
 apply Array.ext_getElem?
 intro i
 rw[Array.getElem?_modify]
 by_cases hi:g=i
 ·subst hi
  rw[if_pos rfl,h,Array.getElem?_setIfInBounds_self_of_lt hg]
  rfl
 ·rw[if_neg hi,Array.getElem?_setIfInBounds_ne hi]
theorem qD {t g o:Nat} {cur:Array Value} {e:TypeId} {v:Value} {j:TypeInfo} (hi:P.info? t=some j) (hs:v.cells.toList.length=j.size)
  (hg:w.heap[g]? =some (.cells cur e (0,0))) (hl:o+v.cells.toList.length≤cur.size) (h1:∀u∈v.cells.toList,u.oneCell'=true):
  (storeVar t ⟨g,o,none⟩ v).run P w= .ok () (eu w g (.cells (cur.toList.take o++v.cells.toList++cur.toList.drop (o+v.cells.toList.length)).toArray e (0,0))):=by
 have:=run_storeCells_at (P:=P) g o e v.cells.toList 0 cur w hg (by simpa using hl) h1
 rw[xh hg] at this
 simp only[storeVar,Sem.run_bind,dY hi,Result.andThen_ok]
 rw[if_neg (by simpa using hs)]
 simpa using this
theorem b5.qy {cs:List C} {us:List Value} (h:b5 E cs us) {k9:List C} {vs:List Value} (k:b5 E k9 vs) (o:Nat):
  b5 E (qy k9 o cs) (vs.take o++us++vs.drop (o+us.length)):=by
 unfold Vc.qy
 rw[h.length]
 exact((k.take o).append h).append (k.drop _)
theorem Bq:∀{fr:hY} {b:Nat},vn fr b=true→∀p∈fr,p.1≠b
 |[],_,_,p,hp=>by cases hp
 |(m,B)::fr,b,h,p,hp=>by
  unfold vn at h
  split at h
  ·cases h
  ·rename_i hb
   rcases List.mem_cons.1 hp with rfl|hp
   ·intro e;simp only at e;subst e;simp at hb
   ·exact Bq h p hp
theorem ig:∀{fr:hY} {bl:List (Nat×c5)} {b:Nat},(∀p∈fr,p.1≠b)→find (cA fr bl) b=find bl b
 |[],_,_,_=>rfl
 |q::fr,bl,b,h=>by
  show find (cA fr (put bl q.1 q.2)) b=_
  rw[ig fun p hp=>h p (List.mem_cons_of_mem _ hp),bk _ _ _ _ (h q List.mem_cons_self)]
theorem tl {fr:hY} {b:Nat} {B:c5} {bl:List (Nat×c5)} {v:Option SV} {cs:List Prop} {new:List Nat}:
  gN {val:=v,ck:=fr++[(b,B)],new:=new,conds:=cs} bl=put (cA fr bl) b B:=by
 simp[gN,cA,List.foldl_append]
theorem nT.set {p:Place} {e:Nat} {t:Ty} {xs:List t.den} (hB:nT E w p false e t xs) {vs:Array Value} (hv:w.heap[p.bc]? =some (.cells vs e (0,0))) {i:Nat} (hi:i<p.len) {y:t.den} {us:List Value}
  (hy:dh E.F t y us):nT E (eu w p.bc (.cells (vs.toList.take (i*t.size)++us++vs.toList.drop (i*t.size+t.size)).toArray e (0,0))) p false e t (xs.set i y):=by
 obtain⟨h0,⟨h1,nR⟩,A9,h2,h3,h4,h5⟩:=hB
 rw[hv] at h2
 cases h2
 have Ax:=hy.length
 have hmul:i*t.size+t.size≤p.cap*t.size:=by
  rw[←Nat.succ_mul]
  exact Nat.mul_le_mul_right _ (by omega)
 have MY:vs.toList.length=p.cap*t.size:=by simpa using h3
 refine⟨h0,⟨by simpa using h1,nR⟩,_,iB (dw hv),?_,(fun hf=>by cases hf),fun k x hx=> ?_⟩
 ·simp only[List.size_toArray,List.length_append,List.length_take,List.length_drop]
  omega
 ·by_cases hk:i=k
  ·subst hk
   rw[List.getElem?_set_self (by omega)] at hx
   cases hx
   refine⟨us,hy,Ax,fun j u hu=> ?_⟩
   have hj:j<us.length:=(List.getElem?_eq_some_iff.1 hu).1
   simp only[List.getElem?_toArray]
   rw[List.getElem?_append_left (by simp;omega),List.getElem?_append_right (by simp;omega)]
   rw[←hu]
   congr 1
   simp
   omega
  ·rw[List.getElem?_set_ne hk] at hx
   obtain⟨F7,k1,k2,k3⟩:=h5 k x hx
   refine⟨F7,k1,k2,fun j u hu=> ?_⟩
   have hj:j<F7.length:=(List.getElem?_eq_some_iff.1 hu).1
   have:=k3 j u hu
   simp only[List.getElem?_toArray]
   rcases Nat.lt_or_gt_of_ne hk with dK|dK
   ·have hm:i*t.size+t.size≤k*t.size:=by
     rw[←Nat.succ_mul]
     exact Nat.mul_le_mul_right _ (by omega)
    rw[List.getElem?_append_right (by simp;omega),List.getElem?_drop]
    rw[←this,←Array.getElem?_toList]
    congr 1
    simp
    omega
   ·have hm:k*t.size+t.size≤i*t.size:=by
     rw[←Nat.succ_mul]
     exact Nat.mul_le_mul_right _ (by omega)
    rw[List.append_assoc,List.getElem?_append_left (by simp;omega),List.getElem?_take_of_lt (by omega)]
    rw[←this,←Array.getElem?_toList]
theorem JU (hT:dt P X.ay) (h:SRel w0 foot base S E a w) (hc:bo a ctx) {o:Oper} {t:Nat} {x v:Operand} (ho:o.op= .store t x v) {r:b7}
  {i:TI} (h1:(ti X t).run S ctx=some i) {s:SV} (h2:(ev v).run S ctx=some s) {cs:List C} (h3:(oK s).run S ctx=some cs)
  (hr:(do zM i.size cs (←lC x):RM b7).run S ctx=some r):bX P w0 foot base S E a w o r:=by
 obtain⟨c,h4,hr⟩:=RM.run_bind' hr
 obtain⟨hs,j,hj,e1,e2,e3⟩:=df hT h1
 have mA:=o9 h hc h2 h3
 have FE:=mA.oB
 have hlen:=mA.length
 have hx:=gq h hc h4
 unfold zM at hr
 split at hr
 ·rename_i b off
  simp only[RM.run] at hr
  split at hr
  ·rename_i B hf
   split at hr
   ·rename_i k9
    split at hr
    ·rename_i hb
     cases hr
     simp only[Bool.and_eq_true] at hb
     have yf:=Nat.eq_of_beq_eq_true hb.1
     have C1:=Nat.le_of_ble_eq_true hb.2
     obtain⟨p,hp,hn,CZ⟩:=hx
     obtain⟨p',dj,_,vs,e,k1,k2⟩:=h.ck _ _ hf
     rw[hp] at dj;cases dj
     have MY:=k2.length
     simp only[Array.length_toList] at MY
     have dA:=qD (P:=P) (o:=off) hj (by rw[hlen,yf,e1]) k1 (by omega) FE
     refine bX.skip (w':=eu w p.bc (.cells _ e (0,0))) (E':=E) ?_ ⟨.refl _,h.toHRel.write hf hp hn rfl ⟨hn,_,e,iB (dw k1),mA.qy k2 off⟩,trivial⟩
     simp[execOp,ho,Instr.storeAt,Instr.sureAddr,CZ,dA]
    ·cases hr
   ·cases hr
  ·cases hr
 ·rename_i tt b k off
  simp only[RM.run] at hr
  split at hr
  ·rename_i B hf
   split at hr
   ·rename_i e t' xs
    split at hr
    ·rename_i hb
     simp only[Bool.and_eq_true] at hb
     have ht:=Ty.beq_eq hb.1.1
     have yf:=Nat.eq_of_beq_eq_true hb.1.2
     have C1:=Nat.le_of_ble_eq_true hb.2
     subst ht
     obtain⟨p,hp,hn,hi,CZ⟩:=hx
     obtain⟨p',dj,hB⟩:=h.ck _ _ hf
     rw[hp] at dj;cases dj
     have hB:nT E w p false e tt xs:=by
      rcases hB with ⟨dk,_⟩|⟨_,hB⟩
      ·rw[hn] at dk;cases dk
      ·exact hB
     have zc:=hB
     obtain⟨g0,⟨g1,g1'⟩,vs,g2,g3,g4,g5⟩:=hB
     have hmul:k*tt.size+tt.size≤p.cap*tt.size:=by
      rw[←Nat.succ_mul]
      exact Nat.mul_le_mul_right _ (by omega)
     have MY:vs.toList.length=p.cap*tt.size:=by simpa using g3
     have dA:=qD (P:=P) (o:=k*tt.size+off) hj (by rw[hlen,yf,e1]) g2 (by rw[g3];omega) FE
     have key:∀(y:tt.den) (fr:hY) (ds:List C) (ws:List Value),(reify tt ds).run S ctx=some (y,fr)→vn fr b=true→b5 E ds ws→
       vs.toList.take (k*tt.size+off)++(a.eval v).cells.toList++vs.toList.drop (k*tt.size+off+(a.eval v).cells.toList.length)=vs.toList.take (k*tt.size)++ws++vs.toList.drop (k*tt.size+tt.size)→
       bX P w0 foot base S E a w o {ck:=fr++[(b,.row false e tt (xs.set k y))]}:=fun y fr ds ws hy nD hds heq=>by
      have H4:=gx hy
      obtain⟨E1,l1,q1,f1,nR⟩:=h.toHRel.cA H4
      have hfz:=fm.qg H4 nR
      have jz:=jr hy (hds.mono l1) hfz
      have eh:find (cA fr S.bl) b=some (.row false e tt xs):=by rw[ig (Bq nD)];exact hf
      have hw:=nR.write (B':= .row false e tt (xs.set k y)) eh (q1▸hp) hn rfl (Or.inr ⟨hn,(zc.mono l1).set g2 hi jz⟩)
      refine bX.skip (w':=eu w p.bc _) (E':=E1) ?_ ⟨l1,by rw[tl];exact hw,trivial⟩
      simp only[execOp,ho,Instr.storeAt,Instr.sureAddr,CZ,Sem.run_bind,Sem.run_pure,Result.andThen_ok]
      rw[dA,heq]
      rfl
     split at hr
     ·rename_i iX
      have iX:=Nat.eq_of_beq_eq_true iX
      obtain⟨⟨y,fr⟩,k1,hr⟩:=RM.run_bind' hr
      obtain⟨u,k2,hr⟩:=RM.run_bind' hr
      cases hr
      have Tk:off=0:=by omega
      subst Tk
      exact key y fr cs _ k1 (bQ k2) mA (by simp only[Nat.add_zero,hlen,yf,iX])
     ·obtain⟨⟨y,fr⟩,k1,hr⟩:=RM.run_bind' hr
      obtain⟨u,k2,hr⟩:=RM.run_bind' hr
      cases hr
      obtain⟨us,m1,m2,m3⟩:=Hh zc hi
      have Ax:us=(vs.toList.drop (k*tt.size)).take tt.size:=by
       apply List.ext_getElem?
       intro n
       by_cases dk:n<tt.size
       ·rw[List.getElem?_take_of_lt dk,List.getElem?_drop]
        have:=m3 n us[n] (List.getElem?_eq_getElem (by omega))
        rw[jH g2] at this
        rw[List.getElem?_eq_getElem (by omega),←this]
        simp
       ·rw[List.getElem?_eq_none (by omega),List.getElem?_eq_none (by simp;omega)]
      refine key y fr _ _ k1 (bQ k2) (mA.qy (gG m1) off) ?_
      rw[hlen,yf,Ax]
      simp only[List.take_take,List.drop_take,List.drop_drop,List.append_assoc]
      rw[Nat.min_eq_left (by omega)]
      have e1:vs.toList.take (k*tt.size+off)=vs.toList.take (k*tt.size)++(vs.toList.drop (k*tt.size)).take off:=by
       rw[List.take_add]
      rw[e1]
      simp only[List.append_assoc]
      congr 3
      have e2:vs.toList.drop (k*tt.size+off+i.size)=(vs.toList.drop (k*tt.size+off+i.size)).take (tt.size - (off+i.size))++(vs.toList.drop (k*tt.size+off+i.size)).drop (tt.size - (off+i.size)):=(List.take_append_drop _ _).symm
      rw[e2,List.drop_drop]
      rw[show k*tt.size+off+i.size=k*tt.size+(off+i.size) by omega,show k*tt.size+(off+i.size)+(tt.size - (off+i.size))=k*tt.size+tt.size by omega]
    ·cases hr
   ·cases hr
  ·cases hr
 ·cases hr
theorem zi (cells:Array Value) (off:Nat):∀(us:List Value) (k:Nat) (cs:Array Value),off+k+us.length≤cs.size→
  ((us.zipIdx k).foldl (fun cs (p:Value×Nat)=>cs.setIfInBounds (off+p.2) p.1) cs).toList=cs.toList.take (off+k)++us++cs.toList.drop (off+k+us.length)
 |[],k,cs,_=>by simp
 |u::us,k,cs,h=>by
  simp only[List.zipIdx_cons,List.foldl_cons]
  rw[zi cells off us (k+1) _ (by simp at h ⊢;omega)]
  have hk:off+k<cs.toList.length:=by simp at h ⊢;omega
  simp only[Array.toList_setIfInBounds]
  apply List.ext_getElem?
  intro n
  simp only[List.length_cons]
  by_cases h1:n<off+k
  ·rw[List.append_assoc,List.append_assoc,List.getElem?_append_left (by simp;omega),List.getElem?_append_left (by simp;omega),List.getElem?_take_of_lt (by omega),List.getElem?_take_of_lt (by omega),List.getElem?_set_ne (by omega)]
  ·by_cases h2:n=off+k
   ·subst h2
    rw[List.append_assoc,List.append_assoc,List.getElem?_append_left (by simp at h ⊢;omega),List.getElem?_take_of_lt (by omega),List.getElem?_set_self (by omega),
     List.getElem?_append_right (by simp;omega),List.getElem?_append_left (by simp;omega)]
    simp only[List.length_take]
    rw[Nat.min_eq_left (by omega)]
    simp
   ·have hn:off+k+1≤n:=by omega
    by_cases h3:n<off+(k+1)+us.length
    ·rw[List.getElem?_append_left (by simp at h ⊢;omega),List.getElem?_append_right (by simp;omega),List.getElem?_append_left (by simp at h ⊢;omega),List.getElem?_append_right (by simp;omega)]
     simp only[List.length_take,List.length_set]
     rw[show n - min (off+k) cs.toList.length=(n - min (off+(k+1)) cs.toList.length)+1 by omega,List.getElem?_cons_succ]
    ·rw[List.getElem?_append_right (by simp at h ⊢;omega),List.getElem?_append_right (by simp at h ⊢;omega)]
     simp only[List.getElem?_drop,List.length_append,List.length_take,List.length_set,List.length_cons]
     rw[List.getElem?_set_ne (by omega)]
     congr 1
     omega
theorem u0 (h:SRel w0 foot base S E a w) (hc:bo a ctx) {pl:Nat→Option (Nat×Nat)} {fs:List (Nat×Nat×Nat)}
  (hp:∀(i:Nat) off size t,fs[i]? =some (off,size,t)→pl i=some (off,size)):∀{ps:List (Nat×Operand)} {cs ds:List C} {cells:Array Value},
  (u3 fs ps cs).run S ctx=some ds→b5 E cs cells.toList→
  ∃fu,Instr.fill pl cells (ps.map fun(i,x)=>(i,a.eval x))=some fu∧b5 E ds fu.toList
 |[],cs,ds,cells,hr,mA=>by
  cases hr
  exact⟨cells,rfl,mA⟩
 |(i,x)::ps,cs,ds,cells,hr,mA=>by
  unfold u3 at hr
  obtain⟨s,h1,hr⟩:=RM.run_bind' hr
  obtain⟨us,h2,hr⟩:=RM.run_bind' hr
  split at hr
  ·rename_i off size t hf
   split at hr
   ·rename_i hb
    simp only[Bool.and_eq_true] at hb
    have yf:=Nat.eq_of_beq_eq_true hb.1
    have C1:=Nat.le_of_ble_eq_true hb.2
    have Ax:=o9 h hc h1 h2
    have hl:=Ax.length
    have mf:=mA.length
    simp only[Array.length_toList] at hl mf
    have H3:=zi cells off (a.eval x).cells.toList 0 cells (by simp only[Array.length_toList];omega)
    simp only[Nat.add_zero] at H3
    obtain⟨fu,k1,k2⟩:=u0 h hc hp (cells:=(a.eval x).cells.zipIdx.foldl (fun cs (c,j)=>cs.setIfInBounds (off+j) c) cells) hr (by
     have e:((a.eval x).cells.zipIdx.foldl (fun cs (c,j)=>cs.setIfInBounds (off+j) c) cells).toList=cells.toList.take off++(a.eval x).cells.toList++cells.toList.drop (off+(a.eval x).cells.toList.length):=by
      rw[←Array.foldl_toList,Array.toList_zipIdx]
      exact H3
     rw[e]
     exact Ax.qy mA off)
    refine⟨fu,?_,k2⟩
    simp only[List.map_cons,Instr.fill,hp _ _ _ _ hf]
    rw[if_neg (by simp;omega)]
    exact k1
   ·cases hr
  ·cases hr
theorem D2 (gs:Array Field) (hi:∀f∈gs,∃j,P.info? f.type=some j):
  (gs.mapM fun(f:Field)=>(do pure (f.offset,←sizeOf f.type):Sem (Nat×Nat))).run P w= .ok (gs.map fun f=>(f.offset,P.cellsOf f.type)) w:=by
 rw[Array.mapM_eq_mapM_toList]
 have key:∀l:List Field,(∀f∈l,∃j,P.info? f.type=some j)→(l.mapM fun(f:Field)=>(do pure (f.offset,←sizeOf f.type):Sem (Nat×Nat))).run P w= .ok (l.map fun f=>(f.offset,P.cellsOf f.type)) w:=by
  intro l
  induction l with
  |nil=>intro _;rfl
  |cons f l ih=>
   intro hl
   obtain⟨j,hj⟩:=hl f List.mem_cons_self
   simp only[List.mapM_cons,Sem.run_bind,dY hj,Result.andThen_ok,Sem.run_pure,ih fun g hg=>hl g (List.mem_cons_of_mem _ hg),List.map_cons]
   simp[Program.cellsOf,hj]
 rw[Sem.run_map,key gs.toList (fun f hf=>hi f (by simpa using hf)),Result.andThen_ok]
 have e:(gs.toList.map fun f=>(f.offset,P.cellsOf f.type)).toArray=gs.map fun f=>(f.offset,P.cellsOf f.type):=by
  apply Array.ext'
  rw[Array.toList_map]
 rw[e]
end Go.Vc
end

section
set_option linter.unusedVariables false
set_option linter.unusedSimpArgs false
namespace Go.Vc
open Go
variable {P:Program} {X:Ctx} {w0:World} {foot:gF} {base:Mem} {S:St} {E:Env} {a:Act} {w:World} {ctx:c8}
theorem El {t:Nat} (h:0<P.cellsOf t):∃j,P.info? t=some j:=by
 unfold Program.cellsOf at h
 cases hh:P.info? t with
 |none=>rw[hh] at h;simp at h
 |some j=>exact⟨j,rfl⟩
theorem Ah (hT:dt P X.ay) (h:SRel w0 foot base S E a w) (hc:bo a ctx) {o:Oper} {t:Nat} {ps:Array (Nat×Operand)} (ho:o.op= .build t ps) {r:b7}
  (hr:(do
   let i ←ti X t
   match i.d with
   | .struct fs=>(do
    cR (fs.all fun f=>Nat.blt 0 f.2.1)
    let z ←RM.ofOption (lY i.zero.cells.toList)
    let cs ←u3 fs ps.toList z
    kH (.agg cs))
   | .array n e=>(do
    let j ←ti X e
    let z ←RM.ofOption (lY i.zero.cells.toList)
    let cs ←u3 (Ss n j.size e) ps.toList z
    kH (.agg cs))
   |_=> .fail:RM b7).run S ctx=some r):bX P w0 foot base S E a w o r:=by
 obtain⟨i,h1,hr⟩:=RM.run_bind' hr
 obtain⟨hs,j,hj,e1,e2,e3⟩:=df hT h1
 split at hr
 ·rename_i fs hd
  rw[hd] at hs
  obtain⟨gs,hu,rfl⟩:=lL hs
  obtain⟨u,h2,hr⟩:=RM.run_bind' hr
  obtain⟨z,h3,hr⟩:=RM.run_bind' hr
  obtain⟨cs,h4,hr⟩:=RM.run_bind' hr
  rw[lM hr]
  have wJ:=bQ h2
  have ael:∀f∈gs,∃j,P.info? f.type=some j:=fun f hf=>by
   rw[List.all_map,List.all_eq_true] at wJ
   have:=wJ f (by simpa using hf)
   exact El (Nat.le_of_ble_eq_true this)
  obtain⟨fu,k1,k2⟩:=u0 h hc (pl:=fun i=>(gs.map fun f=>(f.offset,P.cellsOf f.type))[i]?) (fun i off size t hf=>by
   rw[List.getElem?_map] at hf
   obtain⟨g,hg,e⟩:=Option.map_eq_some_iff.1 hf
   simp only[Prod.mk.injEq] at e
   have RX:gs[i]? =some g:=by simpa using hg
   simp[RX,e.1,e.2.1]) h4 (nI (bY h3))
  refine bX.value (v:= .agg fu) (w':=w) ?_ (iw.pure h.toHRel ⟨fu,rfl,k2⟩)
  have hm:=D2 (P:=P) (w:=w) gs ael
  simp only[execOp,ho,Instr.build,Sem.run_bind,kg hj e3,run_underlying hu,Result.andThen_ok]
  simp only[Sem.run_bind,hm,Result.andThen_ok]
  simp at k1
  simp[k1]
 ·rename_i n e hd
  rw[hd] at hs
  have hu:=sd hs
  obtain⟨i',h2,hr⟩:=RM.run_bind' hr
  obtain⟨z,h3,hr⟩:=RM.run_bind' hr
  obtain⟨cs,h4,hr⟩:=RM.run_bind' hr
  rw[lM hr]
  obtain⟨nC,j',M6,e1',e2',e3'⟩:=df hT h2
  obtain⟨fu,k1,k2⟩:=u0 h hc (pl:=fun k=>some (k*j'.size,j'.size)) (fun k off size t hf=>by
   unfold Ss at hf
   rw[List.getElem?_map] at hf
   obtain⟨g,hg,e⟩:=Option.map_eq_some_iff.1 hf
   simp only[Prod.mk.injEq] at e
   have hg:k=g:=by
    obtain⟨dK,hg⟩:=List.getElem?_eq_some_iff.1 hg
    simpa using hg
   subst hg
   rw[e1',e.1,e.2.1]) h4 (nI (bY h3))
  refine bX.value (v:= .agg fu) (w':=w) ?_ (iw.pure h.toHRel ⟨fu,rfl,k2⟩)
  simp only[execOp,ho,Instr.build,Sem.run_bind,kg hj e3,run_underlying hu,Result.andThen_ok,dY M6]
  simp at k1
  simp[k1]
 ·cases hr
theorem Rq {d:TD} {t:Nat} (hs:j6 P t=d) {cs ds:List C} {vs:Array Value} {off:Nat} {s:SV} {j:TypeInfo} (hj:P.info? t=some j) (hv:b5 E ds vs.toList) (hd:cs=(ds.drop off).take j.size) (hl:off+j.size≤ds.length)
  (hr:(CC d cs).run S ctx=some s):∃v,(part t vs off).run P w= .ok v w∧ft E s v:=by
 subst hs
 have MY:=hv.length
 have mA:=(hv.drop off).take j.size
 rw[←hd] at mA
 unfold CC at hr
 split at hr
 ·rename_i fs hs
  cases hr
  obtain⟨gs,hu,_⟩:=lL hs
  refine⟨.agg (vs.extract off (off+j.size)),by simp[part,qE hu,dY hj],_,rfl,?_⟩
  have e:(vs.extract off (off+j.size)).toList=(vs.toList.drop off).take j.size:=by simp[List.extract_eq_take_drop]
  rw[e]
  exact mA
 ·rename_i n e' hs
  cases hr
  refine⟨.agg (vs.extract off (off+j.size)),by simp[part,wi (sd hs),dY hj],_,rfl,?_⟩
  have e:(vs.extract off (off+j.size)).toList=(vs.toList.drop off).take j.size:=by simp[List.extract_eq_take_drop]
  rw[e]
  exact mA
 ·cases hr
 ·split at hr
  ·rename_i h1 h2 h3 c
   cases hr
   obtain⟨v,us,he,k1,k2⟩:=mA
   refine⟨v,?_,k1⟩
   have Ku:(isAgg t).run P w= .ok false w:=oc (by cases hs:j6 P t<;>simp_all)
   have wH:vs[off]? =some v:=by
    have:((vs.toList.drop off).take j.size)[0]? =some v:=by rw[he];rfl
    have hj1:0<j.size:=by
     rcases Nat.eq_zero_or_pos j.size with hz|hz
     ·rw[hz] at hd;simp at hd
     ·exact hz
    rw[List.getElem?_take_of_lt hj1,List.getElem?_drop] at this
    simpa using this
   simp[part,Ku,wH]
  ·cases hr
theorem Vu (hT:dt P X.ay) (h:SRel w0 foot base S E a w) (hc:bo a ctx) {o:Oper} {t:Nat} {x:Operand} {f:Nat} (ho:o.op= .field t x f) {r:b7}
  (hr:(do
   let i ←ti X t
   match i.d,←ev x with
   | .struct fs,.agg cs=>(match fs[f]? with
    |some (off,size,t)=>(do
     let j ←ti X t
     cR (Nat.ble (off+size) cs.length&&Nat.beq j.size size)
     kH (←CC j.d ((cs.drop off).take size)))
    |none=> .fail)
   |_,_=> .fail:RM b7).run S ctx=some r):bX P w0 foot base S E a w o r:=by
 obtain⟨i,h1,hr⟩:=RM.run_bind' hr
 obtain⟨s,h2,hr⟩:=RM.run_bind' hr
 obtain⟨hs,j,hj,e1,e2,e3⟩:=df hT h1
 have hv:=gj h hc h2
 split at hr
 ·rename_i fs cs hd
  rw[hd] at hs
  obtain⟨gs,hu,rfl⟩:=lL hs
  obtain⟨vs,CZ,jz⟩:=hv
  split at hr
  ·rename_i off size tf hf
   obtain⟨i',h3,hr⟩:=RM.run_bind' hr
   obtain⟨u,h4,hr⟩:=RM.run_bind' hr
   obtain⟨s',h5,hr⟩:=RM.run_bind' hr
   rw[lM hr]
   obtain⟨nC,j',M6,e1',e2',e3'⟩:=df hT h3
   have hb:=bQ h4
   simp only[Bool.and_eq_true] at hb
   have yf:=Nat.le_of_ble_eq_true hb.1
   have C1:=Nat.eq_of_beq_eq_true hb.2
   rw[List.getElem?_map] at hf
   obtain⟨g,hg,e⟩:=Option.map_eq_some_iff.1 hf
   simp only[Prod.mk.injEq] at e
   have RX:gs[f]? =some g:=by simpa using hg
   obtain⟨eo,es,et⟩:=e
   subst eo et
   have iX:j'.size=size:=by omega
   obtain⟨v,k1,k2⟩:=Rq (w:=w) nC M6 jz (off:=g.offset) (by rw[iX]) (by omega) h5
   refine bX.value (v:=v) (w':=w) ?_ (iw.pure h.toHRel k2)
   simp[execOp,ho,Instr.field,run_underlying hu,RX,CZ,asAgg,k1]
  ·cases hr
 ·cases hr
theorem ft.go_get:∀{l:List (Bool×List C)} {vs:List Value},ft.go E l vs→∀(k:Nat) g cs,l[k]? =some (g,cs)→∃v,vs[k]? =some v∧
  (match g with |true=>∃ws,v= .agg ws∧b5 E cs ws.toList|false=>∃c,cs=[c]∧gO E c v)
 |[],_,_,k,g,cs,h=>by simp at h
 |(g',Yo)::l,_,hh,0,g,cs,h=>by
  obtain⟨v,us,hv,k1,k2⟩:=hh
  subst hv
  simp only[List.getElem?_cons_zero,Option.some.injEq,Prod.mk.injEq] at h
  obtain⟨rfl,rfl⟩:=h
  exact⟨v,rfl,k1⟩
 |(g',Yo)::l,_,hh,k+1,g,cs,h=>by
  obtain⟨v,us,hv,k1,k2⟩:=hh
  subst hv
  simpa using ft.go_get k2 k g cs (by simpa using h)
theorem PO (h:SRel w0 foot base S E a w) (hc:bo a ctx) {o:Oper} {x:Operand} {k:Nat} (ho:o.op= .extract x k) {r:b7}
  (hr:(do
   match ←ev x with
   | .yb vs=>(match vs[k]? with
    |some (true,cs)=>kH (.agg cs)
    |some (false,[c])=>cH c
    |_=> .fail)
   |_=> .fail:RM b7).run S ctx=some r):bX P w0 foot base S E a w o r:=by
 obtain⟨s,h1,hr⟩:=RM.run_bind' hr
 have hv:=gj h hc h1
 split at hr
 ·rename_i l
  obtain⟨vs,CZ,jz⟩:=hv
  split at hr
  ·rename_i cs hk
   rw[lM hr]
   obtain⟨v,k1,ws,rfl,k2⟩:=ft.go_get jz k _ _ hk
   refine bX.value (v:= .agg ws) (w':=w) ?_ (iw.pure h.toHRel ⟨ws,rfl,k2⟩)
   have Bw:vs[k]? =some (.agg ws):=by simpa using k1
   simp[execOp,ho,Instr.extract,CZ,Bw]
  ·rename_i c hk
   rw[fU hr]
   obtain⟨v,k1,c',hcc,k2⟩:=ft.go_get jz k _ _ hk
   cases hcc
   refine bX.value (v:=v) (w':=w) ?_ (iw.pure h.toHRel k2)
   have Bw:vs[k]? =some v:=by simpa using k1
   simp[execOp,ho,Instr.extract,CZ,Bw]
  ·cases hr
 ·cases hr
theorem qc (k:IntKind) (n:Int):bq k (k.wrap n):=by
 cases k<;>simp[bq,IntKind.min,IntKind.max,IntKind.wrap,IntKind.signed,IntKind.bits]<;>(first|(split<;>omega)|omega)
theorem Ko {k:IntKind} {n:Int} (h:bq k n):k.wrap n=n:=by
 cases k<;>simp[bq,IntKind.min,IntKind.max,IntKind.wrap,IntKind.signed,IntKind.bits] at * <;>(first|(split<;>omega)|omega)
theorem Qf {wr:Bool} {k:IntKind} {n:Int} {r:b7} (h:(arith wr k n).run S ctx=some r) (hc:∀c∈r.conds,c):
  ∃m,r.val=some (.one (.aC (.int k) m))∧m=k.wrap n∧bq k m∧r.ck=[]∧r.del=[]∧r.new=[]:=by
 unfold arith at h
 split at h
 ·cases h
  exact⟨_,rfl,rfl,qc _ _,rfl,rfl,rfl⟩
 ·cases h
  have:bq k n:=hc _ (by simp)
  exact⟨_,rfl,(Ko this).symm,this,rfl,rfl,rfl⟩
def fp (E:Env) (r:b7) (v:Value):Prop:=(∃s,r.val=some s∧ft E s v)∧r.ck=[]∧r.del=[]∧r.new=[]
theorem fp.after (h:HRel w0 foot base S.bl S.used E w) {r:b7} {v:Value} (hv:fp E r v):iw w0 foot base S.bl S.used E r E w v:=by
 obtain⟨⟨s,h1,h2⟩,h3,h4,h5⟩:=hv
 refine⟨.refl _,?_,?_⟩
 ·have:gN r S.bl=S.bl:=by simp[gN,h3,h4]
  rw[this,h5]
  exact h
 ·rw[h1];exact h2
theorem fp.cH {c:C} {r:b7} {v:Value} (h:(Vc.cH c).run S ctx=some r) (hv:gO E c v):fp E r v:=by
 rw[fU h];exact⟨⟨_,rfl,hv⟩,rfl,rfl,rfl⟩
theorem fp.int {k:IntKind} {n:Int} {r:b7} {conds:List Prop} (h:r={val:=some (.one (.aC (.int k) n)),conds:=conds}) (hn:bq k n):fp E r (.int k n):=by
 rw[h];exact⟨⟨_,rfl,rfl,rfl,hn⟩,rfl,rfl,rfl⟩
theorem fp.bool {b:Bool} {r:b7} (h:(Vc.cH (.aC .bool b)).run S ctx=some r):fp E r (.bool b):= .cH h ⟨rfl,rfl⟩
theorem q8 {wr:Bool} {k:IntKind} {n:Int} {r:b7} (h:(arith wr k n).run S ctx=some r) (hc:∀c∈r.conds,c):fp E r (.int k (k.wrap n)):=by
 obtain⟨m,h1,h2,h3,h4,h5,h6⟩:=Qf h hc
 subst h2
 exact⟨⟨_,h1,rfl,rfl,h3⟩,h4,h5,h6⟩
theorem xX {k:IntKind} {x z:Int} (hx:bq k x) (h1:0≤x→0≤z∧z≤x) (h2:x<0→x≤z∧z≤0):bq k z:=by
 have h0:k.min≤0∧0≤k.max:=by cases k<;>decide
 unfold bq at *
 by_cases h:0≤x
 ·have:=h1 h;omega
 ·have:=h2 (by omega);omega
theorem Up {k:IntKind} {x y:Int} (hx:bq k x):bq k (x.tmod y):=by
 have h1:(x.tmod y).natAbs≤x.natAbs:=by
  rw[Int.natAbs_tmod]
  exact Nat.mod_le _ _
 have h2:0≤x→0≤x.tmod y:=Int.tmod_nonneg y
 have h3:x<0→x.tmod y≤0:=fun h=>by
  have:=Int.tmod_nonneg (a:= -x) y (by omega)
  rw[Int.neg_tmod] at this
  omega
 exact xX hx (fun h=>by have:=h2 h;omega) (fun h=>by have:=h3 h;omega)
theorem MQ {wr:Bool} {op:BinOp} {k:IntKind} {x y:Int} {r:b7} (hx:bq k x) (hy:bq k y) (h:(RE wr op k x y).run S ctx=some r) (hc:∀c∈r.conds,c) (t:Nat):
  ∃v,(binOp op t (.int k x) (.int k y)).run P w= .ok v w∧fp E r v:=by
 cases op<;>simp only[RE] at h
 case add=>exact⟨.int k (k.wrap (x+y)),by simp[binOp,Op.intArith],q8 h hc⟩
 case sub=>exact⟨.int k (k.wrap (x - y)),by simp[binOp,Op.intArith],q8 h hc⟩
 case mul=>exact⟨.int k (k.wrap (x*y)),by simp[binOp,Op.intArith],q8 h hc⟩
 case quo=>
  cases h
  have Xx:y≠0:=hc (y≠0) (by simp)
  exact⟨.int k (k.wrap (x.tdiv y)),by simp[binOp,Op.intDiv,Xx],.int rfl (qc _ _)⟩
 case rem=>
  cases h
  have Xx:y≠0:=hc (y≠0) (by simp)
  exact⟨.int k (x.tmod y),by simp[binOp,Op.intDiv,Xx],.int rfl (Up hx)⟩
 case and=>exact⟨.int k (bitsOf .and k x y),by simp[binOp,Op.intBits,bitsOf],.cH h ⟨rfl,rfl,qc _ _⟩⟩
 case or=>exact⟨.int k (bitsOf .or k x y),by simp[binOp,Op.intBits,bitsOf],.cH h ⟨rfl,rfl,qc _ _⟩⟩
 case xor=>exact⟨.int k (bitsOf .xor k x y),by simp[binOp,Op.intBits,bitsOf],.cH h ⟨rfl,rfl,qc _ _⟩⟩
 case andNot=>exact⟨.int k (bitsOf .andNot k x y),by simp[binOp,Op.intBits,bitsOf],.cH h ⟨rfl,rfl,qc _ _⟩⟩
 case eql=>exact⟨.bool (x==y),by simp[binOp,Op.intCmp],.bool h⟩
 case neq=>exact⟨.bool (x !=y),by simp[binOp,Op.intCmp],.bool h⟩
 case lss=>exact⟨.bool (decide (x<y)),by simp[binOp,Op.intCmp],.bool h⟩
 case leq=>exact⟨.bool (decide (x≤y)),by simp[binOp,Op.intCmp],.bool h⟩
 case gtr=>exact⟨.bool (decide (x>y)),by simp[binOp,Op.intCmp],.bool h⟩
 case geq=>exact⟨.bool (decide (x≥y)),by simp[binOp,Op.intCmp],.bool h⟩
 all_goals cases h
theorem Vv {k:IntKind} {x:Int} {n:Nat} (hx:bq k x):bq k (x.fdiv (2 ^ n)):=by
 have hp:(0:Int)<2 ^ n:=Int.pow_pos (by decide)
 rw[Int.fdiv_eq_ediv_of_nonneg _ (Int.le_of_lt hp)]
 have h1:0≤x→x / 2 ^ n≤x:=fun h=>Int.ediv_le_self _ h
 have h2:0≤x→0≤x / 2 ^ n:=fun h=>Int.ediv_nonneg h (Int.le_of_lt hp)
 have h3:x<0→x / 2 ^ n<0:=fun h=>Int.ediv_neg_of_neg_of_pos h hp
 have h4:x<0→x≤x / 2 ^ n:=fun h=>by
  rw[Int.le_ediv_iff_mul_le hp]
  have:x*2 ^ n≤x*1:=Int.mul_le_mul_of_nonpos_left (by omega) (by omega)
  omega
 exact xX hx (fun h=>⟨h2 h,h1 h⟩) (fun h=>⟨h4 h,by have:=h3 h;omega⟩)
theorem G5 {op:BinOp} {j k:IntKind} {x y:Int} {r:b7} (hx:bq j x) (h:(G6 op j x y).run S ctx=some r) (hc:∀c∈r.conds,c) (t:Nat):
  ∃v,(binOp op t (.int j x) (.int k y)).run P w= .ok v w∧fp E r v:=by
 cases op<;>simp only[G6] at h
 case shl=>
  cases h
  have hy:0≤y:=hc (0≤y) (by simp)
  have MX:¬y<0:=by omega
  exact⟨_,by simp only[binOp,Op.shift,if_neg MX];rfl,.int rfl (qc _ _)⟩
 case shr=>
  cases h
  have hy:0≤y:=hc (0≤y) (by simp)
  have MX:¬y<0:=by omega
  exact⟨_,by simp only[binOp,Op.shift,if_neg MX];rfl,.int rfl (Vv hx)⟩
 all_goals cases h
end Go.Vc
end

section
set_option linter.unusedVariables false
set_option linter.unusedSimpArgs false
namespace Go.Vc
open Go
variable {P:Program} {X:Ctx} {w0:World} {foot:gF} {base:Mem} {S:St} {E:Env} {a:Act} {w:World} {ctx:c8}
theorem D4 (op:BinOp) (t:TypeId) (x y:Operand) (j k:IntKind) (m n:Int):(eqGuard op t x y (.int j m) (.int k n)).run P w= .ok () w:=by
 cases op<;>simp[eqGuard]
theorem Co (op:BinOp) (t:TypeId) (x y:Operand) (m n:Bool):(eqGuard op t x y (.bool m) (.bool n)).run P w= .ok () w:=by
 cases op<;>simp[eqGuard]
theorem D3 (op:BinOp) (t:TypeId) (x y:Operand) (m n:ByteArray):(eqGuard op t x y (.string m) (.string n)).run P w= .ok () w:=by
 cases op<;>simp[eqGuard]
theorem ou (s:List UInt8):(⟨⟨s⟩⟩:ByteArray).toList=s:=by rw[Go.ByteArray.toList_eq]
theorem DU (s:List UInt8):(⟨⟨s⟩⟩:ByteArray).size=s.length:=rfl
theorem Od (s t:List UInt8):(⟨⟨s⟩⟩:ByteArray)++⟨⟨t⟩⟩=⟨⟨s++t⟩⟩:=by
 apply ByteArray.ext
 simp
theorem L8 {op:BinOp} {x y:List UInt8} {r:b7} (h:(QG op x y).run S ctx=some r) (hc:∀c∈r.conds,c) (t:Nat):
  ∃v,(binOp op t (.string ⟨⟨x⟩⟩) (.string ⟨⟨y⟩⟩)).run P w= .ok v w∧fp E r v:=by
 cases op<;>simp only[QG] at h
 case add=>
  cases h
  have hl:x.length+y.length≤aK:=hc _ (by simp)
  refine⟨.string ⟨⟨x++y⟩⟩,?_,⟨_,rfl,rfl,rfl,by simpa using hl⟩,rfl,rfl,rfl⟩
  have H0:IntKind.i64.max=9223372036854775807:=by decide
  have:¬(((⟨⟨x⟩⟩:ByteArray).size+(⟨⟨y⟩⟩:ByteArray).size:Nat):Int)>IntKind.i64.max:=by
   rw[DU,DU,H0]
   unfold aK at hl
   omega
  simp only[binOp,Op.stringOp,if_neg this,Od]
  rfl
 case eql=>exact⟨.bool (x==y),by simp only[binOp,Op.stringOp,ou];rfl,.bool h⟩
 case neq=>exact⟨.bool (!(x==y)),by simp only[binOp,Op.stringOp,ou];rfl,.bool h⟩
 case lss=>exact⟨.bool (Op.bytesLess x y),by simp only[binOp,Op.stringOp,ou];rfl,.bool h⟩
 all_goals cases h
theorem Ix {d t:Nat} {c c':C} {b:Bool} {u v:Value} (hb:Vz (j6 P t) c c'=some b) (hu:gO E c u) (hv:gO E c' v):
  (Op.equalIn (d+1) t u v).run P w= .ok b w:=by
 unfold Vz at hb
 split at hb
 ·rename_i k' j x k y hs
  split at hb
  ·rename_i JB
   cases hb
   have e:=qj JB
   subst e
   obtain⟨_,h1,_⟩:=hu
   obtain⟨_,h2,_⟩:=hv
   simp only[List.cons.injEq,and_true] at h1 h2
   subst h1 h2
   exact run_equalIn_int w d t _ k' _ _ (ru hs)
  ·cases hb
 ·rename_i hs
  cases hb
  obtain⟨_,h1⟩:=hu
  obtain⟨_,h2⟩:=hv
  simp only[dh,List.cons.injEq,and_true] at h1 h2
  subst h1 h2
  exact run_equalIn_bool w d t _ _ (uf hs)
 ·rename_i hs
  cases hb
  obtain⟨_,h1,_⟩:=hu
  obtain⟨_,h2,_⟩:=hv
  simp only[List.cons.injEq,and_true] at h1 h2
  subst h1 h2
  rw[run_equalIn_string w d t _ _ (qd hs),ou,ou]
 ·cases hb
theorem FN {t:Nat} {c c':C} {b:Bool} (hb:Vz (j6 P t) c c'=some b):(match j6 P t with | .struct _=>false| .array _ _=>false| .map _ _=>true| .other=>false|_=>true)=true:=by
 unfold Vz at hb
 split at hb
 ·rename_i hs;rw[hs]
 ·rename_i hs;rw[hs]
 ·rename_i hs;rw[hs]
 ·cases hb
theorem ie {t off:Nat} {vs:Array Value} {v:Value} (h:(match j6 P t with | .struct _=>false| .array _ _=>false| .map _ _=>true| .other=>false|_=>true)=true) (hv:vs[off]? =some v):
  (part t vs off).run P w= .ok v w:=by
 simp[part,oc h,hv]
theorem x7 (hT:dt P X.ay) {d:Nat} {xs ys:Array Value}:∀{gs:List Field} {cs ds:List C} {b:Bool},
  (eqFields X (gs.map fun f=>(f.offset,P.cellsOf f.type,f.type)) cs ds).run S ctx=some b→b5 E cs xs.toList→b5 E ds ys.toList→(gs.all fun f=>f.name !="_")=true→
  (Op.eqFields (d+1) xs ys gs).run P w= .ok b w
 |[],cs,ds,b,hr,_,_,_=>by cases hr;simp[Op.eqFields]
 |g::gs,cs,ds,b,hr,hx,hy,hn=>by
  simp only[List.map_cons,eqFields] at hr
  have bt:=RM.run_bind' hr
  clear hr
  obtain⟨i,h1,hr⟩:=bt
  obtain⟨hs,_⟩:=df hT h1
  simp only[List.all_cons,Bool.and_eq_true,bne_iff_ne] at hn
  split at hr
  ·rename_i c c' hc Nc
   have bt:=RM.run_bind' hr
   clear hr
   obtain⟨b1,h2,hr⟩:=bt
   have bt:=RM.run_bind' hr
   clear hr
   obtain⟨b2,h3,hr⟩:=bt
   cases RM.run_pure' hr
   have h2:=bY h2
   rw[←hs] at h2
   obtain⟨u,hu,ku⟩:=hx.get _ _ hc
   obtain⟨v,hv,kv⟩:=hy.get _ _ Nc
   have M3:=FN h2
   have ih:=x7 hT (d:=d) h3 hx hy (by simpa using hn.2)
   simp only[Op.eqFields,if_pos hn.1,Sem.run_bind,ie M3 (show xs[g.offset]? =some u by simpa using hu),ie M3 (show ys[g.offset]? =some v by simpa using hv),
    Result.andThen_ok,Ix h2 ku kv]
   cases b1 with
   |true=>simpa using ih
   |false=>simp
  ·cases hr
theorem FW {wr:Bool} {op:BinOp} {s s':SV} {u v:Value} {r:b7} (hu:ft E s u) (hv:ft E s' v) (hr:(LR wr op s s').run S ctx=some r) (hc:∀c∈r.conds,c) (t:Nat) (x y:Operand)
  (ht:∀b b',s= .one (.aC .bool b)→s'= .one (.aC .bool b')→P.underlying t=some .bool):
  ∃z,(do eqGuard op t x y u v;binOp op t u v:Sem Value).run P w= .ok z w∧fp E r z:=by
 unfold LR at hr
 split at hr
 ·rename_i j m k n
  obtain⟨_,h1,nR⟩:=hu
  obtain⟨_,h2,ze⟩:=hv
  simp only[List.cons.injEq,and_true] at h1 h2
  subst h1 h2
  have hg:=D4 (P:=P) (w:=w) op t x y j k m n
  simp only[Sem.run_bind]
  rw[hg,Result.andThen_ok]
  split at hr
  ·exact G5 nR hr hc t
  ·split at hr
   ·rename_i JB
    have e:=qj JB
    subst e
    exact MQ nR ze hr hc t
   ·cases hr
 ·obtain⟨_,h1,_⟩:=hu
  obtain⟨_,h2,_⟩:=hv
  simp only[List.cons.injEq,and_true] at h1 h2
  subst h1 h2
  rw[Sem.run_bind,D3,Result.andThen_ok]
  exact L8 hr hc t
 ·rename_i m n
  have hb:=ht _ _ rfl rfl
  obtain⟨_,h1⟩:=hu
  obtain⟨_,h2⟩:=hv
  simp only[dh,List.cons.injEq,and_true] at h1 h2
  subst h1 h2
  simp only[Sem.run_bind]
  have key:(Op.equal t (.bool m) (.bool n)).run P w= .ok (Ty.B m==Ty.B n) w:=by
   unfold Op.equal
   exact run_equalIn_bool w 9999 t _ _ hb
  have hg:=fun op'=>Co (P:=P) (w:=w) op' t x y m n
  split at hr
  ·exact⟨.bool (Ty.B m==Ty.B n),by rw[hg,Result.andThen_ok];simp[binOp,key],.bool hr⟩
  ·exact⟨.bool (!(Ty.B m==Ty.B n)),by rw[hg,Result.andThen_ok];simp[binOp,key],.bool hr⟩
  ·cases hr
 ·cases hr
theorem sQ {t e:Nat} (hu:P.underlying t=some (.pointer e)) (d:Nat) (p:Option Addr):(Op.equalIn (d+1) t (.pointer p) (.pointer none)).run P w= .ok p.isNone w:=by
 cases p with
 |none=>simp only[Op.equalIn,Sem.run_bind,run_underlying hu,Result.andThen_ok];rfl
 |some q=>simp only[Op.equalIn,Sem.run_bind,run_underlying hu,Result.andThen_ok];rfl
theorem wk (op:BinOp) (t:Nat) (x y:Operand) (p:Option Addr):(eqGuard op t x y (.pointer p) (.pointer none)).run P w= .ok () w:=by
 unfold eqGuard
 split<;>rfl
theorem Hd {t e:Nat} (hu:P.underlying t=some (.pointer e)) (x y:Operand) (p:Option Addr):
  (do eqGuard .eql t x y (.pointer p) (.pointer none);binOp .eql t (.pointer p) (.pointer none):Sem Value).run P w= .ok (.bool p.isNone) w:=by
 rw[Sem.run_bind,wk,Result.andThen_ok]
 show(do pure (.bool (←Op.equal t (.pointer p) (.pointer none))):Sem Value).run P w=_
 rw[Sem.run_bind,show Op.equal t (.pointer p) (.pointer none)=Op.equalIn (9999+1) t (.pointer p) (.pointer none) from rfl,sQ hu]
 rfl
theorem Hb {t e:Nat} (hu:P.underlying t=some (.pointer e)) (x y:Operand) (p:Option Addr):
  (do eqGuard .neq t x y (.pointer p) (.pointer none);binOp .neq t (.pointer p) (.pointer none):Sem Value).run P w= .ok (.bool (!p.isNone)) w:=by
 rw[Sem.run_bind,wk,Result.andThen_ok]
 show(do pure (.bool (!(←Op.equal t (.pointer p) (.pointer none)))):Sem Value).run P w=_
 rw[Sem.run_bind,show Op.equal t (.pointer p) (.pointer none)=Op.equalIn (9999+1) t (.pointer p) (.pointer none) from rfl,sQ hu]
 rfl
theorem OP {op:BinOp} {c:C} {u:Value} {r:b7} (hu:gO E c u) (hr:(Xa op c).run S ctx=some r) {t e:Nat} (ht:P.underlying t=some (.pointer e)) (x y:Operand):
  ∃z,(do eqGuard op t x y u (.pointer none);binOp op t u (.pointer none):Sem Value).run P w= .ok z w∧fp E r z:=by
 have key:∀(p:Option Addr) (b:Bool),u= .pointer p→p.isNone=b→(Gs op b).run S ctx=some r→∃z,(do eqGuard op t x y u (.pointer none);binOp op t u (.pointer none):Sem Value).run P w= .ok z w∧fp E r z:=fun p b hp hb hr=>by
  subst hp hb
  cases op
  case eql=>exact⟨_,Hd ht x y p,.bool hr⟩
  case neq=>exact⟨_,Hb ht x y p,.bool hr⟩
  all_goals cases hr
 cases c with
 |aC t' o=>
  cases t' with
  |ptr tt=>
   have hr:(Gs op (Option.isNone (α:=tt.den) o)).run S ctx=some r:=hr
   have hv:dh E.F (.ptr tt) o [u]:=hu.2
   rcases hv with ⟨ho,hv⟩|⟨q,ho,b,off,hv,_⟩
   ·simp only[List.cons.injEq,and_true] at hv
    exact key none (Option.isNone (α:=tt.den) o) hv (by rw[ho];rfl) hr
   ·simp only[List.cons.injEq,and_true] at hv
    exact key _ (Option.isNone (α:=tt.den) o) hv (by rw[ho];rfl) hr
  |_=>cases hr
 |ptr b o=>obtain⟨p,_,_,hv⟩:=hu;exact key _ false hv rfl hr
 |mw t b i o=>obtain⟨p,_,_,_,hv⟩:=hu;exact key _ false hv rfl hr
 |sN t xs i o=>obtain⟨_,b,off,hv,_⟩:=hu;exact key _ false hv rfl hr
 |_=>cases hr
theorem QF (hT:dt P X.ay) {t:Nat} {i:TI} (h:(ti X t).run S ctx=some i) (he:i.eq=true):uu P t=true:=by
 have h:=bY h
 obtain⟨hm,rfl⟩:=ud h
 rw[qh hT.eqs i hm]
 exact he
theorem rM (hT:dt P X.ay) {d:Nat} {xs ys:Array Value}:∀{gs:List Field} {cs ds:List C} {b:Bool},
  (nG X (gs.map fun f=>(f.offset,P.cellsOf f.type,f.type)) cs ds).run S ctx=some b→b5 E cs xs.toList→b5 E ds ys.toList→(gs.all fun f=>f.name !="_")=true→
  (Op.eqFields (d+2) xs ys gs).run P w= .ok b w
 |[],cs,ds,b,hr,_,_,_=>by cases hr;simp[Op.eqFields]
 |g::gs,cs,ds,b,hr,hx,hy,hn=>by
  simp only[List.map_cons,nG] at hr
  have bt:=RM.run_bind' hr
  clear hr
  obtain⟨i,h1,hr⟩:=bt
  obtain⟨hs,j,hj,e1,_⟩:=df hT h1
  simp only[List.all_cons,Bool.and_eq_true,bne_iff_ne] at hn
  split at hr
  ·rename_i fs hd
   have bt:=RM.run_bind' hr
   clear hr
   obtain⟨_,h2,hr⟩:=bt
   have bt:=RM.run_bind' hr
   clear hr
   obtain⟨b1,h3,hr⟩:=bt
   have bt:=RM.run_bind' hr
   clear hr
   obtain⟨b2,h4,hr⟩:=bt
   cases RM.run_pure' hr
   have h2:=bQ h2
   simp only[Bool.and_eq_true] at h2
   obtain⟨q1,q2,q3,q4⟩:=h2
   have q2:=Nat.eq_of_beq_eq_true q2
   have q3:=Nat.le_of_ble_eq_true q3
   have q4:=Nat.le_of_ble_eq_true q4
   have heq:=QF hT h1 q1
   unfold uu at heq
   simp only[Bool.and_eq_true,Bool.not_eq_true'] at heq
   rw[hd] at hs
   obtain⟨ks,hu,rfl⟩:=lL hs
   have hks:P.fieldsOf g.type=ks:=by simp[Program.fieldsOf,hu]
   have iX:j.size=P.cellsOf g.type:=by omega
   have pt:∀vs:Array Value,(part g.type vs g.offset).run P w= .ok (.agg (vs.extract g.offset (g.offset+j.size))) w:=fun vs=>by simp[part,qE hu,dY hj]
   have ex:∀vs:Array Value,(vs.extract g.offset (g.offset+j.size)).toList=(vs.toList.drop g.offset).take (P.cellsOf g.type):=fun vs=>by
    rw[iX]
    simp[List.extract_eq_take_drop]
   have ih:=rM hT (d:=d) h4 hx hy (by simpa using hn.2)
   have ad9:=x7 hT (d:=d) (w:=w) (xs:=xs.extract g.offset (g.offset+j.size)) (ys:=ys.extract g.offset (g.offset+j.size)) h3
    (by rw[ex];exact(hx.drop _).take _) (by rw[ex];exact(hy.drop _).take _) (by have:=heq.2;rw[hu] at this;exact this)
   have aix:(Op.equalIn (d+2) g.type (.agg (xs.extract g.offset (g.offset+j.size))) (.agg (ys.extract g.offset (g.offset+j.size)))).run P w= .ok b1 w:=by
    rw[show d+2=(d+1)+1 from rfl,run_equalIn_struct w (d+1) g.type _ _ (by rw[hks];exact hu) heq.1.2,hks]
    exact ad9
   simp only[Op.eqFields,if_pos hn.1,Sem.run_bind,pt,Result.andThen_ok,aix]
   cases b1 with
   |true=>simpa using ih
   |false=>simp
  ·split at hr
   ·rename_i c c' hc Nc
    have bt:=RM.run_bind' hr
    clear hr
    obtain⟨b1,h2,hr⟩:=bt
    have bt:=RM.run_bind' hr
    clear hr
    obtain⟨b2,h3,hr⟩:=bt
    cases RM.run_pure' hr
    have h2:=bY h2
    rw[←hs] at h2
    obtain⟨u,hu,ku⟩:=hx.get _ _ hc
    obtain⟨v,hv,kv⟩:=hy.get _ _ Nc
    have M3:=FN h2
    have ih:=rM hT (d:=d) h3 hx hy (by simpa using hn.2)
    simp only[Op.eqFields,if_pos hn.1,Sem.run_bind,ie M3 (show xs[g.offset]? =some u by simpa using hu),ie M3 (show ys[g.offset]? =some v by simpa using hv),
     Result.andThen_ok,Ix h2 ku kv]
    cases b1 with
    |true=>simpa using ih
    |false=>simp
   ·cases hr
theorem V2 (hT:dt P X.ay) (h:SRel w0 foot base S E a w) (hc:bo a ctx) {o:Oper} {op:BinOp} {t yt:Nat} {x y:Operand} (ho:o.op= .binOp op t x y yt) {wr:Bool} {r:b7}
  (hr:(do
   let a ←ev x
   let b ←ev y
   match a,b with
   | .agg cs,.agg ds=>(do
    let i ←ti X t
    cR i.eq
    match op,i.d with
    | .eql,.struct fs=>(do cH (.aC .bool (←nG X fs cs ds)))
    | .neq,.struct fs=>(do cH (.aC .bool (!(←nG X fs cs ds))))
    |_,_=> .fail)
   | .one (.aC .bool _),.one (.aC .bool _)=>(do
    let i ←ti X t
    match i.d with
    | .bool=>LR wr op a b
    |_=> .fail)
   | .one c,.one .oZ=>(do
    let i ←ti X t
    match i.d with
    | .vM=>Xa op c
    |_=> .fail)
   |_,_=>LR wr op a b:RM b7).run S ctx=some r) (cq:∀c∈r.conds,c):bX P w0 foot base S E a w o r:=by
 have bt:=RM.run_bind' hr
 clear hr
 obtain⟨s,h1,hr⟩:=bt
 have bt:=RM.run_bind' hr
 clear hr
 obtain⟨s',h2,hr⟩:=bt
 have hx:=gj h hc h1
 have hy:=gj h hc h2
 have key:∀z,(do eqGuard op t x y (a.eval x) (a.eval y);binOp op t (a.eval x) (a.eval y):Sem Value).run P w= .ok z w→fp E r z→bX P w0 foot base S E a w o r:=fun z hz hR=>by
  refine bX.value (v:=z) (w':=w) ?_ (hR.after h.toHRel)
  simp only[execOp,ho]
  rw[Sem.run_bind,hz]
  rfl
 split at hr
 ·rename_i cs ds
  have bt:=RM.run_bind' hr
  clear hr
  obtain⟨i,h3,hr⟩:=bt
  have bt:=RM.run_bind' hr
  clear hr
  obtain⟨u,h4,hr⟩:=bt
  obtain⟨hs,_⟩:=df hT h3
  obtain⟨xs,ex,kx⟩:=hx
  obtain⟨ys,ey,ky⟩:=hy
  have heq:uu P t=true:=by
   have h3:=bY h3
   obtain⟨hm,rfl⟩:=ud h3
   rw[qh hT.eqs i hm]
   exact bQ h4
  unfold uu at heq
  simp only[Bool.and_eq_true,Bool.not_eq_true'] at heq
  have go:∀fs b,i.d= .struct fs→(nG X fs cs ds).run S ctx=some b→(Op.equalIn 10000 t (.agg xs) (.agg ys)).run P w= .ok b w:=fun fs b hd hb=>by
   rw[hd] at hs
   obtain⟨gs,hu,rfl⟩:=lL hs
   have RV:P.fieldsOf t=gs:=by simp[Program.fieldsOf,hu]
   rw[show(10000:Nat)=9999+1 from rfl,run_equalIn_struct w 9999 t xs ys (by rw[RV];exact hu) heq.1.2,RV]
   refine rM hT (d:=9997) hb kx ky ?_
   have:=heq.2
   rw[hu] at this
   exact this
  rw[ex,ey] at key
  split at hr
  ·rename_i fs hd
   have bt:=RM.run_bind' hr
   clear hr
   obtain⟨b,h5,hr⟩:=bt
   refine key (.bool b) ?_ (.bool hr)
   rw[Sem.run_bind,run_eqGuard_agg w _ _ _ _ _ _ heq.1.1,Result.andThen_ok,run_eql_struct,go _ _ hd h5]
   rfl
  ·rename_i fs hd
   have bt:=RM.run_bind' hr
   clear hr
   obtain⟨b,h5,hr⟩:=bt
   refine key (.bool (!b)) ?_ (.bool hr)
   rw[Sem.run_bind,run_eqGuard_agg w _ _ _ _ _ _ heq.1.1,Result.andThen_ok,run_neq_struct,go _ _ hd h5]
   rfl
  ·cases hr
 ·rename_i b1 b2
  have bt:=RM.run_bind' hr
  clear hr
  obtain⟨i,h3,hr⟩:=bt
  obtain⟨hs,_⟩:=df hT h3
  split at hr
  ·rename_i hd
   rw[hd] at hs
   obtain⟨z,k1,k2⟩:=FW (w:=w) (P:=P) hx hy hr cq t x y (fun _ _ _ _=>uf hs)
   exact key z k1 k2
  ·cases hr
 ·have bt:=RM.run_bind' hr
  clear hr
  obtain⟨i,h3,hr⟩:=bt
  obtain⟨hs,_⟩:=df hT h3
  split at hr
  ·rename_i hd
   rw[hd] at hs
   obtain⟨e,he⟩:=JX hs
   have hy:a.eval y= .pointer none:=hy
   rw[hy] at key
   obtain⟨z,k1,k2⟩:=OP (P:=P) (w:=w) hx hr he x y
   exact key z k1 k2
  ·cases hr
 ·rename_i n1 n2 n3
  obtain⟨z,k1,k2⟩:=FW (w:=w) (P:=P) hx hy hr cq t x y (fun b b' e e'=>absurd e' (n2 b b' e))
  exact key z k1 k2
theorem Wn (h:SRel w0 foot base S E a w) (hc:bo a ctx) {o:Oper} {op:UnOp} {t:Nat} {x:Operand} (ho:o.op= .unOp op t x) {wr:Bool} {r:b7}
  (hr:(do
   match op,←ev x with
   | .not,.one (.aC .bool b)=>cH (.aC .bool (!b))
   | .neg,.one (.aC (.int k) n)=>arith wr k (0 - Ty.I n)
   |_,_=> .fail:RM b7).run S ctx=some r) (cq:∀c∈r.conds,c):bX P w0 foot base S E a w o r:=by
 have bt:=RM.run_bind' hr
 clear hr
 obtain⟨s,h1,hr⟩:=bt
 have hx:=gj h hc h1
 split at hr
 ·obtain⟨_,h2⟩:=hx
  simp only[dh,List.cons.injEq,and_true] at h2
  refine bX.value (v:=_) (w':=w) ?_ ((fp.bool hr).after h.toHRel)
  simp[execOp,ho,Op.unary,h2]
 ·obtain⟨_,h2,h3⟩:=hx
  simp only[List.cons.injEq,and_true] at h2
  refine bX.value (v:=_) (w':=w) ?_ ((q8 hr cq).after h.toHRel)
  simp only[execOp,ho,Op.unary,h2,Op.intArith]
  rfl
 ·cases hr
theorem Fw {j k:IntKind} (h:Gx j k=true) {n:Int} (hn:bq j n):bq k n:=by
 cases j<;>cases k<;>simp[Gx] at h<;>simp[bq,IntKind.min,IntKind.max,IntKind.signed,IntKind.bits] at * <;>omega
end Go.Vc
end

section
set_option linter.unusedVariables false
set_option linter.unusedSimpArgs false
namespace Go.Vc
open Go
variable {P:Program} {X:Ctx} {w0:World} {foot:gF} {base:Mem} {S:St} {E:Env} {a:Act} {w:World} {ctx:c8}
theorem lG {p:Prop} {c:C} {r:b7} {v:Value} (h:(oV p c).run S ctx=some r) (hv:p→gO E c v) (hc:∀q∈r.conds,q):fp E r v:=by
 rw[Cr h] at hc ⊢
 exact⟨⟨_,rfl,hv (hc p (by simp))⟩,rfl,rfl,rfl⟩
theorem oU {p:Prop} {c:C} {r:b7} (h:(oV p c).run S ctx=some r) (hc:∀q∈r.conds,q):p:=by
 rw[Cr h] at hc
 exact hc p (by simp)
theorem fX.sj {p:Place} {iZ:Bool} {e:Nat} {t:Ty} {xs:List t.den} (hB:fX E w p (.row iZ e t xs)):xs.length=p.len:=by
 rcases hB with ⟨_,hx,hz⟩|⟨_,_,⟨h1,_⟩,_⟩
 ·rw[hx,hz];rfl
 ·exact h1
theorem Jp {t e:Nat} {b off len cap:Nat} {k:IntKind} {n:Int} {j:TypeInfo} (hu:P.underlying t=some (.slice e)) (hj:P.info? e=some j) (h0:0≤n) (h1:n<len):
  (Instr.indexAt t (.slice (some ⟨b,off,none⟩) len cap) (.int k n)).run P w= .ok (.pointer (some ⟨b,off+n.toNat*j.size,none⟩)) w:=by
 simp[Instr.indexAt,run_underlying hu,asIntOf,h0,h1,dY hj,nc]
theorem Jo {t e len:Nat} {b off:Nat} {k:IntKind} {n:Int} {j:TypeInfo} (hu:P.underlying t=some (.array len e)) (hj:P.info? e=some j) (h0:0≤n) (h1:n<len):
  (Instr.indexAt t (.pointer (some ⟨b,off,none⟩)) (.int k n)).run P w= .ok (.pointer (some ⟨b,off+n.toNat*j.size,none⟩)) w:=by
 simp[Instr.indexAt,run_underlying hu,asIntOf,h0,h1,dY hj,nc,Instr.sureAddr]
theorem Jy (hT:dt P X.ay) (h:SRel w0 foot base S E a w) (hc:bo a ctx) {o:Oper} {t:Nat} {x ix:Operand} (ho:o.op= .indexAddr t x ix) {r:b7}
  (hr:(do
   let i ←ti X t
   match i.d with
   | .slice e=>(do
    let j ←ti X e
    let c ←lC x
    MR j.size (←BY (←ev ix)) c)
   | .array n e=>(do
    let j ←ti X e
    let c ←lC x
    MS j.size n (←BY (←ev ix)) c)
   |_=> .fail:RM b7).run S ctx=some r) (cq:∀c∈r.conds,c):bX P w0 foot base S E a w o r:=by
 have bt:=RM.run_bind' hr
 clear hr
 obtain⟨i,h1,hr⟩:=bt
 obtain⟨hs,j0,RU,_⟩:=df hT h1
 split at hr
 ·rename_i e hd
  rw[hd] at hs
  have hu:=dP hs
  have bt:=RM.run_bind' hr
  clear hr
  obtain⟨i',h2,hr⟩:=bt
  obtain⟨nC,j,hj,e1,_⟩:=df hT h2
  have bt:=RM.run_bind' hr
  clear hr
  obtain⟨c,h3,hr⟩:=bt
  have bt:=RM.run_bind' hr
  clear hr
  obtain⟨s,h4,hr⟩:=bt
  have bt:=RM.run_bind' hr
  clear hr
  obtain⟨n,h5,hr⟩:=bt
  have hx:=gq h hc h3
  obtain⟨k,hn,hnr⟩:=u4 (gj h hc h4) h5
  have key:∀b off len cap v,a.eval x= .slice (some ⟨b,off,none⟩) len cap→aQ n len→v= .pointer (some ⟨b,off+n.toNat*j.size,none⟩)→fp E r v→bX P w0 foot base S E a w o r:=
   fun b off len cap v hv hb he hR=>by
    refine bX.value (v:=v) (w':=w) ?_ (hR.after h.toHRel)
    rw[he]
    simp[execOp,ho,hv,hn,Jp hu hj hb.1 hb.2]
  unfold MR at hr
  split at hr
  ·rename_i tt xs
   split at hr
   ·rename_i iX
    have iX:=Nat.eq_of_beq_eq_true iX
    have hb:=oU hr cq
    obtain⟨_,aa,cap,g1,g2,g3,g4,g5⟩:=hx
    simp only[List.cons.injEq,and_true] at g1
    have hi:n.toNat<(Ty.L xs).length:=by have:=hb.1;have:=hb.2;omega
    cases aa with
    |none=>have:=g4 rfl;omega
    |some p=>
     have Xy:=List.getElem?_eq_getElem hi
     obtain⟨Pm,_⟩:=g5 p rfl _ _ Xy
     obtain⟨b,off,spot⟩:=p
     simp only at Pm
     subst Pm
     refine key b off _ cap _ g1 hb rfl (lG hr (fun _=>⟨hi,b,off,by rw[e1,iX];rfl,fun i x hx=> ?_⟩) cq)
     obtain⟨_,us,k1,k2,k3⟩:=g5 _ rfl i x hx
     exact⟨us,k1,k2,k3⟩
   ·cases hr
  ·rename_i tt b
   simp only[RM.run] at hr
   split at hr
   ·rename_i B hf
    split at hr
    ·rename_i iZ e' t' xs
     split at hr
     ·rename_i hb
      simp only[Bool.and_eq_true] at hb
      have iX:=Nat.eq_of_beq_eq_true hb.1
      have Ay:=Ty.beq_eq hb.2
      subst Ay
      have ye:=oU hr cq
      obtain⟨p,hp,hk⟩:=hx
      obtain⟨p',dj,hB⟩:=h.ck _ _ hf
      rw[hp] at dj;cases dj
      have hlen:=hB.sj
      rcases hk with ⟨dk,_,hz⟩|⟨dk,hv,_⟩
      ·have:=ye.1;have:=ye.2;omega
      ·rw[hlen] at ye
       refine key _ 0 _ _ _ hv ye rfl (lG hr (fun _=>⟨p,hp,dk,by have:=ye.1;have:=ye.2;omega,by rw[e1,iX];simp⟩) cq)
     ·cases hr
    ·cases hr
   ·cases hr
  ·rename_i tt b lo len
   simp only[RM.run] at hr
   split at hr
   ·rename_i B hf
    split at hr
    ·rename_i iZ e' t' xs
     split at hr
     ·rename_i hb
      simp only[Bool.and_eq_true] at hb
      have iX:=Nat.eq_of_beq_eq_true hb.1
      have Ay:=Ty.beq_eq hb.2
      subst Ay
      have ye:=oU hr cq
      obtain⟨p,hp,hl,hk⟩:=hx
      rcases hk with ⟨dk,_,hz⟩|⟨dk,aa,hv,g1,g2,g3⟩
      ·have:=ye.1;have:=ye.2;omega
      ·have yf:=ye.1
       have C1:=ye.2
       rcases g3 with g3|rfl
       ·omega
       ·refine key _ _ _ _ _ hv ye rfl (lG hr (fun _=>⟨p,hp,dk,by omega,by rw[e1,iX,Nat.add_mul];simp⟩) cq)
     ·cases hr
    ·cases hr
   ·cases hr
  ·cases hr
 ·rename_i len e hd
  rw[hd] at hs
  have hu:=sd hs
  have bt:=RM.run_bind' hr
  clear hr
  obtain⟨i',h2,hr⟩:=bt
  obtain⟨nC,j,hj,e1,_⟩:=df hT h2
  have bt:=RM.run_bind' hr
  clear hr
  obtain⟨c,h3,hr⟩:=bt
  have bt:=RM.run_bind' hr
  clear hr
  obtain⟨s,h4,hr⟩:=bt
  have bt:=RM.run_bind' hr
  clear hr
  obtain⟨n,h5,hr⟩:=bt
  have hx:=gq h hc h3
  obtain⟨k,hn,hnr⟩:=u4 (gj h hc h4) h5
  unfold MS at hr
  split at hr
  ·rename_i tt b i1 o1
   simp only[RM.run] at hr
   split at hr
   ·rename_i B hf
    split at hr
    ·rename_i iZ e' t' xs
     split at hr
     ·rename_i hb
      simp only[Bool.and_eq_true] at hb
      have Va:=Nat.eq_of_beq_eq_true hb.1
      have XN:=Nat.eq_of_beq_eq_true hb.2.1
      have iX:=Nat.eq_of_beq_eq_true hb.2.2.1
      have Ay:=Ty.beq_eq hb.2.2.2
      subst Ay Va XN
      obtain⟨ye,Pg⟩:=oU hr cq
      obtain⟨p,hp,dk,hil,hv⟩:=hx
      obtain⟨p',dj,hB⟩:=h.ck _ _ hf
      rw[hp] at dj;cases dj
      have hlen:=hB.sj
      have yf:=ye.1
      have C1:=ye.2
      refine bX.value (v:= .pointer (some ⟨p.bc,n.toNat*j.size,none⟩)) (w':=w) ?_ ((lG hr (fun _=>⟨p,hp,dk,by omega,by rw[e1,iX];simp⟩) cq).after h.toHRel)
      simp only[Nat.zero_mul,Nat.add_zero] at hv
      simp[execOp,ho,hv,hn,Jo hu hj yf C1]
     ·cases hr
    ·cases hr
   ·cases hr
  ·cases hr
 ·cases hr
theorem CR {E:Env} {k:IntKind}:∀{cs:List C} {xs:List Int} {vs:List Value},CS k cs=some xs→b5 E cs vs→xs.length=cs.length∧∀i,i<xs.length→vs[i]? =some (.int k (xs.getD i 0))∧bq k (xs.getD i 0)
 |[],xs,vs,h,hv=>by
  cases h
  exact⟨rfl,fun i hi=>absurd hi (by simp)⟩
 |c::cs,xs,vs,h,hv=>by
  cases c with
  |aC t x=>
   unfold CS at h
   split at h
   ·rename_i y hy
    split at h
    ·rename_i ys Gc
     cases h
     obtain⟨e,rfl⟩:=Ty.iJ hy
     subst e
     obtain⟨v,us,rfl,⟨_,k1⟩,k2⟩:=hv
     obtain⟨g1,g2⟩:=CR Gc k2
     have k1:[v]=[.int k x]∧bq k x:=k1
     refine⟨by simp[g1],fun i hi=> ?_⟩
     cases i with
     |zero=>exact⟨by rw[List.cons.inj k1.1|>.1];rfl,k1.2⟩
     |succ i=>exact g2 i (by simpa using hi)
    ·cases h
   ·cases h
  |_=>cases h
theorem U0 (hT:dt P X.ay) (h:SRel w0 foot base S E a w) (hc:bo a ctx) {o:Oper} {t:Nat} {x ix:Operand} (ho:o.op= .index t x ix) {r:b7}
  (hr:(do
   let i ←ti X t
   match i.d,←ev x with
   | .str,.one (.aC .str s)=>(do
    let n ←BY (←ev ix)
    oV (aQ n (Ty.S s).length) (.aC (.int .u8) (((Ty.S s).getD n.toNat 0).toNat:Int)))
   | .array n e,.agg cs=>(do
    let j ←ti X e
    match j.d with
    | .int k=>(do
     cR (Nat.beq j.size 1&&Nat.beq n cs.length)
     let xs ←RM.ofOption (CS k cs)
     let m ←BY (←ev ix)
     oV (aQ m xs.length) (.aC (.int k) (xs.getD m.toNat 0)))
    |_=> .fail)
   |_,_=> .fail:RM b7).run S ctx=some r) (cq:∀c∈r.conds,c):bX P w0 foot base S E a w o r:=by
 have bt:=RM.run_bind' hr
 clear hr
 obtain⟨i,h1,hr⟩:=bt
 have bt:=RM.run_bind' hr
 clear hr
 obtain⟨c,h2,hr⟩:=bt
 obtain⟨hs,_⟩:=df hT h1
 have hx:=gj h hc h2
 split at hr
 ·rename_i s hd
  rw[hd] at hs
  have bt:=RM.run_bind' hr
  clear hr
  obtain⟨sv,h3,hr⟩:=bt
  have bt:=RM.run_bind' hr
  clear hr
  obtain⟨n,h4,hr⟩:=bt
  obtain⟨k,hn,hnr⟩:=u4 (gj h hc h3) h4
  have hb:=oU hr cq
  obtain⟨_,g1,g2⟩:=hx
  simp only[List.cons.injEq,and_true] at g1
  have hi:n.toNat<(Ty.S s).length:=by have:=hb.1;have:=hb.2;omega
  have wH:(⟨⟨Ty.S s⟩⟩:ByteArray)[n.toNat]? =some ((Ty.S s).getD n.toNat 0):=by
   rw[List.getD_eq_getElem?_getD,List.getElem?_eq_getElem hi]
   rw[getElem?_pos (⟨⟨Ty.S s⟩⟩:ByteArray) n.toNat hi]
   rfl
  have hu8:bq .u8 (((Ty.S s).getD n.toNat 0).toNat:Int):=by
   generalize (Ty.S s).getD n.toNat 0=q
   have:=q.toNat_lt
   have h1:IntKind.u8.min=0:=by decide
   have h2:IntKind.u8.max=255:=by decide
   unfold bq
   rw[h1,h2]
   omega
  refine bX.value (v:= .int .u8 (((Ty.S s).getD n.toNat 0).toNat:Int)) (w':=w) ?_ ((lG hr (fun _=>⟨rfl,rfl,hu8⟩) cq).after h.toHRel)
  simp[execOp,ho,Instr.index,run_underlying (qd hs),g1,hn,asIntOf,hb.1,wH]
 ·rename_i n e cs hd
  rw[hd] at hs
  have hu:=sd hs
  have bt:=RM.run_bind' hr
  clear hr
  obtain⟨j,h3,hr⟩:=bt
  obtain⟨nC,j',M6,e1',_⟩:=df hT h3
  split at hr
  ·rename_i k hk
   rw[hk] at nC
   have bt:=RM.run_bind' hr
   clear hr
   obtain⟨u,h4,hr⟩:=bt
   have bt:=RM.run_bind' hr
   clear hr
   obtain⟨xs,h5,hr⟩:=bt
   have bt:=RM.run_bind' hr
   clear hr
   obtain⟨sv,h6,hr⟩:=bt
   have bt:=RM.run_bind' hr
   clear hr
   obtain⟨m,h7,hr⟩:=bt
   have hg:=bQ h4
   simp only[Bool.and_eq_true] at hg
   have hg1:=Nat.eq_of_beq_eq_true hg.1
   have hg2:=Nat.eq_of_beq_eq_true hg.2
   have hb:=oU hr cq
   obtain⟨vs,CZ,jz⟩:=hx
   obtain⟨hl,HS⟩:=CR (bY h5) jz
   obtain⟨k',hn,_⟩:=u4 (gj h hc h6) h7
   have yf:=hb.1
   have C1:=hb.2
   have hi:m.toNat<xs.length:=by omega
   have RP:m<(n:Int):=by omega
   have iX:j'.size=1:=by omega
   obtain⟨q1,q2⟩:=HS _ hi
   have Ku:(isAgg e).run P w= .ok false w:=oc (by rw[nC])
   have wH:vs[m.toNat]? =some (.int k (xs.getD m.toNat 0)):=by simpa using q1
   refine bX.value (v:= .int k (xs.getD m.toNat 0)) (w':=w) ?_ ((lG hr (fun _=>⟨rfl,rfl,q2⟩) cq).after h.toHRel)
   simp[execOp,ho,Instr.index,run_underlying hu,CZ,hn,asIntOf,yf,RP,part,Ku,dY M6,iX,wH]
  ·cases hr
 ·cases hr
def Wk (x:Option Value) (n:Option Int):Prop:=
 match x,n with
 |none,none=>True
 |some v,some n=>∃k,v= .int k n∧bq k n
 |_,_=>False
theorem PQ (h:SRel w0 foot base S E a w) (hc:bo a ctx) {x:Option Operand} {n:Option Int} (hr:(Vy x).run S ctx=some n):Wk (x.map a.eval) n:=by
 cases x with
 |none=>cases hr;trivial
 |some x=>
  unfold Vy at hr
  have bt:=RM.run_bind' hr
  clear hr
  obtain⟨s,h1,hr⟩:=bt
  have bt:=RM.run_bind' hr
  clear hr
  obtain⟨m,h2,hr⟩:=bt
  cases RM.run_pure' hr
  exact u4 (gj h hc h1) h2
theorem wh {isSlice:Bool} {len cap:Nat} {lo hi:Option Value} {l h:Option Int} (hl:Wk lo l) (hh:Wk hi h) (anK:len≤cap) (hc:∀c∈p8 len l h,c):
  (Instr.sliceBounds isSlice len cap lo hi none).run P w= .ok (fZ l,fZ l+gW len l h,cap) w∧fZ l+gW len l h≤len:=by
 cases lo with
 |none=>
  cases l with
  |some _=>exact hl.elim
  |none=>
   cases hi with
   |none=>
    cases h with
    |some _=>exact hh.elim
    |none=>simp[Instr.sliceBounds,fZ,gW]
   |some v=>
    cases h with
    |none=>exact hh.elim
    |some h=>
     obtain⟨k,rfl,_⟩:=hh
     have:=hc (0≤h∧h≤len) (by simp[p8])
     have h2:h≤(cap:Int):=by omega
     refine⟨by simp[Instr.sliceBounds,Instr.sliceBound,asIntOf,fZ,gW,this.1,h2],by simp[fZ,gW];omega⟩
 |some v=>
  cases l with
  |none=>exact hl.elim
  |some l=>
   obtain⟨k,rfl,_⟩:=hl
   cases hi with
   |none=>
    cases h with
    |some _=>exact hh.elim
    |none=>
     have:=hc (0≤l∧l≤len) (by simp[p8])
     refine⟨?_,by simp[fZ,gW];omega⟩
     have:l.toNat+(len - l.toNat)=len:=by omega
     simp[Instr.sliceBounds,Instr.sliceBound,asIntOf,fZ,gW, *]
   |some v'=>
    cases h with
    |none=>exact hh.elim
    |some h=>
     obtain⟨k',rfl,_⟩:=hh
     have h1:=hc (0≤l∧l≤h) (by simp[p8])
     have h2:=hc (h≤len) (by simp[p8])
     refine⟨?_,by simp[fZ,gW];omega⟩
     have e1:0≤h:=by omega
     have e2:h≤(cap:Int):=by omega
     have e3:l≤(h.toNat:Int):=by omega
     have e4:l.toNat+(h.toNat - l.toNat)=h.toNat:=by omega
     simp[Instr.sliceBounds,Instr.sliceBound,asIntOf,fZ,gW,h1.1,e1,e2,e4]
     intro dK
     omega
theorem vC {α:Type} {xs:List α} {l h:Option Int} (hc:∀c∈p8 xs.length l h,c):(cut xs l h).length=gW xs.length l h:=by
 cases l with
 |none=>
  cases h with
  |none=>rfl
  |some h=>
   have:=hc (0≤h∧h≤xs.length) (by simp[p8])
   simp[cut,gW]
   omega
 |some l=>
  cases h with
  |none=>simp[cut,gW]
  |some h=>
   have:=hc (0≤l∧l≤h) (by simp[p8])
   have:=hc (h≤xs.length) (by simp[p8])
   simp[cut,gW]
   omega
theorem Yn {α:Type} {xs:List α} {l h:Option Int} {i:Nat} {x:α} (hx:(cut xs l h)[i]? =some x):xs[fZ l+i]? =some x:=by
 cases l with
 |none=>
  cases h with
  |none=>simpa [cut,fZ] using hx
  |some h=>
   simp only[cut] at hx
   have hi:i<h.toNat:=by
    have:=(List.getElem?_eq_some_iff.1 hx).1
    simp at this
    omega
   rw[List.getElem?_take_of_lt hi] at hx
   simpa [fZ] using hx
 |some l=>
  cases h with
  |none=>simpa [cut,fZ] using hx
  |some h=>
   simp only[cut,List.getElem?_drop] at hx
   have hi:l.toNat+i<h.toNat:=by
    have:=(List.getElem?_eq_some_iff.1 hx).1
    simp at this
    omega
   rw[List.getElem?_take_of_lt hi] at hx
   exact hx
theorem Ym (s:List UInt8) {l h:Option Int} (hc:∀c∈p8 s.length l h,c):
  (⟨⟨s⟩⟩:ByteArray).extract (fZ l) (fZ l+gW s.length l h)=⟨⟨cut s l h⟩⟩:=by
 rw[Go.Lib.extract_eq]
 congr 2
 cases l with
 |none=>
  cases h with
  |none=>simp[cut,fZ,gW]
  |some h=>simp[cut,fZ,gW]
 |some l=>
  cases h with
  |none=>
   have e:List.take (s.length - l.toNat) (s.drop l.toNat)=s.drop l.toNat:=List.take_of_length_le (by simp)
   simp[cut,fZ,gW,e]
  |some h=>simp[cut,fZ,gW,List.drop_take]
theorem Us (hT:dt P X.ay) (h:SRel w0 foot base S E a w) (hc:bo a ctx) {o:Oper} {t:Nat} {x:Operand} {lo hi:Option Operand} (ho:o.op= .slice t x lo hi none) {r:b7}
  (hr:(do
   let i ←ti X t
   let c ←lC x
   let l ←Vy lo
   let h ←Vy hi
   match i.d,c with
   | .slice e,.aC (.list tt) _=>(do
    let j ←ti X e
    cR (Nat.beq tt.size j.size)
    pN l h c)
   | .slice e,.row tt _=>(do
    let j ←ti X e
    cR (Nat.beq tt.size j.size)
    pN l h c)
   | .slice e,.sub tt _ _ _=>(do
    let j ←ti X e
    cR (Nat.beq tt.size j.size)
    pN l h c)
   | .str,.aC .str _=>pN l h c
   |_,_=> .fail:RM b7).run S ctx=some r) (cq:∀c∈r.conds,c):bX P w0 foot base S E a w o r:=by
 have bt:=RM.run_bind' hr
 clear hr
 obtain⟨i,h1,hr⟩:=bt
 have bt:=RM.run_bind' hr
 clear hr
 obtain⟨c,h2,hr⟩:=bt
 have bt:=RM.run_bind' hr
 clear hr
 obtain⟨l,h3,hr⟩:=bt
 have bt:=RM.run_bind' hr
 clear hr
 obtain⟨hh,h4,hr⟩:=bt
 obtain⟨hs,_⟩:=df hT h1
 have hx:=gq h hc h2
 have hl:=PQ h hc h3
 have hhi:=PQ h hc h4
 have key:∀v,(Instr.sliceAt t (a.eval x) (lo.map a.eval) (hi.map a.eval) none).run P w= .ok v w→fp E r v→bX P w0 foot base S E a w o r:=fun v hv hR=>by
  refine bX.value (v:=v) (w':=w) ?_ (hR.after h.toHRel)
  simp[execOp,ho,hv]
 have sl:∀e j (b:Option Addr) len cap,P.underlying t=some (.slice e)→P.info? e=some j→len≤cap→a.eval x= .slice b len cap→(∀c∈p8 len l hh,c)→
   (Instr.sliceAt t (a.eval x) (lo.map a.eval) (hi.map a.eval) none).run P w= .ok (.slice (if cap=fZ l then b else b.map (·.add (fZ l*j.size))) (gW len l hh) (cap - fZ l)) w∧fZ l+gW len l hh≤len:=fun e j b len cap hu hj hle hv hco=>by
  obtain⟨yf,C1⟩:=wh (P:=P) (w:=w) (isSlice:=true) hl hhi hle hco
  refine⟨?_,C1⟩
  simp[Instr.sliceAt,Instr.slice,run_underlying hu,hv,yf,dY hj]
 split at hr
 ·rename_i e tt xs hd
  rw[hd] at hs
  have bt:=RM.run_bind' hr
  clear hr
  obtain⟨i',h5,hr⟩:=bt
  have bt:=RM.run_bind' hr
  clear hr
  obtain⟨u,h6,hr⟩:=bt
  obtain⟨nC,j,hj,e1,_⟩:=df hT h5
  have iX:=Nat.eq_of_beq_eq_true (bQ h6)
  unfold pN at hr
  cases hr
  obtain⟨_,aa,cap,g1,g2,g3,g4,g5⟩:=hx
  simp only[List.cons.injEq,and_true] at g1
  obtain⟨k1,k2⟩:=sl e j aa _ cap (dP hs) hj g2 g1 cq
  refine key _ k1 ⟨⟨_,rfl,rfl,(if cap=fZ l then aa else aa.map (·.add (fZ l*j.size))),cap - fZ l,?_,?_,by omega,?_,?_⟩,rfl,rfl,rfl⟩
  ·rw[show(Ty.L (t:=tt) (cut (Ty.L xs) l hh)).length=_ from vC cq]
  ·rw[show(Ty.L (t:=tt) (cut (Ty.L xs) l hh)).length=_ from vC cq];omega
  ·intro hn
   split at hn
   ·rename_i mf;omega
   ·cases aa with
    |none=>have:=g4 rfl;omega
    |some p=>cases hn
  ·intro p hp n y hy
   have hlen:=vC (xs:=Ty.L xs) cq
   have hn:n<gW (Ty.L xs).length l hh:=by
    have:=(List.getElem?_eq_some_iff.1 hy).1
    rw[←hlen];exact this
   rw[if_neg (by omega)] at hp
   cases aa with
   |none=>cases hp
   |some q=>
    obtain⟨Pm,us,m1,m2,m3⟩:=g5 q rfl _ _ (Yn hy)
    obtain⟨b,off,spot⟩:=q
    simp only at Pm
    subst Pm
    simp only[Option.map_some,Option.some.injEq] at hp
    rw[nc] at hp
    subst hp
    refine⟨rfl,us,m1,m2,fun jj u hu=> ?_⟩
    have:=m3 jj u hu
    rw[Nat.add_mul] at this
    rw[e1,←iX]
    simpa [Nat.add_assoc] using this
 ·rename_i e tt b hd
  rw[hd] at hs
  have bt:=RM.run_bind' hr
  clear hr
  obtain⟨i',h5,hr⟩:=bt
  have bt:=RM.run_bind' hr
  clear hr
  obtain⟨u,h6,hr⟩:=bt
  obtain⟨nC,j,hj,e1,_⟩:=df hT h5
  have iX:=Nat.eq_of_beq_eq_true (bQ h6)
  unfold pN at hr
  simp only[RM.run] at hr
  split at hr
  ·rename_i B hf
   split at hr
   ·rename_i iZ e' t' xs
    split at hr
    ·rename_i Ay
     have Ay:=Ty.beq_eq Ay
     subst Ay
     cases hr
     obtain⟨p,hp,hk⟩:=hx
     obtain⟨p',dj,hB⟩:=h.ck _ _ hf
     rw[hp] at dj;cases dj
     have hlen:=hB.sj
     rw[hlen] at cq
     rcases hk with ⟨dk,hv,hz⟩|⟨dk,hv,g1,g2⟩
     ·obtain⟨k1,k2⟩:=sl e j none 0 0 (dP hs) hj (by omega) hv (by rw[←hz];exact cq)
      have hz1:fZ l=0:=by omega
      have U2:gW 0 l hh=0:=by omega
      refine key _ k1 ⟨⟨_,rfl,p,hp,by rw[hlen,hz];omega,Or.inl ⟨dk,by simp[hz1,U2],hz⟩⟩,rfl,rfl,rfl⟩
     ·obtain⟨k1,k2⟩:=sl e j _ p.len p.cap (dP hs) hj g1 hv cq
      refine key _ k1 ⟨⟨_,rfl,p,hp,by rw[hlen];exact k2,Or.inr ⟨dk,(if p.cap=fZ l then⟨p.bc,0,none⟩ else⟨p.bc,fZ l*j.size,none⟩),?_,g1,g2,?_⟩⟩,rfl,rfl,rfl⟩
      ·rw[hlen];split<;>simp[nc]
      ·by_cases mf:p.cap=fZ l
       ·exact .inl mf.symm
       ·exact .inr (by rw[if_neg mf,e1,iX])
    ·cases hr
   ·cases hr
  ·cases hr
 ·rename_i e tt b Xi len hd
  rw[hd] at hs
  have bt:=RM.run_bind' hr
  clear hr
  obtain⟨i',h5,hr⟩:=bt
  have bt:=RM.run_bind' hr
  clear hr
  obtain⟨u,h6,hr⟩:=bt
  obtain⟨nC,j,hj,e1,_⟩:=df hT h5
  have iX:=Nat.eq_of_beq_eq_true (bQ h6)
  unfold pN at hr
  cases hr
  obtain⟨p,hp,Ps,hk⟩:=hx
  rcases hk with ⟨dk,hv,hz⟩|⟨dk,aa,hv,g1,g2,g3⟩
  ·have CY:len=0:=by omega
   subst CY
   obtain⟨k1,k2⟩:=sl e j none 0 0 (dP hs) hj (by omega) hv cq
   have hz1:fZ l=0:=by omega
   have U2:gW 0 l hh=0:=by omega
   exact key _ k1 ⟨⟨_,rfl,p,hp,by omega,Or.inl ⟨dk,by simp[hz1,U2],hz⟩⟩,rfl,rfl,rfl⟩
  ·obtain⟨k1,k2⟩:=sl e j (some aa) len (p.cap - Xi) (dP hs) hj (by omega) hv cq
   refine key _ k1 ⟨⟨_,rfl,p,hp,by omega,Or.inr ⟨dk,(if p.cap - Xi=fZ l then aa else aa.add (fZ l*j.size)),?_,g1,g2,?_⟩⟩,rfl,rfl,rfl⟩
   ·rw[Nat.sub_sub];split<;>simp
   ·by_cases mf:p.cap - Xi=fZ l
    ·exact .inl (by omega)
    ·refine .inr ?_
     rw[if_neg mf]
     rcases g3 with g3|rfl
     ·omega
     ·rw[nc,e1,←iX,Nat.add_mul]
 ·rename_i s hd
  rw[hd] at hs
  unfold pN at hr
  cases hr
  obtain⟨_,g1,g2⟩:=hx
  simp only[List.cons.injEq,and_true] at g1
  obtain⟨yf,C1⟩:=wh (P:=P) (w:=w) (isSlice:=false) (len:=(Ty.S s).length) (cap:=(Ty.S s).length) hl hhi (Nat.le_refl _) cq
  refine key (.string ⟨⟨cut (Ty.S s) l hh⟩⟩) ?_ ⟨⟨_,rfl,rfl,rfl,?_⟩,rfl,rfl,rfl⟩
  ·have aiJ:(Instr.sliceBounds false (⟨⟨Ty.S s⟩⟩:ByteArray).size (⟨⟨Ty.S s⟩⟩:ByteArray).size (lo.map a.eval) (hi.map a.eval) none).run P w=_:=yf
   simp only[Instr.sliceAt,Instr.slice,Sem.run_bind,run_underlying (qd hs),Result.andThen_ok,g1,aiJ,Option.isSome_none,Bool.false_eq_true,if_false,Sem.run_pure,Ym _ cq]
  ·rw[show(Ty.S (cut (Ty.S s) l hh)).length=_ from vC cq]
   omega
 ·cases hr
end Go.Vc
end

section
set_option linter.unusedVariables false
set_option linter.unusedSimpArgs false
namespace Go.Vc
open Go
variable {P:Program} {X:Ctx} {w0:World} {foot:gF} {base:Mem} {S:St} {E:Env} {a:Act} {w:World} {ctx:c8}
def ef (F:Mem) (t:Ty) (xs:List t.den) (us:List Value):Prop:=
 us.length=xs.length*t.size∧∀(i:Nat) (x:t.den),xs[i]? =some x→∃ws:List Value,dh F t x ws∧ws.length=t.size∧∀(j:Nat) u,ws[j]? =some u→us[i*t.size+j]? =some u
theorem ef.nil {F:Mem} {t:Ty}:ef F t [] []:=⟨by simp,fun i x hx=>by simp at hx⟩
theorem ef.append {F:Mem} {t:Ty} {xs ys:List t.den} {us ws:List Value} (h:ef F t xs us) (k:ef F t ys ws):ef F t (xs++ys) (us++ws):=by
 refine⟨by simp[h.1,k.1,Nat.add_mul],fun i x hx=> ?_⟩
 by_cases hi:i<xs.length
 ·rw[List.getElem?_append_left hi] at hx
  obtain⟨vs,h1,h2,h3⟩:=h.2 i x hx
  refine⟨vs,h1,h2,fun j u hu=> ?_⟩
  have:=h3 j u hu
  rw[List.getElem?_append_left (List.getElem?_eq_some_iff.1 this).1]
  exact this
 ·rw[List.getElem?_append_right (by omega)] at hx
  obtain⟨vs,h1,h2,h3⟩:=k.2 _ x hx
  refine⟨vs,h1,h2,fun j u hu=> ?_⟩
  have:=h3 j u hu
  have hm:xs.length*t.size≤i*t.size:=Nat.mul_le_mul_right _ (by omega)
  rw[List.getElem?_append_right (by rw[h.1];omega),h.1,←this,Nat.sub_mul]
  congr 1
  omega
theorem ef.mono {F F':Mem} (hF:F.le F') {t:Ty} {xs:List t.den} {us:List Value} (h:ef F t xs us):ef F' t xs us:=
 ⟨h.1,fun i x hx=>let⟨ws,h1,h2⟩:=h.2 i x hx;⟨ws,h1.mono hF,h2⟩⟩
theorem nT.SN {p:Place} {iZ:Bool} {e:Nat} {t:Ty} {xs:List t.den} {vs:Array Value} (hB:nT E w p iZ e t xs) (hv:w.heap[p.bc]? =some (.cells vs e (0,0))):
  ef E.F t xs (vs.toList.take (p.len*t.size))∧vs.size=p.cap*t.size∧xs.length=p.len∧p.len≤p.cap∧p.cap≤aK:=by
 obtain⟨h0,⟨h1,nR⟩,A9,h2,h3,h4,h5⟩:=hB
 rw[hv] at h2
 cases h2
 have hm:p.len*t.size≤p.cap*t.size:=Nat.mul_le_mul_right _ nR
 refine⟨⟨by simp[h1];omega,fun i x hx=> ?_⟩,h3,h1,nR,h0⟩
 obtain⟨us,k1,k2,k3⟩:=h5 i x hx
 refine⟨us,k1,k2,fun j u hu=> ?_⟩
 have hj:=(List.getElem?_eq_some_iff.1 hu).1
 have hi:=(List.getElem?_eq_some_iff.1 hx).1
 have hm:(i+1)*t.size≤p.len*t.size:=Nat.mul_le_mul_right _ (by omega)
 rw[Nat.succ_mul] at hm
 rw[List.getElem?_take_of_lt (by omega)]
 simpa using k3 j u hu
theorem nT.mk' {p:Place} {e:Nat} {t:Ty} {xs:List t.den} {us rest:List Value} (hv:ef E.F t xs us) (hc:p.cap≤aK) (hl:xs.length=p.len) (RR:p.len≤p.cap) {vs:Array Value}
  (hw:w.heap[p.bc]? =some (.cells vs e (0,0))) (RJ:vs.toList=us++rest) (hs:vs.size=p.cap*t.size):nT E w p false e t xs:=by
 refine⟨hc,⟨hl,RR⟩,vs,hw,hs,(fun h=>by cases h),fun i x hx=> ?_⟩
 obtain⟨ws,h1,h2,h3⟩:=hv.2 i x hx
 refine⟨ws,h1,h2,fun j u hu=> ?_⟩
 have:=h3 j u hu
 rw[←Array.getElem?_toList,RJ,List.getElem?_append_left (List.getElem?_eq_some_iff.1 this).1]
 exact this
theorem qu (hT:dt P X.ay) {t:Nat} {j:TI} (hj:(ti X t).run S ctx=some j) {ty:Ty} {z:ty.den} (hr:(tX j ty).run S ctx=some z):
  ∃i,P.info? t=some i∧i.size=j.size∧i.bytes=j.bytes∧i.zero=some j.zero∧ty.size=j.size∧0<j.size∧j.zero.cells.size=j.size∧∀F,dh F ty z j.zero.cells.toList:=by
 unfold tX at hr
 have bt:=RM.run_bind' hr
 clear hr
 obtain⟨cs,h1,hr⟩:=bt
 have bt:=RM.run_bind' hr
 clear hr
 obtain⟨u,h2,hr⟩:=bt
 have bt:=RM.run_bind' hr
 clear hr
 obtain⟨y,h3,hr⟩:=bt
 have bt:=RM.run_bind' hr
 clear hr
 obtain⟨u',h4,hr⟩:=bt
 cases RM.run_pure' hr
 obtain⟨_,i,hi,e1,e2,e3⟩:=df hT hj
 have hb:=bQ h2
 simp only[Bool.and_eq_true] at hb
 have hlen:=Nat.eq_of_beq_eq_true hb.1.1
 have h1:=bY h1
 have jz:=fun F=>nI (E:=⟨F,fun _=>none⟩) h1
 have hl:=(jz (fun _=>none)).length
 refine⟨i,hi,e1,e2,e3,Nat.eq_of_beq_eq_true hb.1.2,Nat.le_of_ble_eq_true hb.2,by simpa using hl.trans hlen,fun F=> ?_⟩
 obtain⟨y,fr⟩:=y
 have uJ:fr=[]:=by have:=bQ h4;simpa using this
 subst uJ
 exact jr (E:=⟨F,fun _=>none⟩) (w:=default) h3 (jz F) (fun q hq=>by cases hq)
theorem Nh {z:Array Value} {n i:Nat} (h:i<n) (hz:0<z.size):(madeCells z n)[i]? =z[i % z.size]? :=by
 have hm:i % z.size<z.size:=Nat.mod_lt _ hz
 simp[madeCells,h,hm]
theorem ef.made {F:Mem} {t:Ty} {x:t.den} {z:Array Value} (hz:dh F t x z.toList) (h0:0<t.size) (n m:Nat) (hnm:n≤m):
  ef F t (List.replicate n x) ((madeCells z (m*t.size)).toList.take (n*t.size)):=by
 have hl:=hz.length
 simp only[Array.length_toList] at hl
 have anA:n*t.size≤m*t.size:=Nat.mul_le_mul_right _ hnm
 refine⟨by simp only[List.length_take,Array.length_toList,size_madeCells,List.length_replicate];omega,fun i y hy=> ?_⟩
 have hi:i<n:=by have:=(List.getElem?_eq_some_iff.1 hy).1;simpa using this
 rw[List.getElem?_replicate,if_pos hi] at hy
 cases hy
 refine⟨z.toList,hz,by simpa using hl,fun j u hu=> ?_⟩
 have hj:j<t.size:=by have:=(List.getElem?_eq_some_iff.1 hu).1;simp at this;omega
 have hm:(i+1)*t.size≤n*t.size:=Nat.mul_le_mul_right _ (by omega)
 rw[Nat.succ_mul] at hm
 rw[List.getElem?_take_of_lt (by omega),Array.getElem?_toList,Nh (by omega) (by omega),hl]
 rw[show(i*t.size+j) % t.size=j by rw[Nat.add_comm,Nat.add_mul_mod_self_right,Nat.mod_eq_of_lt hj]]
 simpa using hu
theorem CA (h:HRel w0 foot base S.bl S.used E w) {d e:Nat} {t:Ty} {xs:List t.den} {us rest:List Value} {vs:Array Value} {cap:Nat} (hd:d∉S.used) (hv:ef E.F t xs us) (hc:cap≤aK) (RR:xs.length≤cap)
  (RJ:vs.toList=us++rest) (hs:vs.size=cap*t.size):
  HRel w0 foot base (put S.bl d (.row false e t xs)) (d::S.used) (E.new d ⟨false,w.heap.size,cap,xs.length⟩) (w.alloc (.cells vs e))∧E.le (E.new d ⟨false,w.heap.size,cap,xs.length⟩)∧
  gO (E.new d ⟨false,w.heap.size,cap,xs.length⟩) (.row t d) (.slice (some ⟨w.heap.size,0,none⟩) xs.length cap):=by
 have jR:E.place d=none:=by
  cases he:E.place d with
  |none=>rfl
  |some q=>exact absurd (h.used d q he) hd
 have hle:=Env.nB (p:=⟨false,w.heap.size,cap,xs.length⟩) jR
 refine⟨h.alloc hd (fun _=>rfl) (Or.inr ⟨rfl,?_⟩),hle,⟨_,Env.fa,.inr ⟨rfl,rfl,RR,hc⟩⟩⟩
 exact nT.mk' (p:=⟨false,w.heap.size,cap,xs.length⟩) (hv.mono hle.F) hc rfl RR oM RJ hs
theorem vW (w:World) {t:Ty}:∀{n:Nat} {cs:List C} {xs:List t.den} {us:List Value},(uV t n cs).run S ctx=some xs→b5 E cs us→ef E.F t xs us∧xs.length=n
 |0,cs,xs,us,h,hv=>by
  unfold uV at h
  split at h
  ·cases h
   have hv:us=[]:=hv
   subst hv
   exact⟨.nil,rfl⟩
  ·cases h
 |n+1,cs,xs,us,h,hv=>by
  unfold uV at h
  obtain⟨y,h1,h⟩:=RM.run_bind' h
  obtain⟨u,h2,h⟩:=RM.run_bind' h
  obtain⟨r,h3,h⟩:=RM.run_bind' h
  cases RM.run_pure' h
  have hf:y.2=[]:=List.isEmpty_iff.1 (bQ h2)
  have hy:=jr (x:=y.1) (fr:=y.2) (E:=E) (w:=w) h1 (hv.take t.size) (by rw[hf];exact fun q hq=>by cases hq)
  obtain⟨k1,k2⟩:=vW w h3 (hv.drop t.size)
  refine⟨?_,by simp[k2]⟩
  have:=ef.append (xs:=[y.1]) (us:=us.take t.size) ⟨by simpa using hy.length,fun i x hx=>by
   cases i with
   |zero=>
    have hx:y.1=x:=by simpa using hx
    subst hx
    exact⟨_,hy,hy.length,fun j u hu=>by simpa using hu⟩
   |succ i=>simp at hx⟩ k1
  rwa [List.take_append_drop] at this
theorem Sw (hT:dt P X.ay) (h:SRel w0 foot base S E a w) {o:Oper} {t d:Nat} (ho:o.op= .alloc t) {r:b7}
  (hr:(do
   let i ←ti X t
   match i.d with
   | .array n e=>(do
    let j ←ti X e
    let ty ←RM.ofOption j.ty
    let cs ←RM.ofOption (lY i.zero.cells.toList)
    cR (Nat.blt 0 n&&Nat.ble n 16777216)
    let xs ←uV ty n cs
    .ret {val:=some (.one (.mw ty d 0 0)),ck:=[(d,.row false t ty xs)],new:=[d]})
   |_=>(do
    let cs ←RM.ofOption (lY i.zero.cells.toList)
    .ret {val:=some (.one (.ptr d 0)),ck:=[(d,.cells cs)],new:=[d]}):RM b7).run S ctx=some r)
  (hn:∀i∈r.new,i∉S.used):bX P w0 foot base S E a w o r:=by
 have bt:=RM.run_bind' hr
 clear hr
 obtain⟨i,h1,hr⟩:=bt
 split at hr
 ·rename_i n e hd
  obtain⟨hs,j,hj,e1,e2,e3⟩:=df hT h1
  have bt:=RM.run_bind' hr
  clear hr
  obtain⟨j',h2,hr⟩:=bt
  have bt:=RM.run_bind' hr
  clear hr
  obtain⟨ty,h3,hr⟩:=bt
  have bt:=RM.run_bind' hr
  clear hr
  obtain⟨cs,h4,hr⟩:=bt
  have bt:=RM.run_bind' hr
  clear hr
  obtain⟨u,h5,hr⟩:=bt
  have bt:=RM.run_bind' hr
  clear hr
  obtain⟨xs,h6,hr⟩:=bt
  cases hr
  have h5:=bQ h5
  simp only[Bool.and_eq_true] at h5
  have hn0:0<n:=Nat.le_of_ble_eq_true h5.1
  have hn1:n≤16777216:=Nat.le_of_ble_eq_true h5.2
  obtain⟨k1,k2⟩:=vW (E:=E) w h6 (nI (bY h4))
  have iX:i.zero.cells.size=n*ty.size:=by have:=k1.1;rw[k2] at this;simpa using this
  obtain⟨q1,q2,q3⟩:=CA h.toHRel (e:=t) (cap:=n) (hn d (by simp)) k1 (by unfold aK;omega) (by omega) (vs:=i.zero.cells) (rest:=[]) (by simp) iX
  obtain⟨p,hp,_⟩:=q3
  have dj:p=⟨false,w.heap.size,n,xs.length⟩:=by
   have:=Env.fa (E:=E) (id:=d) (p:=⟨false,w.heap.size,n,xs.length⟩)
   rw[this] at hp
   cases hp
   rfl
  refine bX.value (v:= .pointer (some ⟨w.heap.size,0,none⟩)) (w':=w.alloc (.cells i.zero.cells t)) ?_ ⟨q2,q1,?_⟩
  ·simp[execOp,ho,Instr.alloc,kg hj e3,newVar,newRow]
  ·refine⟨_,Env.fa,rfl,?_,?_⟩
   ·show 0<xs.length
    omega
   ·simp
 ·exact Wd hT h ho h1 hr hn
theorem Jv (hT:dt P X.ay) (h:SRel w0 foot base S E a w) (hc:bo a ctx) {o:Oper} {t d:Nat} {l c:Operand} (ho:o.op= .makeSlice t l c) {r:b7}
  (hr:(do
   let i ←ti X t
   match i.d with
   | .slice e=>(do
    let j ←ti X e
    let ty ←RM.ofOption j.ty
    let n ←BY (←ev l)
    let m ←BY (←ev c)
    let z ←tX j ty
    .ret {val:=some (.one (.row ty d)),ck:=[(d,.row false e ty (List.replicate n.toNat z))],new:=[d],conds:=[0≤n∧n≤m,roomFor m.toNat j.bytes∧m≤aK]})
   |_=> .fail:RM b7).run S ctx=some r) (hn:∀i∈r.new,i∉S.used) (cq:∀c∈r.conds,c):bX P w0 foot base S E a w o r:=by
 have bt:=RM.run_bind' hr
 clear hr
 obtain⟨i,h1,hr⟩:=bt
 obtain⟨hs,_⟩:=df hT h1
 split at hr
 ·rename_i e hd
  rw[hd] at hs
  have bt:=RM.run_bind' hr
  clear hr
  obtain⟨j,h2,hr⟩:=bt
  have bt:=RM.run_bind' hr
  clear hr
  obtain⟨ty,h3,hr⟩:=bt
  have bt:=RM.run_bind' hr
  clear hr
  obtain⟨s1,h4,hr⟩:=bt
  have bt:=RM.run_bind' hr
  clear hr
  obtain⟨n,h5,hr⟩:=bt
  have bt:=RM.run_bind' hr
  clear hr
  obtain⟨s2,h6,hr⟩:=bt
  have bt:=RM.run_bind' hr
  clear hr
  obtain⟨m,h7,hr⟩:=bt
  have bt:=RM.run_bind' hr
  clear hr
  obtain⟨z,h8,hr⟩:=bt
  cases hr
  obtain⟨i',g1,g2,g3,g4,g5,g6,g7,g8⟩:=qu hT h2 h8
  obtain⟨kl,el,_⟩:=u4 (gj h hc h4) h5
  obtain⟨kc,ec,_⟩:=u4 (gj h hc h6) h7
  have c1:=cq (0≤n∧n≤m) (by simp)
  have c2:=cq (roomFor m.toNat j.bytes∧m≤aK) (by simp)
  have hb:(i'.bytes:Int)*m≤281474976710656:=by
   have h1:=c2.1
   unfold roomFor at h1
   rw[Nat.mul_add] at h1
   have:((m.toNat*j.bytes:Nat):Int)=m*(j.bytes:Int):=by
    rw[Int.natCast_mul,Int.toNat_of_nonneg (by omega)]
   rw[g3,Int.mul_comm,←this]
   omega
  have hmk:=run_make (P:=P) w t e i' j.zero (dP hs) g1 g4 kl kc n m c1.1 c1.2 hb (by have:=c2.2;unfold aK at this;omega)
  rw[g2,←g5] at hmk
  obtain⟨k1,k2,k3⟩:=CA h.toHRel (e:=e) (cap:=m.toNat) (hn d (by simp)) (ef.made (g8 E.F) (by omega) n.toNat m.toNat (by omega)) (by have:=c2.2;omega) (by simp;omega)
   (vs:=madeCells j.zero.cells (m.toNat*ty.size)) (rest:=(madeCells j.zero.cells (m.toNat*ty.size)).toList.drop (n.toNat*ty.size)) (List.take_append_drop _ _).symm (size_madeCells _ _)
  rw[List.length_replicate] at k1 k2 k3
  refine bX.value (v:=_) (w':=_) ?_ ⟨k2,k1,k3⟩
  simp only[execOp,ho,el,ec,Sem.run_bind,hmk,Result.andThen_ok]
  rfl
 ·cases hr
theorem G2 (h:HRel w0 foot base S.bl S.used E w) {t:Ty} (h0:0<t.size) {c:C} {v:Value} (hv:gO E c v) {ys:List t.den} (hr:(Of t c).run S ctx=some ys):
  (v= .slice none 0 0∧ys=[])∨∃ad cap news,v= .slice (some ad) ys.length cap∧ef E.F t ys news∧∀(j:Nat) u,news[j]? =some u→w.cell? (ad.add j)=some u:=by
 unfold Of at hr
 split at hr
 ·rename_i t' xs
  obtain⟨e,rfl⟩:=Ty.iJ (bY hr)
  cases e
  obtain⟨_,aa,cap,g1,g2,g3,g4,g5⟩:=hv
  simp only[List.cons.injEq,and_true] at g1
  cases aa with
  |none=>
   have:=g4 rfl
   have hx:Ty.L xs=[]:=List.eq_nil_of_length_eq_zero (by omega)
   exact .inl ⟨by rw[g1,hx,this];rfl,hx⟩
  |some p=>
   refine .inr ⟨p,cap,?_⟩
   by_cases hx:Ty.L xs=[]
   ·refine⟨[],g1,?_,fun j u hu=>by simp at hu⟩
    show ef _ _ (Ty.L xs) _
    rw[hx]
    exact .nil
   ·have vu:0<(Ty.L xs).length:=List.length_pos_iff.2 hx
    obtain⟨Pm,ZN,m1,m2,m3⟩:=g5 p rfl 0 _ (List.getElem?_eq_getElem vu)
    obtain⟨b,off,spot⟩:=p
    simp only at Pm
    subst Pm
    obtain⟨cs,ee,mm,hF,_⟩:=m3 0 ZN[0] (List.getElem?_eq_getElem (by omega))
    have get:∀(i:Nat) x,(Ty.L xs)[i]? =some x→∃ws:List Value,dh E.F _ x ws∧ws.length=Ty.size _∧∀(j:Nat) u,ws[j]? =some u→cs[off+(i*Ty.size _+j)]? =some u:=fun i x hx=>by
     obtain⟨_,ws,n1,n2,n3⟩:=g5 _ rfl i x hx
     refine⟨ws,n1,n2,fun j u hu=> ?_⟩
     obtain⟨Yo,ee',mm',X8,hc⟩:=n3 j u hu
     rw[hF] at X8
     cases X8
     exact hc
    refine⟨(cs.toList.drop off).take ((Ty.L xs).length*t.size),g1,⟨?_,fun i x hx=> ?_⟩,fun j u hu=> ?_⟩
    ·obtain⟨ws,n1,n2,n3⟩:=get ((Ty.L xs).length - 1) _ (List.getElem?_eq_getElem (by omega))
     have aeh:=n3 (t.size - 1) ws[t.size - 1] (List.getElem?_eq_getElem (by omega))
     have dK:=(Array.getElem?_eq_some_iff.1 aeh).1
     have hm:((Ty.L xs).length - 1)*t.size+t.size=(Ty.L xs).length*t.size:=by
      rw[←Nat.succ_mul];congr 1;omega
     show _=(Ty.L xs).length*t.size
     simp only[List.length_take,List.length_drop,Array.length_toList]
     omega
    ·obtain⟨ws,n1,n2,n3⟩:=get i x hx
     refine⟨ws,n1,n2,fun j u hu=> ?_⟩
     have hj:=(List.getElem?_eq_some_iff.1 hu).1
     have hi:i<(Ty.L xs).length:=(List.getElem?_eq_some_iff.1 hx).1
     have hm:(i+1)*t.size≤(Ty.L xs).length*t.size:=Nat.mul_le_mul_right _ (by omega)
     rw[Nat.succ_mul] at hm
     rw[List.getElem?_take_of_lt (by omega),List.getElem?_drop,Array.getElem?_toList]
     exact n3 j u hu
    ·have hj:j<(Ty.L xs).length*t.size:=by
      have:=(List.getElem?_eq_some_iff.1 hu).1
      simp at this
      omega
     rw[List.getElem?_take_of_lt hj,List.getElem?_drop,Array.getElem?_toList] at hu
     rw[nc,jH (h.mW _ _ hF)]
     exact hu
 ·rename_i tt b
  simp only[RM.run] at hr
  split at hr
  ·rename_i B hf
   split at hr
   ·rename_i iZ e t' xs
    split at hr
    ·rename_i Ay
     obtain⟨ee,rfl⟩:=Ty.iJ (bY hr)
     cases ee
     obtain⟨p,hp,hk⟩:=hv
     obtain⟨p',dj,hB⟩:=h.ck _ _ hf
     rw[hp] at dj;cases dj
     rcases hk with ⟨dk,hv,hz⟩|⟨dk,hv,g1,g2⟩
     ·have hx:xs=[]:=List.eq_nil_of_length_eq_zero (by rw[hB.sj,hz])
      exact .inl ⟨hv,hx⟩
     ·rcases hB with ⟨yX,_⟩|⟨_,hB⟩
      ·rw[dk] at yX;cases yX
      ·obtain⟨_,_,vs,hw,_⟩:=id hB
       obtain⟨k1,k2,k3,k4,k5⟩:=hB.SN hw
       refine .inr ⟨_,_,_,by rw[hv];congr 1;exact k3.symm,k1,fun j u hu=> ?_⟩
       have hj:=(List.getElem?_eq_some_iff.1 hu).1
       simp only[List.length_take] at hj
       rw[List.getElem?_take_of_lt (by omega),Array.getElem?_toList] at hu
       rw[nc,jH hw]
       simpa using hu
    ·cases hr
   ·cases hr
  ·cases hr
 ·rename_i tt b lo len
  simp only[RM.run] at hr
  split at hr
  ·rename_i B hf
   split at hr
   ·rename_i iZ e t' xs
    split at hr
    ·rename_i Ay
     have Ay:=Ty.beq_eq Ay
     subst Ay
     obtain⟨ee,rfl⟩:=Ty.iJ (bY hr)
     cases ee
     obtain⟨p,hp,hl,hk⟩:=hv
     obtain⟨p',dj,hB⟩:=h.ck _ _ hf
     rw[hp] at dj;cases dj
     have hlen:=hB.sj
     have U3:((xs.drop lo).take len).length=len:=by simp[hlen];omega
     rcases hk with ⟨dk,hv,hz⟩|⟨dk,aa,hv,g1,g2,g3⟩
     ·exact .inl ⟨hv,List.eq_nil_of_length_eq_zero (U3.trans (by omega))⟩
     ·rcases hB with ⟨yX,_⟩|⟨_,hB⟩
      ·rw[dk] at yX;cases yX
      ·obtain⟨_,_,vs,hw,_⟩:=id hB
       obtain⟨k1,k2,k3,k4,k5⟩:=hB.SN hw
       rcases g3 with g3|rfl
       ·have CY:len=0:=by omega
        subst CY
        exact .inr ⟨aa,_,[],hv,by simp only[List.take_zero];exact .nil,fun j u hu=>by simp at hu⟩
       ·have hm1:(lo+len)*t.size≤p.len*t.size:=Nat.mul_le_mul_right _ hl
        have U8:p.len*t.size≤p.cap*t.size:=Nat.mul_le_mul_right _ k4
        rw[Nat.add_mul] at hm1
        refine .inr ⟨_,_,(vs.toList.drop (lo*t.size)).take (len*t.size),by rw[hv];congr 1;exact U3.symm,⟨?_,fun i x hx=> ?_⟩,fun j u hu=> ?_⟩
        ·show _=((xs.drop lo).take len).length*t.size
         rw[U3]
         simp only[List.length_take,List.length_drop,Array.length_toList]
         rw[k2]
         omega
        ·have Ph:((xs.drop lo).take len)[i]? =some x:=hx
         have hi:i<len:=by
          have:=(List.getElem?_eq_some_iff.1 Ph).1
          omega
         have RH:xs[lo+i]? =some x:=by
          rw[List.getElem?_take_of_lt hi,List.getElem?_drop] at Ph
          exact Ph
         obtain⟨ws,n1,n2,n3⟩:=k1.2 _ x RH
         refine⟨ws,n1,n2,fun j u hu=> ?_⟩
         have hj:=(List.getElem?_eq_some_iff.1 hu).1
         have hm3:(i+1)*t.size≤len*t.size:=Nat.mul_le_mul_right _ (by omega)
         rw[Nat.succ_mul] at hm3
         have:=n3 j u hu
         rw[Nat.add_mul] at this
         rw[List.getElem?_take_of_lt (by omega)] at this
         rw[List.getElem?_take_of_lt (by omega),List.getElem?_drop,←Nat.add_assoc]
         exact this
        ·have hj:=(List.getElem?_eq_some_iff.1 hu).1
         simp only[List.length_take] at hj
         rw[List.getElem?_take_of_lt (by omega),List.getElem?_drop,Array.getElem?_toList] at hu
         rw[nc,jH hw]
         exact hu
    ·cases hr
   ·cases hr
  ·cases hr
 ·cases hr
  exact .inl ⟨hv,rfl⟩
 ·cases hr
end Go.Vc
end

section
set_option linter.unusedVariables false
set_option linter.unusedSimpArgs false
namespace Go.Vc
open Go
variable {P:Program} {X:Ctx} {w0:World} {foot:gF} {base:Mem} {S:St} {E:Env} {a:Act} {w:World} {ctx:c8}
theorem Es {bl:List (Nat×c5)} {b i:Nat} {B:c5} (h:find (rem bl b) i=some B):find bl i=some B∧b≠i:=gn h
theorem HRel.drop {bl:List (Nat×c5)} {used:List Nat} (h:HRel w0 foot base bl used E w) (b:Nat):HRel w0 foot base (rem bl b) used E w:=
 h.congr (fun id B hf=>(Es hf).1) (fun _ hi=>hi)
theorem HRel.attach {bl:List (Nat×c5)} {used:List Nat} (h:HRel w0 foot base bl used E w) {d g:Nat} {p:Place} {B:c5} {o:Obj} (hd:d∉used) (hp:p.nil=false) (hb:p.bc=g) (hg:g<w.heap.size)
  (rm:w0.heap.size≤g∨foot g) (hF:E.F g=none) (nD:∀i B' q,find bl i=some B'→E.place i=some q→q.nil=false→q.bc≠g)
  (hB:fX (E.new d p) (eu w g o) p B):HRel w0 foot base (put bl d B) (d::used) (E.new d p) (eu w g o):=by
 have jR:E.place d=none:=by
  cases he:E.place d with
  |none=>rfl
  |some q=>exact absurd (h.used d q he) hd
 have hle:=Env.nB (p:=p) jR
 have pH:∀i B',i≠d→find (put bl d B) i=some B'→find bl i=some B':=fun i B' hi hf=>by rwa [bk _ _ _ _ (Ne.symm hi)] at hf
 refine⟨⟨h.keep.os,h.keep.tape,h.keep.output,Nat.le_trans h.keep.size (by simp[eu]),fun k hk Pw=>(nU fun e=> ?_).trans (h.keep.block k hk Pw)⟩,fun b o' gI=> ?_,h.src,fun i B' hf=> ?_,fun i B' q hf hq hn=> ?_,fun i j B' nM q q' hf eh hq ni hn dk kS=> ?_,fun i q hq=> ?_⟩
 ·subst e
  rcases rm with h1|h1
  ·omega
  ·exact Pw h1
 ·rw[nU]
  ·exact h.mW b o' gI
  ·rintro rfl
   have:E.F b=some o':=gI
   rw[hF] at this
   cases this
 ·by_cases hi:i=d
  ·subst hi
   rw[bO] at hf
   cases hf
   exact⟨p,Env.fa,hB⟩
  ·obtain⟨q,hq,k⟩:=h.ck i B' (pH i B' hi hf)
   exact⟨q,hle.place _ _ hq,(k.mono hle).world fun hn=>nU (nD i B' q (pH i B' hi hf) hq hn)⟩
 ·by_cases hi:i=d
  ·subst hi
   rw[Env.fa] at hq
   cases hq
   rw[hb]
   exact⟨rm,fun _=>hF⟩
  ·rw[Env.gl hi] at hq
   exact h.own i B' q (pH i B' hi hf) hq hn
 ·by_cases hi:i=d
  ·have hj:j≠d:=fun e=>kS (hi.trans e.symm)
   rw[Env.gl hj] at ni
   have:=nD j nM q' (pH j nM hj eh) ni dk
   subst hi
   rw[Env.fa] at hq
   cases hq
   rw[hb]
   exact Ne.symm this
  ·by_cases hj:j=d
   ·rw[Env.gl hi] at hq
    have:=nD i B' q (pH i B' hi hf) hq hn
    subst hj
    rw[Env.fa] at ni
    cases ni
    rw[hb]
    exact this
   ·rw[Env.gl hi] at hq
    rw[Env.gl hj] at ni
    exact h.inj i j B' nM q q' (pH i B' hi hf) (pH j nM hj eh) hq ni hn dk kS
 ·by_cases hi:i=d
  ·exact hi▸List.mem_cons_self
  ·rw[Env.gl hi] at hq
   exact List.mem_cons_of_mem _ (h.used i q hq)
theorem yy {n b:Nat} (h:roomFor n b):n*b≤140737488355328∧n≤140737488355328:=by
 unfold roomFor at h
 rw[Nat.mul_add] at h
 omega
theorem oy {t e ty:Nat} {j:TypeInfo} (ht:P.underlying t=some (.slice e)) (hi:P.info? e=some j) {b:Option Addr} {n c:Nat} (hnc:n≤c) (hb:b=none→n=0∧c=0):
  (Builtin.append_ #[t,t] ty #[.slice b n c,.slice none 0 0]).run P w= .ok (.slice b n c) w:=by
 cases b with
 |none=>obtain⟨rfl,rfl⟩:=hb rfl;simp[Builtin.append_,run_underlying ht,dY hi,Builtin.lenOf,Builtin.firstCells]
 |some a=>simp[Builtin.append_,run_underlying ht,dY hi,Builtin.lenOf,Builtin.firstCells,hnc,storeCells]
theorem rk {t e ty:Nat} {j:TypeInfo} (ht:P.underlying t=some (.slice e)) (hi:P.info? e=some j) {a:Addr} {c:Nat}:
  (Builtin.append_ #[t,t] ty #[.slice none 0 0,.slice (some a) 0 c]).run P w= .ok (.slice none 0 0) w:=by
 simp[Builtin.append_,run_underlying ht,dY hi,Builtin.lenOf,Builtin.firstCells,loadCells,loadCellsFrom]
theorem rv (z:Array Value) (n:Nat):(Builtin.zeroCells z n).size=n*z.size:=by simp[Builtin.zeroCells]
theorem rG (w:World) (n k9:Nat) (e:Nat) (h:n≤aK):n≤grownCap w n k9 e∧grownCap w n k9 e≤aK:=by
 have h1:=grownCap_ge w n k9 e
 have h2:=grownCap_le_maxLen w n k9 e (by simp only[maxLen];unfold aK at h;omega)
 refine⟨h1,?_⟩
 simp only[maxLen] at h2
 unfold aK
 omega
theorem Sv (hT:dt P X.ay) (h:SRel w0 foot base S E a w) (hc:bo a ctx) {o:Oper} {s x:Operand} {t:Nat} {d:Nat} {args:Array Operand} {yj:Array Nat} (ho:o.op= .call {callee:= .builtin .append,args:=args,argTypes:=yj})
  (hargs:args.toList=[s,x]) (X4:yj.toList=[t,t]) {r:b7}
  (hr:(do
   let i ←ti X t
   match i.d with
   | .slice e=>(do
    let j ←ti X e
    let ty ←RM.ofOption j.ty
    let _ ←tX j ty
    let c ←lC s
    Jc d e j ty c (←lC x))
   |_=> .fail:RM b7).run S ctx=some r) (hn:∀i∈r.new,i∉S.used) (cq:∀c∈r.conds,c):bX P w0 foot base S E a w o r:=by
 obtain rfl:args= #[s,x]:=by apply Array.ext';simpa using hargs
 obtain rfl:yj= #[t,t]:=by apply Array.ext';simpa using X4
 have bt:=RM.run_bind' hr
 clear hr
 obtain⟨i,h1,hr⟩:=bt
 obtain⟨hs,_⟩:=df hT h1
 split at hr
 ·rename_i e hd
  rw[hd] at hs
  have hu:=dP hs
  have bt:=RM.run_bind' hr
  clear hr
  obtain⟨j,h2,hr⟩:=bt
  have bt:=RM.run_bind' hr
  clear hr
  obtain⟨ty,h3,hr⟩:=bt
  have bt:=RM.run_bind' hr
  clear hr
  obtain⟨z,h4,hr⟩:=bt
  have bt:=RM.run_bind' hr
  clear hr
  obtain⟨c,h5,hr⟩:=bt
  have bt:=RM.run_bind' hr
  clear hr
  obtain⟨c',h6,hr⟩:=bt
  obtain⟨j',g1,g2,g3,g4,g5,g6,g7,g8⟩:=qu hT h2 h4
  have Pl:=gq h hc h5
  have hxv:=gq h hc h6
  unfold Jc at hr
  have bt:=RM.run_bind' hr
  clear hr
  obtain⟨ys,h7,hr⟩:=bt
  have wD:=G2 h.toHRel (by omega) hxv h7
  have run:∀v w',(Builtin.append_ #[t,t] o.type #[a.eval s,a.eval x]).run P w= .ok v w'→(execOp a.eval o).run P w= .ok (.value v) w':=fun v w' hv=>by
   simp[execOp,ho,resolve,invoke,builtin,hv]
  have fresh:∀{xs:List ty.den} {us:List Value} {v:Value} {S':St} {cap:Nat} {vs:Array Value} {rest:List Value},S'.used=S.used→HRel w0 foot base S'.bl S'.used E w.drew→d∉S.used→ef E.F ty xs us→cap≤aK→xs.length≤cap→
    vs.toList=us++rest→vs.size=cap*ty.size→
    HRel w0 foot base (put S'.bl d (.row false e ty xs)) (d::S'.used) (E.new d ⟨false,w.heap.size,cap,xs.length⟩) (w.drew.alloc (.cells vs e))∧E.le (E.new d ⟨false,w.heap.size,cap,xs.length⟩)∧
    gO (E.new d ⟨false,w.heap.size,cap,xs.length⟩) (.row ty d) (.slice (some ⟨w.heap.size,0,none⟩) xs.length cap):=fun he hh hd hv hc hl RJ iX=>by
   exact CA (S:=_) (w:=w.drew) hh (by rw[he];exact hd) hv hc hl RJ iX
  split at hr
  ·cases hr
   have Nb:d∉S.used:=hn d (by simp)
   have jR:E.place d=none:=by
    cases he:E.place d with
    |none=>rfl
    |some q=>exact absurd (h.used d q he) Nb
   have HV:=yy (cq _ (List.mem_singleton.2 rfl))
   have Pl:a.eval s= .slice none 0 0:=Pl
   have yL:ys=[]→(Builtin.append_ #[t,t] o.type #[a.eval s,a.eval x]).run P w= .ok (.slice none 0 0) w→bX P w0 foot base S E a w o {val:=some (.one (.row ty d)),ck:=[(d,.row false e ty ys)],new:=[d],conds:=[roomFor ys.length j.bytes]}:=fun hy dA=>by
    refine bX.value (run _ _ dA) ⟨Env.nB (p:=⟨true,0,0,0⟩) jR,h.toHRel.Mt Nb rfl (Or.inl ⟨rfl,hy,rfl⟩),⟨_,Env.fa,.inl ⟨rfl,rfl,rfl⟩⟩⟩
   rcases wD with ⟨vS,hy⟩|⟨ad,cap,news,vS,CX,qS⟩
   ·refine yL hy ?_
    rw[Pl,vS]
    exact oy hu g1 (Nat.le_refl _) (fun _=>⟨rfl,rfl⟩)
   ·by_cases hy:ys=[]
    ·refine yL hy ?_
     rw[Pl,vS,hy]
     exact rk hu g1
    ·have vu:0<ys.length:=List.length_pos_iff.2 hy
     have dA:=run_append_nil (P:=P) w t o.type e j' j.zero hu g1 g4 ad ys.length cap news (by rw[CX.1,g5,g2]) qS vu (by omega) (by rw[g3];omega)
     rw[←Pl,←vS] at dA
     obtain⟨b1,b2⟩:=rG w ys.length 0 e (by unfold aK;omega)
     obtain⟨k1,k2,k3⟩:=fresh (S':=S) (v:= .nilFunc) rfl (h.toHRel.drew _) Nb CX b2 b1 (vs:=news.toArray++Builtin.zeroCells j.zero.cells (grownCap w ys.length 0 e - ys.length)) (by simp;rfl)
      (by simp only[Array.size_append,List.size_toArray,CX.1,rv,g7,←g5,←Nat.add_mul];congr 1;omega)
     exact bX.value (run _ _ dA) ⟨k2,k1,k3⟩
  ·rename_i tt b
   simp only[RM.run] at hr
   split at hr
   ·rename_i B hf
    split at hr
    ·rename_i e' t' xs
     split at hr
     ·rename_i hb
      simp only[Bool.and_eq_true] at hb
      have he:=Nat.eq_of_beq_eq_true hb.2
      subst he
      have bt:=RM.run_bind' hr
      clear hr
      obtain⟨zs,h8,hr⟩:=bt
      cases hr
      obtain⟨ee,rfl⟩:=Ty.iJ (bY h8)
      cases ee
      have Nb:d∉S.used:=hn d (by simp)
      have jR:E.place d=none:=by
       cases he:E.place d with
       |none=>rfl
       |some q=>exact absurd (h.used d q he) Nb
      have HV:=yy (cq (roomFor (xs.length+ys.length) j.bytes) (List.mem_singleton.2 rfl))
      obtain⟨p,hp,hk⟩:=Pl
      obtain⟨p',dj,hB⟩:=h.ck _ _ hf
      rw[hp] at dj;cases dj
      have Na:=h.toHRel.drop b
      rcases hk with ⟨dk,hv,hz⟩|⟨dk,hv,q1,q2⟩
      ·-- nil so far
       have hx:xs=[]:=List.eq_nil_of_length_eq_zero (by rw[hB.sj,hz])
       subst hx
       have yL:ys=[]→(Builtin.append_ #[t,t] o.type #[a.eval s,a.eval x]).run P w= .ok (.slice none 0 0) w→bX P w0 foot base S E a w o {val:=some (.one (.row ty d)),ck:=[(d,.row false e ty ([]++ys))],del:=[b],new:=[d],conds:=[roomFor (0+ys.length) j.bytes]}:=fun hy dA=>by
        refine bX.value (run _ _ dA) ⟨Env.nB (p:=⟨true,0,0,0⟩) jR,Na.Mt Nb rfl (Or.inl ⟨rfl,hy,rfl⟩),⟨_,Env.fa,.inl ⟨rfl,rfl,rfl⟩⟩⟩
       rcases wD with ⟨vS,hy⟩|⟨ad,cap,news,vS,CX,qS⟩
       ·refine yL hy ?_
        rw[hv,vS]
        exact oy hu g1 (Nat.le_refl _) (fun _=>⟨rfl,rfl⟩)
       ·by_cases hy:ys=[]
        ·refine yL hy ?_
         rw[hv,vS,hy]
         exact rk hu g1
        ·have vu:0<ys.length:=List.length_pos_iff.2 hy
         simp only[List.length_nil,Nat.zero_add] at HV
         have dA:=run_append_nil (P:=P) w t o.type e j' j.zero hu g1 g4 ad ys.length cap news (by rw[CX.1,g5,g2]) qS vu (by omega) (by rw[g3];omega)
         rw[←hv,←vS] at dA
         obtain⟨b1,b2⟩:=rG w ys.length 0 e (by unfold aK;omega)
         obtain⟨k1,k2,k3⟩:=fresh (S':={S with bl:=rem S.bl b}) (v:= .nilFunc) rfl (Na.drew _) Nb CX b2 b1 (vs:=news.toArray++Builtin.zeroCells j.zero.cells (grownCap w ys.length 0 e - ys.length)) (by simp;rfl)
          (by simp only[Array.size_append,List.size_toArray,CX.1,rv,g7,←g5,←Nat.add_mul];congr 1;omega)
         exact bX.value (run _ _ dA) ⟨k2,k1,k3⟩
      ·rcases hB with ⟨yX,_⟩|⟨_,hB⟩
       ·rw[dk] at yX;cases yX
       ·obtain⟨_,_,cur,hw,_⟩:=id hB
        obtain⟨k1,k2,k3,k4,k5⟩:=hB.SN hw
        have hmul:p.len*ty.size≤p.cap*ty.size:=Nat.mul_le_mul_right _ k4
        have own:=h.own b _ p hf hp dk
        have ad7:∃news,ef E.F ty ys news∧((a.eval x= .slice none 0 0∧news=[])∨∃ad cap,a.eval x= .slice (some ad) ys.length cap∧∀(j:Nat) u,news[j]? =some u→w.cell? (ad.add j)=some u):=by
         rcases wD with ⟨vS,hy⟩|⟨ad,cap,news,vS,CX,qS⟩
         ·exact⟨[],by rw[hy];exact .nil,.inl ⟨vS,rfl⟩⟩
         ·exact⟨news,CX,.inr ⟨ad,cap,vS,qS⟩⟩
        obtain⟨news,CX,hx⟩:=ad7
        have HW:=CX.1
        by_cases yY:p.len+ys.length≤p.cap
        ·-- in place
         have aec:(p.len+ys.length)*ty.size≤p.cap*ty.size:=Nat.mul_le_mul_right _ yY
         rw[Nat.add_mul] at aec
         have FE:∀u∈news,u.oneCell'=true:=fun u hu=>by
          rcases hx with ⟨_,rfl⟩|⟨ad,cap,vS,qS⟩
          ·cases hu
          ·obtain⟨n,abu,rfl⟩:=List.mem_iff_getElem.1 hu
           have hn0:n<ys.length*ty.size:=by rw[←HW];exact abu
           have hi:n / ty.size<ys.length:=Nat.div_lt_of_lt_mul (by rw[Nat.mul_comm];exact hn0)
           obtain⟨ws,r1,r2,r3⟩:=CX.2 (n / ty.size) _ (List.getElem?_eq_getElem hi)
           have hm:=Nat.mod_lt n (show ty.size>0 by omega)
           have:=r3 (n % ty.size) ws[n % ty.size] (List.getElem?_eq_getElem (by omega))
           rw[Nat.mul_comm,Nat.div_add_mod,List.getElem?_eq_getElem abu] at this
           rw[Option.some.inj this]
           exact(gG (E:=⟨E.F,fun _=>none⟩) r1).oB _ (List.getElem_mem _)
         have dA:(Builtin.append_ #[t,t] o.type #[a.eval s,a.eval x]).run P w= .ok (.slice (some ⟨p.bc,0,none⟩) (p.len+ys.length) p.cap) (eu w p.bc (.cells (cur.toList.take (p.len*ty.size)++news++cur.toList.drop (p.len*ty.size+news.length)).toArray e (0,0))):=by
          rw[hv]
          rcases hx with ⟨vS,rfl⟩|⟨ad,cap,vS,qS⟩
          ·have Xx:ys.length=0:=by
            have:ys.length*ty.size=0:=by rw[←HW];rfl
            rcases Nat.mul_eq_zero.1 this with h|h
            ·exact h
            ·omega
           rw[vS,oy hu g1 k4 (fun h=>by cases h),Xx]
           simp only[List.append_nil,List.length_nil,Nat.add_zero,List.take_append_drop,Array.toArray_toList]
           congr 1
           rw[←xh hw,setRow_self w p.bc cur e (0,0) hw]
          ·have:=run_append_room (P:=P) w t o.type e j' hu g1 p.bc p.len p.cap cur hw ad ys.length cap news (by rw[HW,g5,g2]) qS FE yY (by rw[g2,←g5,HW,k2];omega)
           rw[vS,this,xh hw,g2,←g5]
         have hlen:(xs++ys).length=p.len+ys.length:=by simp[k3]
         have MZ:=k1.append CX
         have jS:∀i B' q,find (rem S.bl b) i=some B'→E.place i=some q→q.nil=false→q.bc≠p.bc:=fun i B' q eh hq By=>by
          obtain⟨wI,BC⟩:=Es eh
          exact h.inj i b B' _ q p wI hf hq hp By dk (Ne.symm BC)
         have Tp:=Na.attach (p:=⟨false,p.bc,p.cap,p.len+ys.length⟩) (B:= .row false e ty (xs++ys)) (o:= .cells (cur.toList.take (p.len*ty.size)++news++cur.toList.drop (p.len*ty.size+news.length)).toArray e (0,0)) Nb rfl rfl (dw hw) own.1 (own.2 rfl) jS
          (Or.inr ⟨rfl,nT.mk' (p:=⟨false,p.bc,p.cap,p.len+ys.length⟩) (MZ.mono (Env.nB jR).F) k5 hlen yY (iB (dw hw)) rfl (by
           simp only[List.size_toArray,List.length_append,List.length_take,List.length_drop,Array.length_toList]
           rw[k2,HW]
           omega)⟩)
         exact bX.value (run _ _ dA) ⟨Env.nB jR,Tp,⟨_,Env.fa,.inr ⟨rfl,rfl,yY,k5⟩⟩⟩
        ·-- a new array
         rcases hx with ⟨vS,jS⟩|⟨ad,cap,vS,qS⟩
         ·subst jS
          have:ys.length*ty.size=0:=by rw[←HW];rfl
          rcases Nat.mul_eq_zero.1 this with h|h<;>omega
         ·have dA:=run_append_grow (P:=P) w t o.type e j' j.zero hu g1 g4 ⟨p.bc,0,none⟩ p.len p.cap (cur.toList.take (p.len*ty.size)) (by rw[k1.1,k3,g5,g2]) (fun jj u hu=>by
            rw[nc,jH hw]
            have Pu:=(List.getElem?_eq_some_iff.1 hu).1
            simp only[List.length_take] at Pu
            rw[List.getElem?_take_of_lt (by omega),Array.getElem?_toList] at hu
            simpa using hu) ad ys.length cap news (by rw[HW,g5,g2]) qS (by omega) (by rw[k3] at HV;omega) (growslice_fits (by omega) (by rw[g3,←k3];exact HV.1))
          rw[←hv,←vS] at dA
          obtain⟨b1,b2⟩:=rG w (p.len+ys.length) p.cap e (by unfold aK;rw[k3] at HV;omega)
          have hlen:(xs++ys).length=p.len+ys.length:=by simp[k3]
          obtain⟨m1,m2,m3⟩:=fresh (S':={S with bl:=rem S.bl b}) (v:= .nilFunc) (xs:=xs++ys) rfl (Na.drew _) Nb (k1.append CX) b2 (by rw[hlen];exact b1)
           (vs:=(cur.toList.take (p.len*ty.size)).toArray++news.toArray++Builtin.zeroCells j.zero.cells (grownCap w (p.len+ys.length) p.cap e - (p.len+ys.length))) (by simp;rfl)
           (by simp only[Array.size_append,List.size_toArray,HW,k1.1,k3,rv,g7,←g5,←Nat.add_mul];congr 1;omega)
          rw[hlen] at m1 m2 m3
          exact bX.value (run _ _ dA) ⟨m2,m1,m3⟩
     ·cases hr
    ·cases hr
   ·cases hr
  ·cases hr
 ·cases hr
theorem Z6 (hT:dt P X.ay) (h:SRel w0 foot base S E a w) (hc:bo a ctx) {o:Oper} {x:Operand} {t:Nat} {args:Array Operand} {yj:Array Nat} (ho:o.op= .call {callee:= .builtin .len,args:=args,argTypes:=yj})
  (hargs:args.toList=[x]) (X4:yj.toList=[t]) {r:b7}
  (hr:(do
   let i ←ti X t
   let c ←lC x
   match i.d,c with
   | .str,.aC .str _=>uE c
   | .slice _,.aC (.list _) _=>uE c
   | .slice _,.row _ _=>uE c
   | .slice _,.sub _ _ _ _=>uE c
   | .slice _,.km=>uE c
   |_,_=> .fail:RM b7).run S ctx=some r):bX P w0 foot base S E a w o r:=by
 obtain rfl:args= #[x]:=by apply Array.ext';simpa using hargs
 obtain rfl:yj= #[t]:=by apply Array.ext';simpa using X4
 have bt:=RM.run_bind' hr
 clear hr
 obtain⟨i,h1,hr⟩:=bt
 have bt:=RM.run_bind' hr
 clear hr
 obtain⟨c,h2,hr⟩:=bt
 obtain⟨hs,_⟩:=df hT h1
 have hx:=gq h hc h2
 have inr:∀n:Nat,n≤aK→bq .i64 (n:Int):=fun n hn=>by
  have h1:IntKind.i64.min= -9223372036854775808:=by decide
  have h2:IntKind.i64.max=9223372036854775807:=by decide
  unfold bq
  rw[h1,h2]
  unfold aK at hn
  omega
 have key:∀n:Nat,n≤aK→(Builtin.len_ #[t] o.type #[a.eval x]).run P w= .ok (.int .i64 n) w→r={val:=some (.one (.aC (.int .i64) (n:Int)))}→bX P w0 foot base S E a w o r:=fun n hn dA he=>by
  rw[he]
  refine bX.value (v:= .int .i64 n) (w':=w) ?_ (iw.pure h.toHRel ⟨rfl,rfl,inr n hn⟩)
  simp[execOp,ho,resolve,invoke,builtin,dA]
 have sl:∀e b n c,P.underlying t=some (.slice e)→a.eval x= .slice b n c→(Builtin.len_ #[t] o.type #[a.eval x]).run P w= .ok (.int .i64 n) w:=fun e b n c hu hv=>by
  simp[Builtin.len_,run_underlying hu,hv,goInt]
 split at hr
 ·rename_i s hd
  rw[hd] at hs
  unfold uE at hr
  obtain⟨_,g1,g2⟩:=hx
  simp only[List.cons.injEq,and_true] at g1
  refine key _ g2 ?_ (fU hr)
  simp[Builtin.len_,run_underlying (qd hs),g1,goInt,DU]
 ·rename_i e tt xs hd
  rw[hd] at hs
  unfold uE at hr
  obtain⟨_,aa,cap,g1,g2,g3,_⟩:=hx
  simp only[List.cons.injEq,and_true] at g1
  exact key _ (Nat.le_trans g2 g3) (sl e _ _ _ (dP hs) g1) (fU hr)
 ·rename_i e tt b hd
  rw[hd] at hs
  unfold uE at hr
  simp only[RM.run] at hr
  split at hr
  ·rename_i B hf
   split at hr
   ·rename_i iZ e' t' xs
    split at hr
    ·obtain⟨p,hp,hk⟩:=hx
     obtain⟨p',dj,hB⟩:=h.ck _ _ hf
     rw[hp] at dj;cases dj
     have hlen:=hB.sj
     rcases hk with ⟨_,hv,hz⟩|⟨_,hv,q1,q2⟩
     ·exact key xs.length (by rw[hlen,hz];simp[aK]) (by rw[hlen,hz];exact sl e _ _ _ (dP hs) hv) (fU hr)
     ·exact key xs.length (by omega) (by rw[hlen];exact sl e _ _ _ (dP hs) hv) (fU hr)
    ·cases hr
   ·cases hr
  ·cases hr
 ·rename_i e tt b lo len hd
  rw[hd] at hs
  unfold uE at hr
  obtain⟨p,hp,hl,hk⟩:=hx
  rcases hk with ⟨_,hv,hz⟩|⟨_,aa,hv,q1,q2,_⟩
  ·have:len=0:=by omega
   subst this
   exact key 0 (by simp[aK]) (sl e _ _ _ (dP hs) hv) (fU hr)
  ·exact key len (by omega) (sl e _ _ _ (dP hs) hv) (fU hr)
 ·rename_i e hd
  rw[hd] at hs
  unfold uE at hr
  exact key 0 (by simp[aK]) (sl e _ _ _ (dP hs) hx) (fU hr)
 ·cases hr
theorem HC (h:SRel w0 foot base S E a w) (hc:bo a ctx) {o:Oper} {args:Array Operand} {yj:Array TypeId} {big:Bool} {x y:Operand} (ho:o.op= .call {callee:= .builtin (match big with |true=> .max|false=> .min),args:=args,argTypes:=yj})
  (ha:args.toList=[x,y]) {r:b7} (hr:(do Gt big (←ev x) (←ev y):RM b7).run S ctx=some r):bX P w0 foot base S E a w o r:=by
 have bt:=RM.run_bind' hr
 clear hr
 obtain⟨s1,h1,hr⟩:=bt
 have bt:=RM.run_bind' hr
 clear hr
 obtain⟨s2,h2,hr⟩:=bt
 have hx:=gj h hc h1
 have hy:=gj h hc h2
 have hargs:args.map a.eval= #[a.eval x,a.eval y]:=by
  obtain⟨l⟩:=args
  simp only at ha
  subst ha
  simp
 unfold Gt at hr
 split at hr
 ·rename_i j m k n
  split at hr
  ·rename_i hk
   have:=qj hk
   subst this
   obtain⟨_,x1,x2⟩:=hx
   obtain⟨_,y1,y2⟩:=hy
   simp only[List.cons.injEq,and_true] at x1 y1
   cases big with
   |true=>
    refine bX.value (v:= .int j (max (Ty.I m) (Ty.I n))) (w':=w) ?_ ((fp.cH hr ⟨rfl,rfl,?_⟩).after h.toHRel)
    ·simp[execOp,ho,resolve,invoke,builtin,hargs,x1,y1,Go.Lib.run_max_ints]
    ·rcases Int.max_def (Ty.I m) (Ty.I n)▸(by split<;>simp:(if Ty.I m≤Ty.I n then Ty.I n else Ty.I m)=Ty.I n∨(if Ty.I m≤Ty.I n then Ty.I n else Ty.I m)=Ty.I m) with e|e
     ·rw[e];exact y2
     ·rw[e];exact x2
   |false=>
    refine bX.value (v:= .int j (min (Ty.I m) (Ty.I n))) (w':=w) ?_ ((fp.cH hr ⟨rfl,rfl,?_⟩).after h.toHRel)
    ·simp[execOp,ho,resolve,invoke,builtin,hargs,x1,y1,Go.Lib.run_min_ints]
    ·rcases Int.min_def (Ty.I m) (Ty.I n)▸(by split<;>simp:(if Ty.I m≤Ty.I n then Ty.I m else Ty.I n)=Ty.I m∨(if Ty.I m≤Ty.I n then Ty.I m else Ty.I n)=Ty.I n) with e|e
     ·rw[e];exact x2
     ·rw[e];exact y2
  ·cases hr
 ·cases hr
end Go.Vc
end

section
set_option linter.unusedVariables false
set_option linter.unusedSimpArgs false
namespace Go.Vc
open Go
variable {P:Program} {X:Ctx} {w0:World} {foot:gF} {base:Mem} {S:St} {E:Env} {a:Act} {w:World} {ctx:c8}
def jA (F:Mem) (t:Ty) (x:t.den) (v:Value):Prop:=∃us,dh F t x us∧v=t.valOf us
theorem ry {F:Mem}:∀{t:Ty} {x:t.den} {us:List Value},t.AL=true→dh F t x us→∃u,us=[u]
 | .int _,_,_,_,h=>⟨_,h.1⟩
 | .bool,_,_,_,h=>⟨_,h⟩
 | .str,_,_,_,h=>⟨_,h.1⟩
theorem Ol {t:Ty} (h:t.AL=true) (u:Value):t.valOf [u]=u:=by
 cases t<;>first|rfl|cases h
theorem qA {t:Nat} {b:Ty} (h:Gm (j6 P t) b=true):b.AL=true∧(match j6 P t with | .struct _=>false| .array _ _=>false| .map _ _=>true| .other=>false|_=>true)=true∧
  ∃d,P.underlying t=some d∧∀(F:Mem) (w:World) (dd:Nat) (x y:b.den) (u v:Value),dh F b x [u]→dh F b y [v]→
   MapKept.IsKey d u∧Instr.sameNow d u v=some (b.iW x y)∧(Op.equalIn (dd+1) t u v).run P w= .ok (b.iW x y) w:=by
 cases hs:j6 P t with
 |int j=>
  rw[hs] at h
  cases b with
  |int k=>
   have e:=qj (show pE j k=true from h)
   subst e
   refine⟨rfl,rfl,_,ru hs,fun F w dd x y u v hu hv=> ?_⟩
   obtain⟨hu,_⟩:=hu
   obtain⟨hv,_⟩:=hv
   simp only[List.cons.injEq,and_true] at hu hv
   subst hu hv
   exact⟨rfl,by simp[Instr.sameNow];rfl,run_equalIn_int w dd t _ j _ _ (ru hs)⟩
  |_=>cases h
 |bool=>
  rw[hs] at h
  cases b with
  |bool=>
   refine⟨rfl,rfl,_,uf hs,fun F w dd x y u v hu hv=> ?_⟩
   simp only[dh,List.cons.injEq,and_true] at hu hv
   subst hu hv
   exact⟨trivial,rfl,run_equalIn_bool w dd t _ _ (uf hs)⟩
  |_=>cases h
 |str=>
  rw[hs] at h
  cases b with
  |str=>
   refine⟨rfl,rfl,_,qd hs,fun F w dd x y u v hu hv=> ?_⟩
   obtain⟨hu,_⟩:=hu
   obtain⟨hv,_⟩:=hv
   simp only[List.cons.injEq,and_true] at hu hv
   subst hu hv
   refine⟨trivial,?_,by rw[run_equalIn_string w dd t _ _ (qd hs),ou,ou];rfl⟩
   simp only[Instr.sameNow,Ty.iW]
   congr 1
   rw[Bool.eq_iff_iff,MapKept.bytes_beq,beq_iff_eq]
   constructor
   ·intro h;cases h;rfl
   ·intro h;rw[h]
  |_=>cases h
 |slice e=>rw[hs] at h;cases b<;>cases h
 |struct fs=>rw[hs] at h;cases b<;>cases h
 |plain=>rw[hs] at h;cases b<;>cases h
 |vM=>rw[hs] at h;cases b<;>cases h
 |array n e=>rw[hs] at h;cases b<;>cases h
 |map k e=>rw[hs] at h;cases b<;>cases h
 |other=>rw[hs] at h;cases b<;>cases h
theorem CL:∀{fs:List (Nat×Nat×Nat)} {t:Ty} {o:Nat} {u:Unit},(yQ X fs t o).run S ctx=some u→(∀{t:Nat} {i:TI},(ti X t).run S ctx=some i→j6 P t=i.d)→t.AL=true∨t.ug=true
 |[],t,o,u,h,_=>by
  unfold yQ at h
  split at h
  ·exact .inr rfl
  ·cases h
 |(off,sz,tf)::fs,t,o,u,h,hd=>by
  unfold yQ at h
  split at h
  ·obtain⟨i,h1,h⟩:=RM.run_bind' h
   obtain⟨_,h2,h⟩:=RM.run_bind' h
   have h2:=bQ h2
   simp only[Bool.and_eq_true] at h2
   rw[←hd h1] at h2
   simp only[Ty.ug,Bool.and_eq_true,Bool.or_eq_true]
   exact .inr ⟨(qA h2.2).1,CL h hd⟩
  ·obtain⟨i,h1,h⟩:=RM.run_bind' h
   have h2:=bQ h
   simp only[Bool.and_eq_true] at h2
   rw[←hd h1] at h2
   exact .inl (qA h2.2.2).1
theorem xv (hT:dt P X.ay) {F:Mem} (w:World):∀{gs:List Field} {t:Ty} {o:Nat} {u:Unit},(yQ X (gs.map fun f=>(f.offset,P.cellsOf f.type,f.type)) t o).run S ctx=some u→
  (gs.all fun f=>f.name !="_")=true→∀{x y:t.den} {us ws pre pre':List Value},dh F t x us→dh F t y ws→pre.length=o→pre'.length=o→
  (∀d,(Op.eqFields (d+1) (pre++us).toArray (pre'++ws).toArray gs).run P w= .ok (t.iW x y) w)∧
  ∀(em:Bool) (n:Nat),(forIn gs PUnit.unit fun f r=>(do
   if f.name≠"_" then Instr.checkKey em (n+1) f.type (←part f.type (pre++us).toArray f.offset)
   pure (ForInStep.yield PUnit.unit):Sem (ForInStep PUnit))).run P w= .ok PUnit.unit w
 |[],t,o,u,h,hn,x,y,us,ws,pre,pre',hx,hy,hp,dj=>by
  unfold yQ at h
  simp only[List.map_nil] at h
  split at h
  ·exact⟨fun d=>by simp[Op.eqFields,Ty.iW],fun em n=>by simp⟩
  ·cases h
 |g::gs,t,o,u,h,hn,x,y,us,ws,pre,pre',hx,hy,hp,dj=>by
  unfold yQ at h
  simp only[List.map_cons] at h
  simp only[List.all_cons,Bool.and_eq_true,bne_iff_ne] at hn
  split at h
  ·rename_i b c
   obtain⟨i,h1,h⟩:=RM.run_bind' h
   obtain⟨_,h2,h⟩:=RM.run_bind' h
   have h2:=bQ h2
   simp only[Bool.and_eq_true] at h2
   obtain⟨hs,_⟩:=df hT h1
   have ho:=Nat.eq_of_beq_eq_true h2.1
   rw[←hs] at h2
   obtain⟨q1,q2,d0,q3,q4⟩:=qA h2.2
   obtain⟨us1,ZM,rfl,k1,k2⟩:=hx
   obtain⟨ws1,ws2,rfl,m1,m2⟩:=hy
   obtain⟨u1,rfl⟩:=ry q1 k1
   obtain⟨w1,rfl⟩:=ry q1 m1
   have ih:=xv hT w h (by simpa using hn.2) k2 m2 (pre:=pre++[u1]) (pre':=pre'++[w1]) (by simp[hp]) (by simp[dj])
   simp only[List.append_assoc] at ih
   have g1:(pre++([u1]++ZM)).toArray[g.offset]? =some u1:=by
    rw[ho,←hp];simp
   have g2:(pre'++([w1]++ws2)).toArray[g.offset]? =some w1:=by
    rw[ho,←dj];simp
   have r1:=ie (P:=P) (w:=w) q2 g1
   have r2:=ie (P:=P) (w:=w) q2 g2
   refine⟨fun d=> ?_,fun em n=> ?_⟩
   ·have e1:=(q4 F w d _ _ _ _ k1 m1).2.2
    simp only[Op.eqFields,if_pos hn.1,Sem.run_bind,r1,r2,Result.andThen_ok,e1,Ty.iW]
    cases b.iW x.1 y.1 with
    |true=>simpa using ih.1 d
    |false=>simp
   ·have e1:=MapKept.run_checkKey (w:=w) q3 (q4 F w 0 _ _ _ _ k1 k1).1 em n
    simp only[List.forIn_cons,Sem.run_bind,if_pos hn.1,r1,Result.andThen_ok,e1,Sem.run_pure]
    exact ih.2 em n
  ·obtain⟨i,h1,h⟩:=RM.run_bind' h
   have h2:=bQ h
   simp only[Bool.and_eq_true] at h2
   obtain⟨hs,_⟩:=df hT h1
   have ho:=Nat.eq_of_beq_eq_true h2.1
   have RV:gs=[]:=by
    have:=h2.2.1
    cases gs with
    |nil=>rfl
    |cons a l=>simp at this
   subst RV
   rw[←hs] at h2
   obtain⟨q1,q2,d0,q3,q4⟩:=qA h2.2.2
   obtain⟨u1,rfl⟩:=ry q1 hx
   obtain⟨w1,rfl⟩:=ry q1 hy
   have g1:(pre++[u1]).toArray[g.offset]? =some u1:=by
    rw[ho,←hp];simp
   have g2:(pre'++[w1]).toArray[g.offset]? =some w1:=by
    rw[ho,←dj];simp
   have r1:=ie (P:=P) (w:=w) q2 g1
   have r2:=ie (P:=P) (w:=w) q2 g2
   refine⟨fun d=> ?_,fun em n=> ?_⟩
   ·have e1:=(q4 F w d _ _ _ _ hx hy).2.2
    simp only[Op.eqFields,if_pos hn.1,Sem.run_bind,r1,r2,Result.andThen_ok,e1]
    cases Ty.iW _ x y<;>simp
   ·have e1:=MapKept.run_checkKey (w:=w) q3 (q4 F w 0 _ _ _ _ hx hx).1 em n
    simp only[List.forIn_cons,Sem.run_bind,if_pos hn.1,r1,Result.andThen_ok,e1,Sem.run_pure]
    simp
inductive vG (F:Mem) (b:Ty) {β:Type}:List (b.den×β)→List MapEntry→Prop
 |nil:vG F b [] []
 |cons {y:b.den×β} {e:MapEntry} {m:List (b.den×β)} {l:List MapEntry} (h:jA F b y.1 e.key) (k:vG F b m l):vG F b (y::m) (e::l)
structure KeyLaw (P:Program) (kt:Nat) (b:Ty):Prop where
 key:b.isKey=true
 check:∀{F:Mem} (w:World) (em:Bool) {x:b.den} {v:Value},jA F b x v→(Instr.checkKey em 10000 kt v).run P w= .ok () w
 stays:∀{F:Mem} (w:World) {x:b.den} {u v:Value},jA F b x u→jA F b x v→(Instr.keyThatStays u v).run P w= .ok v w
 find:∀{F:Mem} (w:World) {β:Type} {m:List (b.den×β)} {l:List MapEntry} {x:b.den} {v:Value},jA F b x v→vG F b m l→
  ((aT b m x=none∧(Instr.findKey kt v l).run P w= .ok none w)∨∃e,(aT b m x).isSome=true∧l[jO b m x]? =some e∧(Instr.findKey kt v l).run P w= .ok (some (jO b m x,e.val)) w)
theorem xj {F:Mem}:∀{t:Ty} {x:t.den} {us ws:List Value},t.AL=true→dh F t x us→dh F t x ws→us=ws
 | .int _,_,_,_,_,h,k=>by rw[h.1,k.1]
 | .bool,_,_,_,_,h,k=>by rw[show _=_ from h,show _=_ from k]
 | .str,_,_,_,_,h,k=>by rw[h.1,k.1]
theorem AK {F:Mem}:∀{t:Ty} {x:t.den} {us ws:List Value},t.ug=true→dh F t x us→dh F t x ws→us=ws
 | .unit,_,_,_,_,h,k=>by rw[show _=_ from h,show _=_ from k]
 | .pair a b,_,_,_,ht,h,k=>by
  simp only[Ty.ug,Bool.and_eq_true,Bool.or_eq_true] at ht
  obtain⟨_,_,rfl,h1,h2⟩:=h
  obtain⟨_,_,rfl,k1,k2⟩:=k
  rw[xj ht.1 h1 k1]
  rcases ht.2 with Az|Az
  ·rw[xj Az h2 k2]
  ·rw[AK Az h2 k2]
theorem Bd {F:Mem}:∀{t:Ty} {x:t.den} {u:Value},t.AL=true→dh F t x [u]→∀n,Instr.sameBits n u u=true
 | .int _,_,_,_,h,n=>by
  obtain⟨h,_⟩:=h;simp only[List.cons.injEq,and_true] at h;subst h
  cases n<;>simp[Instr.sameBits]
 | .bool,_,_,_,h,n=>by
  simp only[dh,List.cons.injEq,and_true] at h;subst h
  cases n<;>simp[Instr.sameBits]
 | .str,_,_,_,h,n=>by
  obtain⟨h,_⟩:=h;simp only[List.cons.injEq,and_true] at h;subst h
  have:∀s:ByteArray,(s==s)=true:=fun s=>(MapKept.bytes_beq s s).2 rfl
  cases n<;>simp[Instr.sameBits,this]
theorem E6 {F:Mem}:∀{t:Ty} {x:t.den} {us:List Value},t.ug=true→dh F t x us→∀n,∀u∈us,Instr.sameBits n u u=true
 | .unit,_,_,_,h,n,u,hu=>by rw[show _=_ from h] at hu;cases hu
 | .pair a b,_,_,ht,h,n,u,hu=>by
  simp only[Ty.ug,Bool.and_eq_true,Bool.or_eq_true] at ht
  obtain⟨_,_,rfl,h1,h2⟩:=h
  obtain⟨u1,rfl⟩:=ry ht.1 h1
  rcases List.mem_append.1 hu with hu|hu
  ·rw[List.mem_singleton.1 hu];exact Bd ht.1 h1 n
  ·rcases ht.2 with Az|Az
   ·obtain⟨u2,rfl⟩:=ry Az h2
    rw[List.mem_singleton.1 hu];exact Bd Az h2 n
   ·exact E6 Az h2 n u hu
theorem Ha {u:Value} (h:Instr.sameBits 10000 u u=true):(Instr.keyThatStays u u).run P w= .ok u w:=by
 simp[Instr.keyThatStays,h]
theorem Ir {b:Ty} {F:Mem} (f:Value→List MapEntry→Nat→Option (Option (Nat×Value))) {x:b.den} {v:Value} (h0:∀i,f v [] i=some none)
  (h1:∀(y:b.den) (e:MapEntry) (l:List MapEntry) (i:Nat),jA F b y e.key→f v (e::l) i=bif b.iW x y then some (some (i,e.val)) else f v l (i+1)) {β:Type}:
  ∀{m:List (b.den×β)} {l:List MapEntry} (i:Nat),vG F b m l→
   ((aT b m x=none∧f v l i=some none)∨∃e,(aT b m x).isSome=true∧l[jO b m x]? =some e∧f v l i=some (some (i+jO b m x,e.val)))
 |_,_,i,.nil=> .inl ⟨rfl,h0 i⟩
 |y::m,e::l,i,.cons hh ht=>by
  rw[h1 y.1 e l i hh]
  simp only[aT,jO]
  cases b.iW x y.1 with
  |true=>exact .inr ⟨e,rfl,rfl,rfl⟩
  |false=>
   rcases Ir f h0 h1 (i+1) ht with ⟨k1,k2⟩|⟨e',k1,k2,k3⟩
   ·exact .inl ⟨k1,k2⟩
   ·refine .inr ⟨e',k1,by simpa using k2,?_⟩
    simp only[cond_false]
    rw[k3]
    simp;omega
theorem RB (hT:dt P X.ay) {kt:Nat} {b:Ty} {u:Unit} (h:(RC X kt b).run S ctx=some u):KeyLaw P kt b:=by
 unfold RC at h
 obtain⟨i,h1,h⟩:=RM.run_bind' h
 obtain⟨hs,_⟩:=df hT h1
 split at h
 ·rename_i fs hd
  rw[hd] at hs
  obtain⟨gs,hu,rfl⟩:=lL hs
  obtain⟨u',h2,h⟩:=RM.run_bind' h
  have heq:uu P kt=true:=by
   have h1:=bY h1
   obtain⟨hm,rfl⟩:=ud h1
   rw[qh hT.eqs i hm]
   exact bQ h2
  unfold uu at heq
  simp only[Bool.and_eq_true,Bool.not_eq_true',hu] at heq
  obtain⟨_,ze,h⟩:=RM.run_bind' h
  have Ku:=bQ ze
  have M3:b.ug=true:=(CL (P:=P) h fun hi=>(df hT hi).1).resolve_left fun hs=>by cases b<;>first|exact absurd Ku Bool.false_ne_true|exact absurd hs Bool.false_ne_true
  have hval:∀us,b.valOf us= .agg us.toArray:=fun us=>by unfold Ty.valOf;rw[Ku]
  have equal:∀(F:Mem) (w:World) (x y:b.den) (v k:Value),jA F b x v→jA F b y k→(Op.equal kt v k).run P w= .ok (b.iW x y) w:=fun F w x y v k hv hk=>by
   obtain⟨us,Ax,rfl⟩:=hv
   obtain⟨ws,hws,rfl⟩:=hk
   have:=(xv hT w h (by simpa using heq.2) Ax hws (pre:=[]) (pre':=[]) rfl rfl).1 9998
   rw[hval,hval]
   unfold Op.equal
   have RV:P.fieldsOf kt=gs:=by simp[Program.fieldsOf,hu]
   rw[show Op.maxDepth=9999+1 from rfl,run_equalIn_struct w 9999 kt us.toArray ws.toArray (by rw[RV];exact hu) heq.1.2,RV]
   exact this
  refine⟨by simp[Ty.isKey,M3],fun {F} w em x v hv=> ?_,fun {F} w x u v RL hv=> ?_,fun {F} w β m l x v hv hl=> ?_⟩
  ·obtain⟨us,Ax,rfl⟩:=hv
   have:=(xv hT w h (by simpa using heq.2) Ax Ax (pre:=[]) (pre':=[]) rfl rfl).2 em 9998
   rw[hval,show(10000:Nat)=9999+1 from rfl,Instr.checkKey]
   simp only[Sem.run_bind,run_underlying hu,Result.andThen_ok]
   rw[←Array.forIn_toList]
   simp only[List.nil_append] at this
   simp at this
   simp[this]
  ·obtain⟨us,Ax,rfl⟩:=RL
   obtain⟨ws,hws,rfl⟩:=hv
   rw[AK M3 Ax hws]
   refine Ha ?_
   rw[hval,show(10000:Nat)=9999+1 from rfl,Instr.sameBits]
   simp only[beq_self_eq_true,Bool.true_and,List.all_eq_true]
   intro p hp
   have:∀(l:List Value) (p:Value×Value),p∈l.zip l→p.1=p.2∧p.1∈l:=by
    intro l
    induction l with
    |nil=>intro p hp;cases hp
    |cons z l ih=>
     intro p hp
     simp only[List.zip_cons_cons,List.mem_cons] at hp
     rcases hp with rfl|hp
     ·exact⟨rfl,List.mem_cons_self⟩
     ·exact⟨(ih p hp).1,List.mem_cons_of_mem _ (ih p hp).2⟩
   obtain⟨p1,p2⟩:=p
   obtain⟨e1,e2⟩:=this _ _ hp
   simp only at e1 e2
   subst e1
   exact E6 M3 hws 9999 p1 e2
  ·have adT:(match P.underlying kt with |some (.array _ _)|some (.struct _)=>true|_=>false)=true:=by rw[hu]
   rw[run_findKey_eq w adT]
   have key:∀(m:List (b.den×β)) (l:List MapEntry) (i:Nat),vG F b m l→
     ((aT b m x=none∧(Instr.findAsking kt v l i).run P w= .ok none w)∨∃e,(aT b m x).isSome=true∧l[jO b m x]? =some e∧(Instr.findAsking kt v l i).run P w= .ok (some (i+jO b m x,e.val)) w):=by
    intro m
    induction m with
    |nil=>
     intro l i hl
     cases hl
     exact .inl ⟨rfl,by simp[Instr.findAsking]⟩
    |cons y m ih=>
     intro l i hl
     cases hl with
     |cons hh ht=>
      rename_i e l
      have he:=equal F w x y.1 v e.key hv hh
      simp only[aT,jO,Instr.findAsking,Sem.run_bind,he,Result.andThen_ok]
      cases b.iW x y.1 with
      |true=>exact .inr ⟨e,rfl,rfl,by simp⟩
      |false=>
       rcases ih l (i+1) ht with ⟨k1,k2⟩|⟨e',k1,k2,k3⟩
       ·exact .inl ⟨k1,by simpa using k2⟩
       ·refine .inr ⟨e',k1,by simpa using k2,?_⟩
        simp only[cond_false,Bool.false_eq_true,if_false]
        rw[k3]
        simp;omega
   simpa using key m l 0 hl
 ·have h:=bQ h
  rw[←hs] at h
  obtain⟨q1,q2,d,q3,q4⟩:=qA h
  have one:∀{F:Mem} {x:b.den} {v:Value},jA F b x v→dh F b x [v]:=fun {F x v} hv=>by
   obtain⟨us,Ax,rfl⟩:=hv
   obtain⟨u,rfl⟩:=ry q1 Ax
   rw[Ol q1]
   exact Ax
  refine⟨by simp[Ty.isKey,q1],fun {F} w em x v hv=> ?_,fun {F} w x u v RL hv=> ?_,fun {F} w β m l x v hv hl=> ?_⟩
  ·exact MapKept.run_checkKey q3 (q4 F w 0 x x v v (one hv) (one hv)).1 em 9999
  ·have:=xj q1 (one RL) (one hv)
   simp only[List.cons.injEq,and_true] at this
   subst this
   exact Ha (Bd q1 (one RL) _)
  ·rcases Ir (b:=b) (F:=F) (x:=x) (v:=v) (fun v l i=>Instr.findNow d v l i) (fun i=>rfl) (fun y e l i he=>by
    have:=(q4 F w 0 x y v e.key (one hv) (one he)).2.1
    simp only[Instr.findNow,this]
    cases b.iW x y<;>rfl) 0 hl with ⟨k1,k2⟩|⟨e,k1,k2,k3⟩
   ·exact .inl ⟨k1,MapKept.run_findKey q3 k2⟩
   ·refine .inr ⟨e,k1,k2,?_⟩
    have:=MapKept.run_findKey (w:=w) q3 k3
    simpa using this
end Go.Vc
end

section
set_option linter.unusedVariables false
set_option linter.unusedSimpArgs false
namespace Go.Vc
open Go
variable {P:Program} {X:Ctx} {w0:World} {foot:gF} {base:Mem} {S:St} {E:Env} {a:Act} {w:World} {ctx:c8}
theorem BX {t:Ty} {s:SV} {cs:List C} {x:t.den} {fr:hY} {v:Value} (h1:(I8 t s).run S ctx=some cs) (h2:(reify t cs).run S ctx=some (x,fr)) (hv:ft E s v) (hf:fm S.bl E w fr):jA E.F t x v:=by
 unfold I8 at h1
 split at h1
 ·rename_i c
  split at h1
  ·cases h1
  ·rename_i hb
   cases h1
   exact⟨[v],jr h2 ⟨v,[],rfl,hv,rfl⟩ hf,by unfold Ty.valOf;rw[hb];rfl⟩
 ·split at h1
  ·rename_i hb
   cases h1
   obtain⟨vs,e,k⟩:=hv
   exact⟨vs.toList,jr h2 k hf,by unfold Ty.valOf;rw[hb,e]⟩
  ·cases h1
 ·cases h1
theorem jA.mono {F F':Mem} (h:F.le F') {t:Ty} {x:t.den} {v:Value} (k:jA F t x v):jA F' t x v:=let⟨us,h1,h2⟩:=k;⟨us,h1.mono h,h2⟩
theorem Kz {t:Ty} (h:t.isAgg=false) (x:t.den):∃c,flat t x=[c]:=by
 have hl:=tg t x
 have h1:t.size=1:=by cases t<;>first|rfl|cases h
 rw[h1] at hl
 exact List.length_eq_one_iff.1 hl
theorem jA.part {t:Ty} {x:t.den} {v:Value} (k:jA E.F t x v):(match t.isAgg with |true=>∃ws,v= .agg ws∧b5 E (flat t x) ws.toList|false=>∃c,flat t x=[c]∧gO E c v):=by
 obtain⟨us,h1,rfl⟩:=k
 have h2:=gG h1
 unfold Ty.valOf
 cases hb:t.isAgg with
 |true=>exact⟨_,rfl,h2⟩
 |false=>
  obtain⟨c,hc⟩:=Kz hb x
  rw[hc] at h2
  obtain⟨u,rfl,h3⟩:=js h2
  exact⟨c,hc,h3⟩
theorem jA.sv {t:Ty} {x:t.den} {v:Value} (k:jA E.F t x v):ft E (G0 t x) v:=by
 have:=k.part
 unfold G0
 cases hb:t.isAgg with
 |true=>rw[hb] at this;exact this
 |false=>
  rw[hb] at this
  obtain⟨c,hc,h⟩:=this
  rw[hc]
  exact h
theorem vq (hT:dt P X.ay) (h:SRel w0 foot base S E a w) (hc:bo a ctx) {kt:Nat} {b:Ty} {x:Operand} {k:b.den} (hr:(CK X kt b x).run S ctx=some k):KeyLaw P kt b∧jA E.F b k (a.eval x):=by
 unfold CK at hr
 obtain⟨_,h1,hr⟩:=RM.run_bind' hr
 obtain⟨s,h2,hr⟩:=RM.run_bind' hr
 obtain⟨cs,h3,hr⟩:=RM.run_bind' hr
 obtain⟨⟨y,fr⟩,h4,hr⟩:=RM.run_bind' hr
 obtain⟨_,h5,hr⟩:=RM.run_bind' hr
 cases RM.run_pure' hr
 have h5:=List.isEmpty_iff.1 (bQ h5)
 simp only at h5
 subst h5
 exact⟨RB hT h1,BX (w:=w) h3 h4 (gj h hc h2) .nil⟩
theorem Cb (hT:dt P X.ay) {et:Nat} {b:Ty} {z:b.den} (hr:(GP X et b).run S ctx=some z):∃v,(∀w,(zeroValue et).run P w= .ok v w)∧∀F,jA F b z v:=by
 unfold GP at hr
 obtain⟨l,h1,hr⟩:=RM.run_bind' hr
 obtain⟨_,h2,hr⟩:=RM.run_bind' hr
 obtain⟨i,hi,e1,e2,e3,e4,e5,e6,h3⟩:=qu hT h1 hr
 have h2:=bQ h2
 simp only[beq_iff_eq] at h2
 refine⟨l.zero,fun w=>kg hi e3,fun F=>⟨_,h3 F,?_⟩⟩
 unfold Ty.valOf
 rw[←h2]
 cases hz:l.zero with
 |agg cs=>rfl
 |tuple vs=>rw[hz] at h3 h2;exact absurd (h3 default) (fun jz=>by
   have jS:b.isAgg=false:=by rw[←h2];rfl
   obtain⟨c,hc⟩:=Kz jS z
   have:=gG (E:=⟨default,fun _=>none⟩) jz
   rw[hc] at this
   obtain⟨u,hu,hk⟩:=js this
   have:=hk.oB
   simp[Value.cells] at hu
   subst hu
   simp[Value.oneCell'] at this)
 |_=>rfl
theorem gX.xu {F:Mem} {b c:Ty} {m:List (b.den×c.den)} {es:Array MapEntry} {cl:Nat} (h:gX F b c m es cl):vG F b m es.toList:=by
 have key:∀(m:List (b.den×c.den)) (l:List MapEntry),l.length=m.length→(∀(i:Nat) x,m[i]? =some x→∃e,l[i]? =some e∧jA F b x.1 e.key)→vG F b m l:=by
  intro m
  induction m with
  |nil=>intro l hl _;rw[List.eq_nil_of_length_eq_zero hl];exact .nil
  |cons x m ih=>
   intro l hl mU
   cases l with
   |nil=>cases hl
   |cons e l=>
    obtain⟨e',he,hk⟩:=mU 0 x rfl
    cases he
    exact .cons hk (ih l (by simpa using hl) fun i y hy=>mU (i+1) y (by simpa using hy))
 refine key m es.toList (by simpa using h.size) fun i x hx=> ?_
 obtain⟨e,us,ws,q1,q2,q3,q4,q5⟩:=h.at_ i x hx
 exact⟨e,by simpa using q1,us,q2,q3⟩
theorem gX.val {F:Mem} {b c:Ty} {m:List (b.den×c.den)} {es:Array MapEntry} {cl:Nat} (h:gX F b c m es cl) {i:Nat} {x:b.den×c.den} {e:MapEntry} (hx:m[i]? =some x) (he:es[i]? =some e):
  jA F b x.1 e.key∧jA F c x.2 e.val:=by
 obtain⟨e',us,ws,q1,q2,q3,q4,q5⟩:=h.at_ i x hx
 rw[he] at q1
 cases q1
 exact⟨⟨us,q2,q3⟩,ws,q4,q5⟩
theorem gX.push {F:Mem} {b c:Ty} {m:List (b.den×c.den)} {es:Array MapEntry} {cl:Nat} (h:gX F b c m es cl) {k:b.den} {y:c.den} {u v:Value} (hk:∀x∈m,x.1≠k) (hu:jA F b k u) (hv:jA F c y v):
  gX F b c (m++[(k,y)]) (es.push ⟨u,v,cl⟩) (cl+1):=by
 obtain⟨us,XB,hu2⟩:=hu
 obtain⟨ws,qt,M0⟩:=hv
 refine⟨⟨?_,fun e he=> ?_⟩,?_,by simp[h.size],fun i x hx=> ?_⟩
 ·rw[Array.toList_push]
  refine List.pairwise_append.2 ⟨h.stamps.1,by simp,fun x hx y hy=> ?_⟩
  rw[List.mem_singleton.1 hy]
  exact h.stamps.2 x hx
 ·simp only[Array.toList_push,List.mem_append,List.mem_singleton] at he
  rcases he with he|rfl
  ·exact Nat.lt_succ_of_lt (h.stamps.2 e he)
  ·exact Nat.lt_succ_self _
 ·rw[List.map_append,List.nodup_append]
  refine⟨h.keys,by simp,fun x hx y hy=> ?_⟩
  obtain⟨z,hz,rfl⟩:=List.mem_map.1 hx
  simp only[List.map_cons,List.map_nil,List.mem_singleton] at hy
  subst hy
  exact hk z hz
 ·rcases Nat.lt_or_ge i m.length with hi|hi
  ·rw[List.getElem?_append_left hi] at hx
   obtain⟨e,F7,Qy,q1,q2⟩:=h.at_ i x hx
   refine⟨e,F7,Qy,?_,q2⟩
   have:=h.size
   rw[Array.getElem?_push_lt (by omega)]
   rw[Array.getElem?_eq_getElem (by omega)] at q1
   exact q1
  ·have dK:=(List.getElem?_eq_some_iff.1 hx).1
   have:i=m.length:=by simp at dK;omega
   subst this
   have hx:(k,y)=x:=by simpa using hx
   subst hx
   exact⟨⟨u,v,cl⟩,us,ws,by rw[←h.size];simp,XB,hu2,qt,M0⟩
theorem gX.Wo {F:Mem} {b c:Ty} {m:List (b.den×c.den)} {es:Array MapEntry} {cl:Nat} (h:gX F b c m es cl) {i:Nat} {k:b.den} {y0 y:c.den} {e:MapEntry} (hm:m[i]? =some (k,y0)) (he:es[i]? =some e) (f:MapEntry→MapEntry)
  (hf:∀e,(f e).born=e.born) (hk:jA F b k (f e).key) (hv:jA F c y (f e).val):gX F b c (m.set i (k,y)) (es.modify i f) cl:=by
 have hi:i<es.size:=(Array.getElem?_eq_some_iff.1 he).1
 have Er:(es.modify i f).toList.map (·.born)=es.toList.map (·.born):=by
  apply List.ext_getElem?
  intro j
  simp only[List.getElem?_map,Array.getElem?_toList,Array.getElem?_modify]
  split
  ·cases es[j]? <;>simp[hf]
  ·rfl
 refine⟨⟨?_,fun x hx=> ?_⟩,?_,by simp[h.size],fun j x hx=> ?_⟩
 ·have h1:=h.stamps.1
  rw[←List.pairwise_map (f:=fun e:MapEntry=>e.born) (R:=fun a b=>a<b)] at h1 ⊢
  rw[Er]
  exact h1
 ·have:x.born∈(es.modify i f).toList.map (·.born):=List.mem_map_of_mem hx
  rw[Er] at this
  obtain⟨z,hz,e1⟩:=List.mem_map.1 this
  rw[←e1]
  exact h.stamps.2 z hz
 ·have:(m.set i (k,y)).map Prod.fst=m.map Prod.fst:=by
   apply List.ext_getElem?
   intro j
   simp only[List.getElem?_map,List.getElem?_set]
   split
   ·rename_i kS
    subst kS
    rw[hm]
    split<;>simp_all
   ·rfl
  rw[this]
  exact h.keys
 ·by_cases kS:i=j
  ·subst kS
   have dK:i<m.length:=(List.getElem?_eq_some_iff.1 hm).1
   rw[List.getElem?_set_self dK] at hx
   cases hx
   obtain⟨us,XB,hu2⟩:=hk
   obtain⟨ws,qt,M0⟩:=hv
   exact⟨f e,us,ws,by rw[Array.getElem?_modify,if_pos rfl,he];rfl,XB,hu2,qt,M0⟩
  ·rw[List.getElem?_set_ne kS] at hx
   obtain⟨e',F7,Qy,q1,q2⟩:=h.at_ j x hx
   exact⟨e',F7,Qy,by rw[Array.getElem?_modify,if_neg kS,q1],q2⟩
theorem gX.erase {F:Mem} {b c:Ty} {m:List (b.den×c.den)} {es:Array MapEntry} {cl:Nat} (h:gX F b c m es cl) {i:Nat} (hi:i<m.length):gX F b c (m.eraseIdx i) (es.eraseIdxIfInBounds i) cl:=by
 have hs:i<es.size:=by rw[h.size];exact hi
 have e:(es.eraseIdxIfInBounds i).toList=es.toList.eraseIdx i:=by
  unfold Array.eraseIdxIfInBounds
  rw[dif_pos hs,Array.toList_eraseIdx]
 have abq:(es.eraseIdxIfInBounds i).toList.Sublist es.toList:=by rw[e];exact List.eraseIdx_sublist _ _
 refine⟨⟨h.stamps.1.sublist abq,fun x hx=>h.stamps.2 x (abq.subset hx)⟩,((List.eraseIdx_sublist _ _).map _).nodup h.keys,?_,fun j x hx=> ?_⟩
 ·have:=congrArg List.length e
  simp only[Array.length_toList] at this
  rw[this,List.length_eraseIdx,List.length_eraseIdx]
  simp[h.size]
 ·rw[List.getElem?_eraseIdx] at hx
  have wH:∀j,(es.eraseIdxIfInBounds i)[j]? =(es.toList.eraseIdx i)[j]? :=fun j=>by rw[←e,Array.getElem?_toList]
  split at hx
  ·rename_i hj
   obtain⟨e',F7,Qy,q1,q2⟩:=h.at_ _ x hx
   exact⟨e',F7,Qy,by rw[wH,List.getElem?_eraseIdx,if_pos hj];simpa using q1,q2⟩
  ·rename_i hj
   obtain⟨e',F7,Qy,q1,q2⟩:=h.at_ _ x hx
   exact⟨e',F7,Qy,by rw[wH,List.getElem?_eraseIdx,if_neg hj];simpa using q1,q2⟩
theorem HRel.QT {bl:List (Nat×c5)} {used:List Nat} (h:HRel w0 foot base bl used E w) {id:Nat} {p:Place} (uI:id∉used) (hp:p.nil=true):E.le (E.new id p)∧HRel w0 foot base bl (id::used) (E.new id p) w:=by
 have jR:E.place id=none:=by
  cases he:E.place id with
  |none=>rfl
  |some q=>exact absurd (h.used id q he) uI
 have hle:=Env.nB (p:=p) jR
 have k9:∀i q,(E.new id p).place i=some q→q.nil=false→E.place i=some q:=fun i q hq hn=>by
  by_cases e:i=id
  ·subst e;rw[Env.fa] at hq;cases hq;rw[hp] at hn;cases hn
  ·rwa [Env.gl e] at hq
 refine⟨hle,h.keep,h.mW,h.src,fun i B hf=> ?_,fun i B q hf hq hn=> ?_,fun i j B B' q q' hf eh hq ni hn dk kS=> ?_,fun i q hq=> ?_⟩
 ·obtain⟨q,hq,k⟩:=h.ck i B hf
  exact⟨q,hle.place _ _ hq,k.mono hle⟩
 ·exact h.own i B q hf (k9 i q hq hn) hn
 ·exact h.inj i j B B' q q' hf eh (k9 i q hq hn) (k9 j q' ni dk) hn dk kS
 ·by_cases hi:i=id
  ·exact hi▸List.mem_cons_self
  ·rw[Env.gl hi] at hq
   exact List.mem_cons_of_mem _ (h.used i q hq)
theorem qN (hT:dt P X.ay) {t:Nat} {ke:Nat×Nat} (h:(qO X t).run S ctx=some ke):P.underlying t=some (.map ke.1 ke.2):=by
 unfold qO at h
 obtain⟨i,h1,h⟩:=RM.run_bind' h
 obtain⟨hs,_⟩:=df hT h1
 split at h
 ·rename_i k e hd
  cases h
  exact JY (hs.trans hd)
 ·cases h
theorem O0 (hT:dt P X.ay) (h:SRel w0 foot base S E a w) {o:Oper} {t d:Nat} (ho:o.op= .makeMap t none) {r:b7}
  (hr:(do
   let ke ←qO X t
   let j ←ti X ke.1
   let l ←ti X ke.2
   let a ←RM.ofOption j.ty
   let b ←RM.ofOption l.ty
   .ret {val:=some (.one (.map a b d)),ck:=[(d,.map false a b [] none)],new:=[d]}:RM b7).run S ctx=some r) (hn:∀i∈r.new,i∉S.used):bX P w0 foot base S E a w o r:=by
 obtain⟨ke,h1,hr⟩:=RM.run_bind' hr
 obtain⟨j,h2,hr⟩:=RM.run_bind' hr
 obtain⟨l,h3,hr⟩:=RM.run_bind' hr
 obtain⟨b,h4,hr⟩:=RM.run_bind' hr
 obtain⟨c,h5,hr⟩:=RM.run_bind' hr
 cases hr
 have hd:d∉S.used:=hn d (by simp)
 have jR:E.place d=none:=by
  cases he:E.place d with
  |none=>rfl
  |some q=>exact absurd (h.used d q he) hd
 have hle:=Env.nB (p:=⟨false,w.heap.size,0,0⟩) jR
 refine bX.value (v:= .map (some w.heap.size)) (w':=w.alloc (.map #[] 0)) (E':=E.new d ⟨false,w.heap.size,0,0⟩) ?_ ⟨hle,h.toHRel.alloc hd (fun _=>rfl) ⟨rfl, #[],0,oM,(fun h=>by cases h),[],.refl _,⟨⟨.nil,fun e he=>by cases he⟩,.nil,rfl,fun i x hx=>by simp at hx⟩,.none⟩,⟨_,Env.fa,rfl,rfl⟩⟩
 have:=run_makeMap_plain (P:=P) (w:=w) t
 simp only[execOp,ho,Option.map_none]
 rw[Sem.run_bind,this]
 rfl
theorem Ef (hT:dt P X.ay) (h:SRel w0 foot base S E a w) (hc:bo a ctx) {o:Oper} {t kt et:Nat} {x ix:Operand} {ok:Bool} (ho:o.op= .lookup t x ix ok) (hu:P.underlying t=some (.map kt et)) {r:b7} {b c:Ty} {m:List (b.den×c.den)}
  (hr:(MD X kt et ok ix b c m).run S ctx=some r)
  (hm:(a.eval x= .map none∧m=[])∨∃n es cl m0,a.eval x= .map (some n)∧w.heap[n]? =some (.map es cl)∧m0.Perm m∧gX E.F b c m0 es cl):bX P w0 foot base S E a w o r:=by
 unfold MD at hr
 obtain⟨k,h1,hr⟩:=RM.run_bind' hr
 obtain⟨z,h2,hr⟩:=RM.run_bind' hr
 obtain⟨hK,hk⟩:=vq hT h hc h1
 obtain⟨zv,hz,Xu⟩:=Cb hT h2
 have found:∃v,jA E.F c ((aT b m k).getD z) v∧(Instr.lookup t (a.eval x) (a.eval ix) ok).run P w= .ok (if ok then .tuple #[v,.bool (aT b m k).isSome] else v) w:=by
  rcases hm with ⟨hx,rfl⟩|⟨n,es,cl,m0,hx,iY,Gd,hM⟩
  ·refine⟨zv,Xu _,?_⟩
   rcases hK.find (m:=([]:List (b.den×c.den))) (l:=[]) w hk .nil with ⟨_,k2⟩|⟨e,k1,_⟩
   ·simp[Instr.lookup,hx,run_underlying hu,hK.check w _ hk,k2,hz,aT]
   ·simp[aT] at k1
  ·rw[←uw hK.key hM.keys Gd k]
   rcases hK.find w hk hM.xu with ⟨k1,k2⟩|⟨e,k1,k2,k3⟩
   ·refine⟨zv,by rw[k1];exact Xu _,?_⟩
    simp[Instr.lookup,hx,run_underlying hu,MapKept.run_getObj_map iY,hK.check w _ hk,k2,hz,k1]
   ·rcases ux hK.key m0 k with ⟨m1,_⟩|⟨v0,m1,m2,_⟩
    ·rw[m1] at k1;cases k1
    ·refine⟨e.val,by rw[m1];exact(hM.val m2 (by simpa using k2)).2,?_⟩
     simp[Instr.lookup,hx,run_underlying hu,MapKept.run_getObj_map iY,hK.check w _ hk,k3,m1]
 obtain⟨v,hv,dA⟩:=found
 have hex:(execOp a.eval o).run P w= .ok (.value (if ok then .tuple #[v,.bool (aT b m k).isSome] else v)) w:=by
  simp only[execOp,ho]
  rw[Sem.run_bind,dA]
  rfl
 cases ok with
 |true=>
  cases hr
  refine bX.value hex (iw.pure h.toHRel ⟨_,rfl,?_⟩)
  exact⟨v,[_],rfl,hv.part,_,[],rfl,⟨_,rfl,rfl,rfl⟩,rfl⟩
 |false=>
  cases hr
  exact bX.value hex (iw.pure h.toHRel hv.sv)
theorem Ru (hT:dt P X.ay) (h:SRel w0 foot base S E a w) (hc:bo a ctx) {o:Oper} {t:Nat} {x ix:Operand} {ok:Bool} (ho:o.op= .lookup t x ix ok) {r:b7}
  (hr:(do
   let ke ←qO X t
   HG X ke.1 ke.2 ok ix (←lC x):RM b7).run S ctx=some r):bX P w0 foot base S E a w o r:=by
 obtain⟨ke,h1,hr⟩:=RM.run_bind' hr
 obtain⟨c,h2,hr⟩:=RM.run_bind' hr
 have hu:=qN hT h1
 have hv:=gq h hc h2
 unfold HG at hr
 split at hr
 ·simp only[RM.run] at hr
  split at hr
  ·rename_i B hf
   split at hr
   ·rename_i iZ b c m cur
    obtain⟨p,hp,hn,hv⟩:=hv
    obtain⟨p',dj,_,es,cl,k1,k2,m0,k4,k3,_⟩:=h.ck _ _ hf
    rw[hp] at dj;cases dj
    exact Ef hT h hc ho hu hr (.inr ⟨_,es,cl,m0,hv,k1,k4,k3⟩)
   ·cases hr
  ·cases hr
 ·rename_i b c m
  obtain⟨_,oo,h3,h4,h5⟩:=hv
  simp only[List.cons.injEq,and_true] at h3
  cases oo with
  |none=>exact Ef hT h hc ho hu hr (.inl ⟨h3,h4 rfl⟩)
  |some n=>
   obtain⟨m0,es,cl,q0,q1,q2,q3,q4,q5⟩:=h5 n rfl
   exact Ef hT h hc ho hu hr (.inr ⟨n,es,cl,m0,h3,h.mW _ _ q1,q0,q2,q3,q4,q5⟩)
 ·cases hr
theorem sX (h:SRel w0 foot base S E a w) {f:(n:Nat)→(a b:Ty)→List (a.den×b.den)→Option (Nat×Nat)→RM b7} {c:C} {r:b7} {v:Value} (hr:(rV f c).run S ctx=some r) (hv:gO E c v):
  ∃n b c m cur p es cl,(f n b c m cur).run S ctx=some r∧find S.bl n=some (.map false b c m cur)∧E.place n=some p∧p.nil=false∧v= .map (some p.bc)∧w.heap[p.bc]? =some (.map es cl)∧qa E b c m es cl cur:=by
 unfold rV at hr
 split at hr
 ·simp only[RM.run] at hr
  split at hr
  ·rename_i B hf
   split at hr
   ·rename_i b c m cur
    obtain⟨p,hp,hn,hv⟩:=hv
    obtain⟨p',dj,_,es,cl,k1,k2,k3⟩:=h.ck _ _ hf
    rw[hp] at dj;cases dj
    exact⟨_,b,c,m,cur,p,es,cl,hr,hf,hp,hn,hv,k1,k3⟩
   ·cases hr
  ·cases hr
 ·cases hr
theorem ER (h:SRel w0 foot base S E a w) (hc:bo a ctx) {b:Ty} {n:Nat} {x:Operand} {y:b.den×hY} (hr:(JQ b n x).run S ctx=some y):
  ∃E',E.le E'∧E'.place=E.place∧HRel w0 foot base (cA y.2 S.bl) S.used E' w∧(∀B,find S.bl n=some B→find (cA y.2 S.bl) n=some B)∧jA E'.F b y.1 (a.eval x):=by
 unfold JQ at hr
 obtain⟨s,h2,hr⟩:=RM.run_bind' hr
 obtain⟨cs,h3,hr⟩:=RM.run_bind' hr
 obtain⟨⟨y',fr⟩,h4,hr⟩:=RM.run_bind' hr
 obtain⟨_,h5,hr⟩:=RM.run_bind' hr
 cases RM.run_pure' hr
 have ho:=gx h4
 obtain⟨E1,l1,q1,f1,nR⟩:=h.toHRel.cA ho
 exact⟨E1,l1,q1,nR,fun B hB=>by rw[ig (Bq (bQ h5))];exact hB,BX h3 h4 ((gj h hc h2).mono l1) (fm.qg ho nR)⟩
theorem Ju (hT:dt P X.ay) (h:SRel w0 foot base S E a w) (hc:bo a ctx) {o:Oper} {t:Nat} {x k v:Operand} (ho:o.op= .mapUpdate t x k v) {r:b7}
  (hr:(do
   let ke ←qO X t
   rV (fun n a b xs _=>do
    let x ←CK X ke.1 a k
    let y ←JQ b n v
    .ret {ck:=y.2++[(n,.map false a b (dc a xs x y.1) none)]}) (←lC x):RM b7).run S ctx=some r):bX P w0 foot base S E a w o r:=by
 obtain⟨ke,h1,hr⟩:=RM.run_bind' hr
 obtain⟨c,h2,hr⟩:=RM.run_bind' hr
 have hu:=qN hT h1
 obtain⟨n,b,c,m,cur,p,es,cl,hr,hf,hp,hn,hv,iY,m0,Gd,hM,_⟩:=sX h hr (gq h hc h2)
 obtain⟨kk,h3,hr⟩:=RM.run_bind' hr
 obtain⟨y,h4,hr⟩:=RM.run_bind' hr
 cases hr
 obtain⟨hK,hk⟩:=vq hT h hc h3
 obtain⟨E1,l1,q1,hH,uK,hy⟩:=ER h hc h4
 have hM1:=hM.mono l1.F
 have RT:=hk.mono l1.F
 have fin:∀vV zt,(Instr.mapUpdate t (a.eval x) (a.eval k) (a.eval v)).run P w= .ok () (eu w p.bc (.map vV zt))→gX E1.F b c (dc b m0 kk y.1) vV zt→
   bX P w0 foot base S E a w o {ck:=y.2++[(n,.map false b c (dc b m kk y.1) none)]}:=fun vV zt dA R2=>by
  have hw:=hH.write (B':= .map false b c (dc b m kk y.1) none) (uK _ hf) (q1▸hp) hn rfl ⟨hn,vV,zt,iB (dw iY),(fun h=>by cases h),_,HB hK.key hM.keys Gd _ _,R2,.none⟩
  refine bX.skip (w':=eu w p.bc (.map vV zt)) (E':=E1) ?_ ⟨l1,by rw[tl];exact hw,trivial⟩
  simp only[execOp,ho]
  rw[Sem.run_bind,dA]
  rfl
 rcases ux hK.key m0 kk with ⟨m1,m2,m3,m4,m5⟩|⟨v0,m1,m2,m3,m4,m5⟩
 ·rcases hK.find w hk hM.xu with ⟨k1,k2⟩|⟨e,k1,k2,k3⟩
  ·refine fin (es.push ⟨a.eval k,a.eval v,cl⟩) (cl+1) ?_ (by rw[m2];exact hM1.push m5 RT hy)
   simp[Instr.mapUpdate,hv,run_underlying hu,MapKept.run_getObj_map iY,hK.check w _ hk,k2,MapKept.run_setObj_map _ iY,eu]
  ·rw[m1] at k1;cases k1
 ·rcases hK.find w hk hM.xu with ⟨k1,k2⟩|⟨e,k1,k2,k3⟩
  ·rw[m1] at k1;cases k1
  ·have he:es[jO b m0 kk]? =some e:=by simpa using k2
   have hs:=hK.stays w (hM.val m2 he).1 hk
   refine fin (es.modify (jO b m0 kk) fun e=>{e with key:=a.eval k,val:=a.eval v}) cl ?_ (by rw[m3];exact hM1.Wo m2 he _ (fun _=>rfl) RT hy)
   simp[Instr.mapUpdate,hv,run_underlying hu,MapKept.run_getObj_map iY,hK.check w _ hk,k3,he,hs,MapKept.run_setObj_map _ iY,eu]
theorem MB (hT:dt P X.ay) (h:SRel w0 foot base S E a w) (hc:bo a ctx) {o:Oper} {t d:Nat} {x k:Operand} (ho:o.op= .mapEntry t x k) {r:b7}
  (hr:(do
   let ke ←qO X t
   rV (fun n a b xs _=>do
    let x ←CK X ke.1 a k
    let z ←GP X ke.2 b
    .ret {val:=some (.yb [(b.isAgg,flat b ((aT a xs x).getD z)),(false,[.xb d])]),ck:=[(n,.map false a b (rl a xs x z) (some (d,jO a xs x)))],new:=[d]}) (←lC x):RM b7).run S ctx=some r)
  (ql:∀i∈r.new,i∉S.used):bX P w0 foot base S E a w o r:=by
 obtain⟨ke,h1,hr⟩:=RM.run_bind' hr
 obtain⟨c,h2,hr⟩:=RM.run_bind' hr
 have hu:=qN hT h1
 obtain⟨n,b,c,m,cur,p,es,cl,hr,hf,hp,hn,hv,iY,m0,Gd,hM,_⟩:=sX h hr (gq h hc h2)
 obtain⟨kk,h3,hr⟩:=RM.run_bind' hr
 obtain⟨z,h4,hr⟩:=RM.run_bind' hr
 cases hr
 obtain⟨hK,hk⟩:=vq hT h hc h3
 obtain⟨zv,hz,Xu⟩:=Cb hT h4
 have hd:d∉S.used:=ql d (by simp)
 have fin:∀vV zt u (st:Nat) e',(Instr.mapEntry t (a.eval x) (a.eval k)).run P w= .ok (.tuple #[u,goInt st]) (eu w p.bc (.map vV zt))→gX E.F b c (rl b m0 kk z) vV zt→vV[jO b m0 kk]? =some e'→e'.born=st→
   jA E.F c ((aT b m0 kk).getD z) u→
   bX P w0 foot base S E a w o {val:=some (.yb [(c.isAgg,flat c ((aT b m kk).getD z)),(false,[.xb d])]),ck:=[(n,.map false b c (rl b m kk z) (some (d,jO b m kk)))],new:=[d]}:=fun vV zt u st e' dA R2 Vd Er RL=>by
  rw[uw hK.key hM.keys Gd kk] at RL
  obtain⟨hle,hH⟩:=h.toHRel.QT (p:=⟨true,0,st,0⟩) hd rfl
  have hw:=hH.write (B':= .map false b c (rl b m kk z) (some (d,jO b m kk))) hf (hle.place _ _ hp) hn rfl ⟨hn,vV,zt,iB (dw iY),(fun h=>by cases h),_,Rr hK.key hM.keys Gd _ _,R2.mono hle.F,fun d' i hc=>by
   cases hc
   exact⟨_,e',_,Env.fa,rfl,Vd,Er,by rw[OY hK.key,OY hK.key]⟩⟩
  refine bX.value (v:= .tuple #[u,goInt st]) (w':=eu w p.bc (.map vV zt)) (E':=E.new d ⟨true,0,st,0⟩) ?_ ⟨hle,hw,_,rfl,?_⟩
  ·simp only[execOp,ho]
   rw[Sem.run_bind,dA]
   rfl
  ·exact⟨u,[_],rfl,(RL.mono hle.F).part,_,[],rfl,⟨_,rfl,_,Env.fa,rfl,rfl⟩,rfl⟩
 rcases ux hK.key m0 kk with ⟨m1,m2,m3,m4,m5⟩|⟨v0,m1,m2,m3,m4,m5⟩
 ·rcases hK.find w hk hM.xu with ⟨k1,k2⟩|⟨e,k1,k2,k3⟩
  ·refine fin (es.push ⟨a.eval k,zv,cl⟩) (cl+1) zv cl ⟨a.eval k,zv,cl⟩ ?_ ?_ (by rw[m4,←hM.size];simp) rfl (by rw[m1];exact Xu _)
   ·simp[Instr.mapEntry,hv,run_underlying hu,MapKept.run_getObj_map iY,hK.check w _ hk,k2,hz,MapKept.run_setObj_map _ iY,eu]
   ·unfold rl;rw[m1,m2];exact hM.push m5 hk (Xu _)
  ·rw[m1] at k1;cases k1
 ·rcases hK.find w hk hM.xu with ⟨k1,k2⟩|⟨e,k1,k2,k3⟩
  ·rw[m1] at k1;cases k1
  ·have he:es[jO b m0 kk]? =some e:=by simpa using k2
   obtain⟨g1,g2⟩:=hM.val m2 he
   have hs:=hK.stays w g1 hk
   refine fin (es.modify (jO b m0 kk) fun e=>{e with key:=a.eval k}) cl e.val e.born {e with key:=a.eval k} ?_ ?_ (by rw[Array.getElem?_modify,if_pos rfl,he];rfl) rfl (by rw[m1];exact g2)
   ·simp[Instr.mapEntry,hv,run_underlying hu,MapKept.run_getObj_map iY,hK.check w _ hk,k3,he,hs,MapKept.run_setObj_map _ iY,eu]
   ·unfold rl;rw[m1,m3];exact hM.Wo m2 he _ (fun _=>rfl) hk g2
theorem Is {es:Array MapEntry} {cl:Nat} (h:Ao es cl) {i:Nat} {e:MapEntry} (he:es[i]? =some e):es.findIdx? (fun x=>(x.born:Int)==(e.born:Int))=some i:=by
 obtain⟨dK,hi⟩:=Array.getElem?_eq_some_iff.1 he
 rw[Array.findIdx?_eq_some_iff_getElem]
 refine⟨dK,by rw[hi];simp,fun j hj=> ?_⟩
 have hp:=h.1
 rw[List.pairwise_iff_getElem] at hp
 have:=hp j i (by simpa using Nat.lt_trans hj dK) (by simpa using dK) hj
 simp only[Array.getElem_toList] at this
 rw[hi] at this
 simp only[beq_iff_eq,Bool.not_eq_true]
 intro hc
 omega
theorem Rp {α β:Type} {m0 m:List (α×β)} (hn:(m0.map Prod.fst).Nodup) (hp:m0.Perm m) {i j:Nat} {k:α} (hj:(m0[j]?).map Prod.fst=some k) (hi:(m[i]?).map Prod.fst=some k) (v:β):(sT m0 j v).Perm (sT m i v):=by
 classical
 have key:∀{l:List (α×β)} {i:Nat},(l.map Prod.fst).Nodup→(l[i]?).map Prod.fst=some k→sT l i v=l.map fun x=>if x.1=k then(x.1,v) else x:=fun {l i} hn hi=>by
  obtain⟨x,hx,hxk⟩:=Option.map_eq_some_iff.1 hi
  have dK:=(List.getElem?_eq_some_iff.1 hx).1
  unfold sT
  apply List.ext_getElem?
  intro n
  rw[List.getElem?_modify,List.getElem?_map]
  by_cases oE:i=n
  ·subst oE
   simp only[hx]
   simp[hxk]
  ·simp only[oE,if_false]
   cases hy:l[n]? with
   |none=>rfl
   |some y=>
    have:y.1≠k:=fun e=>oE<|by
     have e1:(l.map Prod.fst)[i]? =some k:=by rw[List.getElem?_map,hx];exact congrArg some hxk
     have e2:(l.map Prod.fst)[n]? =some k:=by rw[List.getElem?_map,hy];exact congrArg some e
     exact(List.getElem?_inj (by simpa using dK) hn).1 (e1.trans e2.symm)
    simp[this]
 rw[key hn hj,key ((hp.map _).nodup_iff.1 hn) hi]
 exact hp.map _
theorem Iy (hT:dt P X.ay) (h:SRel w0 foot base S E a w) (hc:bo a ctx) {o:Oper} {t:Nat} {x s v:Operand} (ho:o.op= .entryStore t x s v) {r:b7}
  (hr:(do
   let st ←I9 (←lC s)
   rV (fun n a b xs cur=>match cur with
    |some (d',i)=>(do
     cR (Nat.beq st d')
     let y ←JQ b n v
     .ret {ck:=y.2++[(n,.map false a b (sT xs i y.1) none)]})
    |none=> .fail) (←lC x):RM b7).run S ctx=some r):bX P w0 foot base S E a w o r:=by
 obtain⟨cst,h1,hr⟩:=RM.run_bind' hr
 obtain⟨st,h2,hr⟩:=RM.run_bind' hr
 obtain⟨c,h3,hr⟩:=RM.run_bind' hr
 have ju:=gq h hc h1
 have ju:gO E (.xb st) (a.eval s):=by
  unfold I9 at h2
  split at h2
  ·cases h2;exact ju
  ·cases h2
 obtain⟨n,b,c,m,cur,p,es,cl,hr,hf,hp,hn,hv,iY,m0,Gd,hM,X1⟩:=sX h hr (gq h hc h3)
 split at hr
 ·rename_i d' i
  obtain⟨_,h5,hr⟩:=RM.run_bind' hr
  obtain⟨y,h4,hr⟩:=RM.run_bind' hr
  cases hr
  have e:=Nat.eq_of_beq_eq_true (bQ h5)
  subst e
  obtain⟨q,e,j,hq,_,he,Er,aiq⟩:=X1 _ _ rfl
  obtain⟨q',ni,_,Pl⟩:=ju
  rw[hq] at ni
  cases ni
  obtain⟨E1,l1,q1,hH,uK,hy⟩:=ER h hc h4
  have dK:j<m0.length:=by rw[←hM.size];exact(Array.getElem?_eq_some_iff.1 he).1
  have hmi:m0[j]? =some (m0[j].1,m0[j].2):=List.getElem?_eq_getElem dK
  have CV:sT m0 j y.1=m0.set j (m0[j].1,y.1):=by
   unfold sT
   apply List.ext_getElem?
   intro n'
   rw[List.getElem?_modify]
   by_cases hj:j=n'
   ·subst hj;simp[dK]
   ·simp only[hj,if_false]
    rw[List.getElem?_set_ne hj]
    cases m0[n']? <;>rfl
  have R2:gX E1.F b c (sT m0 j y.1) (es.modify j fun e=>{e with val:=a.eval v}) cl:=by
   rw[CV]
   exact(hM.mono l1.F).Wo hmi he _ (fun _=>rfl) ((hM.mono l1.F).val hmi he).1 hy
  have RU:(m0[j]?).map Prod.fst=some m0[j].1:=by rw[hmi];rfl
  have hw:=hH.write (B':= .map false b c (sT m i y.1) none) (uK _ hf) (q1▸hp) hn rfl ⟨hn,_,cl,iB (dw iY),(fun h=>by cases h),_,Rp hM.keys Gd RU (aiq.symm.trans RU) _,R2,.none⟩
  refine bX.skip (w':=eu w p.bc (.map (es.modify j fun e=>{e with val:=a.eval v}) cl)) (E':=E1) ?_ ⟨l1,by rw[tl];exact hw,trivial⟩
  have hfi:=Is hM.stamps he
  rw[Er] at hfi
  simp[execOp,ho,Instr.entryStore,hv,MapKept.run_getObj_map iY,Pl,goInt,asInt,asIntOf,hfi,MapKept.run_setObj_map _ iY,eu]
 ·cases hr
theorem Sh (hT:dt P X.ay) (h:SRel w0 foot base S E a w) (hc:bo a ctx) {o:Oper} {x k:Operand} {t t':Nat} {args:Array Operand} {yj:Array Nat} (ho:o.op= .call {callee:= .builtin .delete,args:=args,argTypes:=yj})
  (h1:args.toList=[x,k]) (h2:yj.toList=[t,t']) {r:b7}
  (hr:(do
   let ke ←qO X t
   rV (fun n a b xs _=>do
    let x ←CK X ke.1 a k
    .ret {ck:=[(n,.map false a b (iQ a xs x) none)]}) (←lC x):RM b7).run S ctx=some r):bX P w0 foot base S E a w o r:=by
 obtain⟨ke,h3,hr⟩:=RM.run_bind' hr
 obtain⟨c,h4,hr⟩:=RM.run_bind' hr
 have hu:=qN hT h3
 obtain⟨n,b,c,m,cur,p,es,cl,hr,hf,hp,hn,hv,iY,m0,Gd,hM,_⟩:=sX h hr (gq h hc h4)
 obtain⟨kk,h5,hr⟩:=RM.run_bind' hr
 cases hr
 obtain⟨hK,hk⟩:=vq hT h hc h5
 have ha:args= #[x,k]:=by apply Array.ext';simpa using h1
 have mU:yj= #[t,t']:=by apply Array.ext';simpa using h2
 have fin:∀vV zt,(Builtin.delete_ #[t,t'] o.type #[a.eval x,a.eval k]).run P w= .ok (.tuple #[]) (eu w p.bc (.map vV zt))→gX E.F b c (iQ b m0 kk) vV zt→
   bX P w0 foot base S E a w o {ck:=[(n,.map false b c (iQ b m kk) none)]}:=fun vV zt dA R2=>by
  have hw:=h.toHRel.write (B':= .map false b c (iQ b m kk) none) hf hp hn rfl ⟨hn,vV,zt,iB (dw iY),(fun h=>by cases h),_,Rs hK.key hM.keys Gd _,R2,.none⟩
  refine bX.value (v:= .tuple #[]) (w':=eu w p.bc (.map vV zt)) (E':=E) ?_ ⟨.refl _,hw,trivial⟩
  subst ha mU
  simp[execOp,ho,resolve,invoke,builtin,dA]
 rcases ux hK.key m0 kk with ⟨m1,m2,m3,m4,m5⟩|⟨v0,m1,m2,m3,m4,m5⟩
 ·rcases hK.find w hk hM.xu with ⟨k1,k2⟩|⟨e,k1,k2,k3⟩
  ·refine fin es cl ?_ (by rw[m3];exact hM)
   simp[Builtin.delete_,hv,run_underlying hu,MapKept.run_getObj_map iY,hK.check w _ hk,k2,MapKept.run_setObj_map _ iY,eu]
  ·rw[m1] at k1;cases k1
 ·rcases hK.find w hk hM.xu with ⟨k1,k2⟩|⟨e,k1,k2,k3⟩
  ·rw[m1] at k1;cases k1
  ·refine fin (es.eraseIdxIfInBounds (jO b m0 kk)) cl ?_ (by rw[m4];exact hM.erase (List.getElem?_eq_some_iff.1 m2).1)
   simp[Builtin.delete_,hv,run_underlying hu,MapKept.run_getObj_map iY,hK.check w _ hk,k3,MapKept.run_setObj_map _ iY,eu]
theorem QI (h:SRel w0 foot base S E a w) (hc:bo a ctx) {o:Oper} {t n:Nat} {x v:Operand} (ho:o.op= .store t x v) {r:b7} {i:TI} {j:TypeInfo} (hj:P.info? t=some j) (e1:j.size=i.size)
  {s:SV} (h2:(ev v).run S ctx=some s) {cs:List C} (h3:(oK s).run S ctx=some cs)
  (hr:(do L9 n i.size cs (←lC x):RM b7).run S ctx=some r) (cq:∀c∈r.conds,c):bX P w0 foot base S E a w o r:=by
 obtain⟨c,h4,hr⟩:=RM.run_bind' hr
 have mA:=o9 h hc h2 h3
 have FE:=mA.oB
 have hlen:=mA.length
 have hx:=gq h hc h4
 unfold L9 at hr
 split at hr
 ·rename_i tt b k off
  simp only[RM.run] at hr
  split at hr
  ·rename_i B hf
   split at hr
   ·rename_i e t' xs
    split at hr
    ·rename_i hb
     simp only[Bool.and_eq_true] at hb
     have ht:=Ty.beq_eq hb.1
     have hk:=Nat.eq_of_beq_eq_true hb.2.1
     have Tk:=Nat.eq_of_beq_eq_true hb.2.2.1
     have Pr:=Nat.eq_of_beq_eq_true hb.2.2.2.1
     have AB:=Nat.eq_of_beq_eq_true hb.2.2.2.2
     subst ht hk Tk
     obtain⟨ys,h5,hr⟩:=RM.run_bind' hr
     cases hr
     have HS:=cq _ (List.mem_singleton.2 rfl)
     obtain⟨p,hp,hn,hi,CZ⟩:=hx
     obtain⟨p',dj,hB⟩:=h.ck _ _ hf
     rw[hp] at dj;cases dj
     have hB:nT E w p false e tt xs:=by
      rcases hB with ⟨dk,_⟩|⟨_,hB⟩
      ·rw[hn] at dk;cases dk
      ·exact hB
     obtain⟨g0,⟨g1,g1'⟩,vs,g2,g3,g4,g5⟩:=hB
     have hmul:n*tt.size≤p.cap*tt.size:=Nat.mul_le_mul_right _ (by omega)
     obtain⟨qt,M0⟩:=vW w h5 mA
     have dA:=qD (P:=P) (o:=0*tt.size+0) (v:=a.eval v) hj (by rw[hlen,AB,e1]) g2 (by rw[g3,hlen,Pr];omega) FE
     have hw:=h.toHRel.write (B':= .row false e tt ys) (o:= .cells (vs.toList.take (0*tt.size+0)++(a.eval v).cells.toList++vs.toList.drop (0*tt.size+0+(a.eval v).cells.toList.length)).toArray e (0,0)) hf hp hn rfl
      (Or.inr ⟨hn,nT.mk' (us:=(a.eval v).cells.toList) (rest:=vs.toList.drop (a.eval v).cells.toList.length) qt g0 (by rw[M0,←HS];exact g1) g1' (iB (dw g2)) (by simp) (by
       have:vs.toList.length=p.cap*tt.size:=by simpa using g3
       simp only[List.size_toArray,List.length_append,List.length_take,List.length_drop]
       omega)⟩)
     refine bX.skip (w':=eu w p.bc _) (E':=E) ?_ ⟨.refl _,hw,trivial⟩
     simp only[execOp,ho,Instr.storeAt,Instr.sureAddr,CZ,Sem.run_bind,Sem.run_pure,Result.andThen_ok]
     rw[dA]
     rfl
    ·cases hr
   ·cases hr
  ·cases hr
 ·cases hr
end Go.Vc
end
