/-
  The base of a small verification-condition generator: pure data types, symbolic values, how they lie in memory, and the basic facts about them. No program is named here; The symbolic state (slots and blocks), reading it with a record of what was read, and how a state stands to the machine's own; Maps as plain data: a list of keys with their values, each key once; looking up, storing, striking out; and what holds of these; The symbolic executor for single operations: what each operation answers, what it asks for, which blocks it makes or changes; The executor's single operations are sound: the readers, constants, data out of cells, numbers and places; The executor's single operations are sound, first part: values, numbers, places, loads and stores; The executor's single operations are sound, second part: stores, structs, indexes, slices, numbers; The executor's single operations are sound, third part: structs in registers, numbers, places of elements, pieces of slices; The executor's single operations are sound, fourth part: '==' and its like, conversions, places of elements, pieces of slices and texts; The executor's single operations are sound, fifth part: places of elements, pieces of slices and texts, slices that the call makes, appends, lengths; The executor's single operations are sound, sixth part: slices that the call makes, appends, lengths, calls; The executor's single operations are sound, seventh part: appends, literal slices, lengths, calls by contract; all operations together; A map's keys at the machine: what is asked of a key's type, that a key may be looked up, and where it is found.
-/
import Derived.Calls
import Derived.Orders
import Derived.Laws.Sem
import Derived.Laws.World
import Derived.Laws.Cells
import Derived.Laws.CopyRow
import Derived.Below
import Derived.Laws.IdiomRangeMap
import Derived.IntWalk
import Derived.Laws.Entries
import Derived.Laws.MakeOwn
import Derived.Laws.AppendOwn
import Derived.Laws.StructEq
import Derived.Laws.Append
import Derived.Lib.Strings
import Derived.Lib.MinMax
import Derived.WideKeyRuns

section
namespace Go.Vc
open Go
inductive Ty where
 | int (k : IntKind)
 | bool
 | str
 | list (t : Ty)
 | unit
 | pair (a b : Ty)
 | ref (t : Ty)
 | ptr (t : Ty)
 | clo (k : Nat) (t : Ty)
 | map (a b : Ty)
@[reducible] def Ty.den (t : Ty) : Type := Ty.rec (motive := fun _ => Type) (fun _ => Int) Bool (List UInt8) (fun _ d => List d) Unit (fun _ _ a b => a × b) (fun _ d => d) (fun _ d => Option d) (fun _ _ d => d) (fun _ _ a b => List (a × b)) t
@[reducible] def Ty.L {t : Ty} (xs : (Ty.list t).den) : List t.den := xs
@[reducible] def Ty.M {a b : Ty} (m : (Ty.map a b).den) : List (a.den × b.den) := m
@[reducible] def Ty.I {k : IntKind} (n : (Ty.int k).den) : Int := n
@[reducible] def Ty.B (b : Ty.bool.den) : Bool := b
@[reducible] def Ty.S (s : Ty.str.den) : List UInt8 := s
def Ty.size : Ty → Nat
 | .int _ | .bool | .str | .list _ | .ref _ | .ptr _ | .clo _ _ | .map _ _ => 1
 | .unit => 0
 | .pair a b => a.size + b.size
def Ty.dflt : (t : Ty) → t.den
 | .int _ => (0 : Int)
 | .bool => false
 | .str => ([] : List UInt8)
 | .list _ => []
 | .unit => ()
 | .pair a b => (a.dflt, b.dflt)
 | .ref t => t.dflt
 | .ptr _ => none
 | .clo _ t => t.dflt
 | .map _ _ => []
def Ty.isAgg : Ty → Bool
 | .unit | .pair _ _ => true
 | _ => false
def kindBeq : IntKind → IntKind → Bool
 | .i8, .i8 | .i16, .i16 | .i32, .i32 | .i64, .i64 | .u8, .u8 | .u16, .u16 | .u32, .u32 | .u64, .u64 => true
 | _, _ => false
theorem kindBeq_eq {a b : IntKind} (h : kindBeq a b = true) : a = b := by
 cases a <;> cases b <;> simp [kindBeq] at h <;> rfl
def Ty.beq : Ty → Ty → Bool
 | .int j, .int k => kindBeq j k
 | .bool, .bool => true
 | .str, .str => true
 | .list a, .list b => a.beq b
 | .unit, .unit => true
 | .pair a b, .pair c d => a.beq c && b.beq d
 | .ref a, .ref b => a.beq b
 | .ptr a, .ptr b => a.beq b
 | .clo j a, .clo k b => Nat.beq j k && a.beq b
 | .map a b, .map c d => a.beq c && b.beq d
 | _, _ => false
theorem Ty.beq_eq : ∀ {a b : Ty}, a.beq b = true → a = b
 | .int j, .int k, h => by rw [kindBeq_eq h]
 | .bool, .bool, _ => rfl
 | .str, .str, _ => rfl
 | .list a, .list b, h => by rw [Ty.beq_eq (a := a) (b := b) h]
 | .unit, .unit, _ => rfl
 | .pair a b, .pair c d, h => by
  simp only [Ty.beq, Bool.and_eq_true] at h
  rw [Ty.beq_eq h.1, Ty.beq_eq h.2]
 | .ref a, .ref b, h => by rw [Ty.beq_eq (a := a) (b := b) h]
 | .ptr a, .ptr b, h => by rw [Ty.beq_eq (a := a) (b := b) h]
 | .clo j a, .clo k b, h => by
  simp only [Ty.beq, Bool.and_eq_true] at h
  rw [Nat.eq_of_beq_eq_true h.1, Ty.beq_eq h.2]
 | .map a b, .map c d, h => by
  simp only [Ty.beq, Bool.and_eq_true] at h
  rw [Ty.beq_eq h.1, Ty.beq_eq h.2]
theorem kindBeq_refl (a : IntKind) : kindBeq a a = true := by cases a <;> rfl
theorem Ty.beq_refl : ∀ (a : Ty), a.beq a = true
 | .int j => kindBeq_refl j
 | .bool | .str | .unit => rfl
 | .list a => Ty.beq_refl a
 | .pair a b => by simp [Ty.beq, Ty.beq_refl a, Ty.beq_refl b]
 | .ref a => Ty.beq_refl a
 | .ptr a => Ty.beq_refl a
 | .clo k a => by simp [Ty.beq, Ty.beq_refl a]
 | .map a b => by simp [Ty.beq, Ty.beq_refl a, Ty.beq_refl b]
def Ty.as {a : Ty} (b : Ty) (x : a.den) : Option b.den :=
 match h : a.beq b with
 | true => some (Ty.beq_eq h ▸ x)
 | false => none
theorem Ty.as_self {a : Ty} (x : a.den) : Ty.as a x = some x := by
 unfold Ty.as
 split
 ·rfl
 ·rename_i h; rw [Ty.beq_refl] at h; cases h
theorem Ty.as_some {a b : Ty} {x : a.den} {y : b.den} (h : Ty.as b x = some y) : ∃ e : a = b, y = e ▸ x := by
 unfold Ty.as at h
 split at h
 ·rename_i hb
  exact ⟨Ty.beq_eq hb, (Option.some.inj h).symm⟩
 ·cases h
def InR (k : IntKind) (n : Int) : Prop := k.min ≤ n ∧ n ≤ k.max
def maxLenI : Nat := 9223372036854775807
def Ty.wf : (t : Ty) → t.den → Prop
 | .int k, n => InR k n
 | .bool, _ => True
 | .str, s => (Ty.S s).length ≤ maxLenI
 | .list t, xs => (Ty.L xs).length ≤ maxLenI ∧ ∀ x ∈ Ty.L xs, t.wf x
 | .unit, _ => True
 | .pair a b, x => a.wf x.1 ∧ b.wf x.2
 | .ref t, x => t.wf x
 | .ptr t, x => ∀ y, x = some y → t.wf y
 | .clo _ t, x => t.wf x
 | .map a b, m => ∀ x ∈ Ty.M m, a.wf x.1 ∧ b.wf x.2
inductive C where
 | dat (t : Ty) (x : t.den)
 | row (t : Ty) (b : Nat)
 | sub (t : Ty) (b lo len : Nat)
 | ptr (b o : Nat)
 | rptr (t : Ty) (b i o : Nat)
 | elt (t : Ty) (xs : List t.den) (i o : Nat)
 | nilsl
 | nilptr
 | nilfn
 | mclo (k : Nat) (bs : List Nat)
 | map (a b : Ty) (n : Nat)
 | nilmap
 | stamp (d : Nat)
inductive SV where
 | one (c : C)
 | agg (cs : List C)
 | tup (vs : List (Bool × List C))
inductive Blk where
 | cells (cs : List C)
 | row (fro : Bool) (e : Nat) (t : Ty) (xs : List t.den)
 | fcells (t : Ty) (x : t.den)
 | map (fro : Bool) (a b : Ty) (m : List (a.den × b.den)) (cur : Option (Nat × Nat))
 | iter (a b : Ty) (todo : List (a.den × b.den)) (cur : Option (a.den × b.den))
def flat : (t : Ty) → t.den → List C
 | .int k, n => [.dat (.int k) n]
 | .bool, b => [.dat .bool b]
 | .str, s => [.dat .str s]
 | .list t, xs => [.dat (.list t) xs]
 | .unit, _ => []
 | .pair a b, x => flat a x.1 ++ flat b x.2
 | .ref t, x => [.elt t [x] 0 0]
 | .ptr t, x => [.dat (.ptr t) x]
 | .clo k t, x => [.dat (.clo k t) x]
 | .map a b, m => [.dat (.map a b) m]
theorem flat_length : ∀ (t : Ty) (x : t.den), (flat t x).length = t.size
 | .int _, _ | .bool, _ | .str, _ | .list _, _ | .unit, _ | .ref _, _ | .ptr _, _ | .clo _ _, _ | .map _ _, _ => rfl
 | .pair a b, x => by simp [flat, Ty.size, flat_length a x.1, flat_length b x.2]
abbrev Mem := Nat → Option Obj
def Mem.cell (F : Mem) (b o : Nat) (u : Value) : Prop := ∃ c e m, F b = some (.cells c e m) ∧ c[o]? = some u
def Mem.le (F F' : Mem) : Prop := ∀ b o, F b = some o → F' b = some o
theorem Mem.le.refl (F : Mem) : F.le F := fun _ _ h => h
theorem Mem.le.trans {F G H : Mem} (h : F.le G) (k : G.le H) : F.le H := fun b o e => k b o (h b o e)
theorem Mem.cell.mono {F F' : Mem} (h : F.le F') {b o : Nat} {u : Value} (k : F.cell b o u) : F'.cell b o u :=
 let ⟨c, e, m, h1, h2⟩ := k; ⟨c, e, m, h _ _ h1, h2⟩
def Stamps (es : Array MapEntry) (cl : Nat) : Prop := es.toList.Pairwise (fun x y => x.born < y.born) ∧ ∀ e ∈ es.toList, e.born < cl
def Ty.valOf (t : Ty) (us : List Value) : Value :=
 match t.isAgg with
 | true => .agg us.toArray
 | false => us.headD undef
def Rep (F : Mem) : (t : Ty) → t.den → List Value → Prop
 | .int k, n, vs => vs = [.int k n] ∧ InR k n
 | .bool, b, vs => vs = [.bool b]
 | .str, s, vs => vs = [.string ⟨⟨Ty.S s⟩⟩] ∧ (Ty.S s).length ≤ maxLenI
 | .list t, xs, vs => ∃ a cap, vs = [.slice a ((Ty.L xs).length) cap] ∧ (Ty.L xs).length ≤ cap ∧ cap ≤ maxLenI ∧
   (a = none → cap = 0) ∧ (∀ p : Addr, a = some p → ∀ (i : Nat) (x : t.den), (Ty.L xs)[i]? = some x →
    p.spot = none ∧ ∃ us : List Value, Rep F t x us ∧ us.length = t.size ∧ ∀ (j : Nat) u, us[j]? = some u → F.cell p.block (p.off + (i * t.size + j)) u)
 | .unit, _, vs => vs = []
 | .pair a b, x, vs => ∃ us ws, vs = us ++ ws ∧ Rep F a x.1 us ∧ Rep F b x.2 ws
 | .ref t, x, vs => ∃ b off, vs = [.pointer (some ⟨b, off, none⟩)] ∧ ∃ us : List Value, Rep F t x us ∧ us.length = t.size ∧ ∀ (j : Nat) u, us[j]? = some u → F.cell b (off + j) u
 | .ptr t, x, vs => (x = none ∧ vs = [.pointer none]) ∨ ∃ y, x = some y ∧ ∃ b off, vs = [.pointer (some ⟨b, off, none⟩)] ∧ ∃ us : List Value, Rep F t y us ∧ us.length = t.size ∧ ∀ (j : Nat) u, us[j]? = some u → F.cell b (off + j) u
 | .clo k t, x, vs => ∃ ws, vs = [.func (.func k) #[] ws] ∧ Rep F t x ws.toList
 | .map a b, m, vs => ∃ o, vs = [.map o] ∧ (o = none → Ty.M m = []) ∧ ∀ n, o = some n → ∃ es cl, F n = some (.map es cl) ∧ Stamps es cl ∧ ((Ty.M m).map Prod.fst).Nodup ∧ es.size = (Ty.M m).length ∧
   ∀ (i : Nat) (x : a.den × b.den), (Ty.M m)[i]? = some x → ∃ e us ws, es[i]? = some e ∧ Rep F a x.1 us ∧ e.key = a.valOf us ∧ Rep F b x.2 ws ∧ e.val = b.valOf ws
theorem Rep.length {F : Mem} : ∀ {t : Ty} {x : t.den} {vs : List Value}, Rep F t x vs → vs.length = t.size
 | .int _, _, _, h => by rw [h.1]; rfl
 | .bool, _, _, h => by rw [show _ = _ from h]; rfl
 | .str, _, _, h => by rw [h.1]; rfl
 | .list _, _, _, h => by obtain ⟨_, _, h, _⟩ := h; rw [h]; rfl
 | .unit, _, _, h => by rw [show _ = _ from h]; rfl
 | .pair _ _, _, _, h => by obtain ⟨_, _, rfl, h1, h2⟩ := h; simp [Ty.size, h1.length, h2.length]
 | .ref _, _, _, h => by obtain ⟨_, _, h, _⟩ := h; rw [h]; rfl
 | .ptr _, _, _, h => by
  rcases h with ⟨_, h⟩ | ⟨_, _, _, _, h, _⟩
  ·rw [h]; rfl
  ·rw [h]; rfl
 | .clo _ _, _, _, h => by obtain ⟨_, h, _⟩ := h; rw [h]; rfl
 | .map _ _, _, _, h => by obtain ⟨_, h, _⟩ := h; rw [h]; rfl
theorem Rep.mono {F F' : Mem} (hF : F.le F') : ∀ {t : Ty} {x : t.den} {vs : List Value}, Rep F t x vs → Rep F' t x vs
 | .int _, _, _, h => h
 | .bool, _, _, h => h
 | .str, _, _, h => h
 | .list t, xs, _, h => by
  obtain ⟨a, cap, h0, h1, h2, h3, h4⟩ := h
  refine ⟨a, cap, h0, h1, h2, h3, fun p hp i x hx => ?_⟩
  obtain ⟨hs, us, k1, k2, k3⟩ := h4 p hp i x hx
  exact ⟨hs, us, Rep.mono hF k1, k2, fun j u hu => (k3 j u hu).mono hF⟩
 | .unit, _, _, h => h
 | .pair _ _, _, _, h => by
  obtain ⟨us, ws, h0, h1, h2⟩ := h
  exact ⟨us, ws, h0, Rep.mono hF h1, Rep.mono hF h2⟩
 | .ref _, _, _, h => by
  obtain ⟨b, off, h0, us, k1, k2, k3⟩ := h
  exact ⟨b, off, h0, us, Rep.mono hF k1, k2, fun j u hu => (k3 j u hu).mono hF⟩
 | .ptr _, _, _, h => by
  rcases h with h | ⟨y, hy, b, off, h0, us, k1, k2, k3⟩
  ·exact .inl h
  ·exact .inr ⟨y, hy, b, off, h0, us, Rep.mono hF k1, k2, fun j u hu => (k3 j u hu).mono hF⟩
 | .clo _ _, _, _, h => by
  obtain ⟨ws, h0, h1⟩ := h
  exact ⟨ws, h0, Rep.mono hF h1⟩
 | .map a b, m, _, h => by
  obtain ⟨o, h0, h1, h2⟩ := h
  refine ⟨o, h0, h1, fun n hn => ?_⟩
  obtain ⟨es, cl, k1, k4, k5, k2, k3⟩ := h2 n hn
  refine ⟨es, cl, hF _ _ k1, k4, k5, k2, fun i x hx => ?_⟩
  obtain ⟨e, us, ws, q1, q2, q3, q4, q5⟩ := k3 i x hx
  exact ⟨e, us, ws, q1, Rep.mono hF q2, q3, Rep.mono hF q4, q5⟩
theorem Rep.wf {F : Mem} : ∀ {t : Ty} {x : t.den} {vs : List Value}, Rep F t x vs → t.wf x
 | .int _, _, _, h => h.2
 | .bool, _, _, _ => trivial
 | .str, _, _, h => h.2
 | .list t, xs, _, h => by
  obtain ⟨a, cap, h0, h1, h2, h3, h4⟩ := h
  refine ⟨Nat.le_trans h1 h2, fun x hx => ?_⟩
  obtain ⟨i, hi, rfl⟩ := List.mem_iff_getElem.1 hx
  cases a with
  | none => have := h3 rfl; subst this; exact absurd hi (by have : (Ty.L xs).length = 0 := (by omega); omega)
  | some p =>
   obtain ⟨_, us, k1, _⟩ := h4 p rfl i _ (List.getElem?_eq_getElem hi)
   exact Rep.wf k1
 | .unit, _, _, _ => trivial
 | .pair _ _, _, _, h => by
  obtain ⟨us, ws, h0, h1, h2⟩ := h
  exact ⟨Rep.wf h1, Rep.wf h2⟩
 | .ref t, x, _, h => by
  obtain ⟨_, _, _, us, k1, _⟩ := h
  exact Rep.wf (t := t) k1
 | .ptr t, x, _, h => by
  rcases h with ⟨h, _⟩ | ⟨y, hy, _, _, _, us, k1, _⟩
  ·subst h; intro y hy; cases hy
  ·subst hy
   intro z hz
   cases hz
   exact Rep.wf (t := t) k1
 | .clo _ t, x, _, h => by
  obtain ⟨_, _, k1⟩ := h
  exact Rep.wf (t := t) k1
 | .map a b, m, _, h => by
  obtain ⟨o, _, h1, h2⟩ := h
  intro x hx
  cases o with
  | none => rw [h1 rfl] at hx; cases hx
  | some n =>
   obtain ⟨es, cl, _, _, _, _, k3⟩ := h2 n rfl
   obtain ⟨i, hi, rfl⟩ := List.mem_iff_getElem.1 hx
   obtain ⟨e, us, ws, _, q2, _, q4, _⟩ := k3 i _ (List.getElem?_eq_getElem hi)
   exact ⟨Rep.wf q2, Rep.wf q4⟩
structure Place where
 nil : Bool
 blk : Nat
 cap : Nat
 len : Nat
structure Env where
 F : Mem
 place : Nat → Option Place
structure Env.le (E E' : Env) : Prop where
 F : E.F.le E'.F
 place : ∀ b p, E.place b = some p → E'.place b = some p
theorem Env.le.refl (E : Env) : E.le E := ⟨.refl _, fun _ _ h => h⟩
theorem Env.le.trans {E E' E'' : Env} (h : E.le E') (k : E'.le E'') : E.le E'' := ⟨h.F.trans k.F, fun b p e => k.place b p (h.place b p e)⟩
def CRep (E : Env) : C → Value → Prop
 | .dat t x, v => t.isAgg = false ∧ Rep E.F t x [v]
 | .row _ b, v => ∃ p, E.place b = some p ∧
   ((p.nil = true ∧ v = .slice none 0 0 ∧ p.len = 0) ∨ (p.nil = false ∧ v = .slice (some ⟨p.blk, 0, none⟩) p.len p.cap ∧ p.len ≤ p.cap ∧ p.cap ≤ maxLenI))
 | .sub t b lo len, v => ∃ p, E.place b = some p ∧ lo + len ≤ p.len ∧
   ((p.nil = true ∧ v = .slice none 0 0 ∧ p.len = 0) ∨
    (p.nil = false ∧ ∃ a : Addr, v = .slice (some a) len (p.cap - lo) ∧ p.len ≤ p.cap ∧ p.cap ≤ maxLenI ∧ (lo = p.cap ∨ a = ⟨p.blk, lo * t.size, none⟩)))
 | .ptr b o, v => ∃ p, E.place b = some p ∧ p.nil = false ∧ v = .pointer (some ⟨p.blk, o, none⟩)
 | .rptr t b i o, v => ∃ p, E.place b = some p ∧ p.nil = false ∧ i < p.len ∧ v = .pointer (some ⟨p.blk, i * t.size + o, none⟩)
 | .elt t xs i o, v => i < xs.length ∧ ∃ b off, v = .pointer (some ⟨b, off + (i * t.size + o), none⟩) ∧
   ∀ (i : Nat) (x : t.den), xs[i]? = some x →
    ∃ us : List Value, Rep E.F t x us ∧ us.length = t.size ∧ ∀ (j : Nat) u, us[j]? = some u → E.F.cell b (off + (i * t.size + j)) u
 | .nilsl, v => v = .slice none 0 0
 | .nilptr, v => v = .pointer none
 | .nilfn, v => v = .nilFunc
 | .mclo k bs, v => ∃ ps : List Place, ps.length = bs.length ∧ (∀ (i : Nat) b, bs[i]? = some b → ∃ p, ps[i]? = some p ∧ E.place b = some p ∧ p.nil = false) ∧ v = .func (.func k) #[] (ps.map fun p => Value.pointer (some ⟨p.blk, 0, none⟩)).toArray
 | .map _ _ n, v => ∃ p, E.place n = some p ∧ p.nil = false ∧ v = .map (some p.blk)
 | .nilmap, v => v = .map none
 | .stamp d, v => ∃ q, E.place d = some q ∧ q.nil = true ∧ v = goInt q.cap
theorem CRep.mono {E E' : Env} (h : E.le E') {c : C} {v : Value} (k : CRep E c v) : CRep E' c v := by
 cases c with
 | dat t x => exact ⟨k.1, k.2.mono h.F⟩
 | row t b => obtain ⟨p, hp, k⟩ := k; exact ⟨p, h.place _ _ hp, k⟩
 | sub t b lo len => obtain ⟨p, hp, k⟩ := k; exact ⟨p, h.place _ _ hp, k⟩
 | ptr b o => obtain ⟨p, hp, k⟩ := k; exact ⟨p, h.place _ _ hp, k⟩
 | rptr t b i o => obtain ⟨p, hp, k⟩ := k; exact ⟨p, h.place _ _ hp, k⟩
 | elt t xs i o =>
  obtain ⟨hi, b, off, hv, k⟩ := k
  refine ⟨hi, b, off, hv, fun i x hx => ?_⟩
  obtain ⟨us, k1, k2, k3⟩ := k i x hx
  exact ⟨us, k1.mono h.F, k2, fun j u hu => (k3 j u hu).mono h.F⟩
 | nilsl => exact k
 | nilptr => exact k
 | nilfn => exact k
 | mclo k' bs =>
  obtain ⟨ps, h1, h2, h3⟩ := k
  exact ⟨ps, h1, fun i b hb => let ⟨p, g1, g2, g3⟩ := h2 i b hb; ⟨p, g1, h.place _ _ g2, g3⟩, h3⟩
 | map a b n => obtain ⟨p, hp, k⟩ := k; exact ⟨p, h.place _ _ hp, k⟩
 | nilmap => exact k
 | stamp d => obtain ⟨q, hq, k⟩ := k; exact ⟨q, h.place _ _ hq, k⟩
theorem CRep.oneCell {E : Env} {c : C} {v : Value} (k : CRep E c v) : v.oneCell' = true := by
 cases c with
 | dat t x =>
  obtain ⟨ha, k⟩ := k
  cases t with
  | int _ => obtain ⟨k, _⟩ := k; simp at k; subst k; rfl
  | bool => have k : _ = _ := k; simp at k; subst k; rfl
  | str => obtain ⟨k, _⟩ := k; simp at k; subst k; rfl
  | list t => obtain ⟨_, _, k, _⟩ := k; simp at k; subst k; rfl
  | unit => simp [Ty.isAgg] at ha
  | pair a b => simp [Ty.isAgg] at ha
  | ref t => obtain ⟨_, _, k, _⟩ := k; simp at k; subst k; rfl
  | ptr t =>
   rcases k with ⟨_, k⟩ | ⟨_, _, _, _, k, _⟩
   ·simp at k; subst k; rfl
   ·simp at k; subst k; rfl
  | clo k' t => obtain ⟨_, k, _⟩ := k; simp at k; subst k; rfl
  | map a b => obtain ⟨_, k, _⟩ := k; simp at k; subst k; rfl
 | row t b =>
  obtain ⟨p, _, ⟨_, k, _⟩ | ⟨_, k, _⟩⟩ := k
  ·rw [k]; rfl
  ·rw [k]; rfl
 | sub t b lo len =>
  obtain ⟨p, _, _, ⟨_, k, _⟩ | ⟨_, a, k, _⟩⟩ := k
  ·rw [k]; rfl
  ·rw [k]; rfl
 | ptr b o => obtain ⟨p, _, _, k⟩ := k; rw [k]; rfl
 | rptr t b i o => obtain ⟨p, _, _, _, k⟩ := k; rw [k]; rfl
 | elt t xs i o => obtain ⟨_, b, off, k, _⟩ := k; rw [k]; rfl
 | nilsl => rw [show v = _ from k]; rfl
 | nilptr => rw [show v = _ from k]; rfl
 | nilfn => rw [show v = _ from k]; rfl
 | mclo _ _ => obtain ⟨_, _, _, k⟩ := k; rw [k]; rfl
 | map a b n => obtain ⟨p, _, _, k⟩ := k; rw [k]; rfl
 | nilmap => rw [show v = _ from k]; rfl
 | stamp d => obtain ⟨q, _, _, k⟩ := k; rw [k]; rfl
theorem Value.cells_one {v : Value} (h : v.oneCell' = true) : v.cells = #[v] := by
 cases v <;> simp [Value.oneCell', Value.cells] at *
def CReps (E : Env) : List C → List Value → Prop
 | [], vs => vs = []
 | c :: cs, vs => ∃ v us, vs = v :: us ∧ CRep E c v ∧ CReps E cs us
theorem CReps.mono {E E' : Env} (h : E.le E') : ∀ {cs : List C} {vs : List Value}, CReps E cs vs → CReps E' cs vs
 | [], _, k => k
 | _ :: _, _, ⟨v, us, hv, k1, k2⟩ => ⟨v, us, hv, k1.mono h, CReps.mono h k2⟩
theorem CReps.length {E : Env} : ∀ {cs : List C} {vs : List Value}, CReps E cs vs → vs.length = cs.length
 | [], _, k => by rw [show _ = _ from k]; rfl
 | _ :: _, _, ⟨v, us, hv, _, k2⟩ => by rw [hv]; simp [CReps.length k2]
theorem CReps.oneCell {E : Env} : ∀ {cs : List C} {vs : List Value}, CReps E cs vs → ∀ v ∈ vs, v.oneCell' = true
 | [], _, k => by rw [show _ = _ from k]; simp
 | _ :: _, _, ⟨v, us, hv, k1, k2⟩ => by
  subst hv
  intro u hu
  rcases List.mem_cons.1 hu with rfl | hu
  ·exact k1.oneCell
  ·exact CReps.oneCell k2 u hu
theorem CReps.append {E : Env} : ∀ {cs ds : List C} {vs us : List Value}, CReps E cs vs → CReps E ds us → CReps E (cs ++ ds) (vs ++ us)
 | [], _, _, _, k, l => by rw [show _ = _ from k]; exact l
 | _ :: _, _, _, _, ⟨v, ws, hv, k1, k2⟩, l => ⟨v, ws ++ _, by rw [hv]; rfl, k1, CReps.append k2 l⟩
theorem CReps.get {E : Env} : ∀ {cs : List C} {vs : List Value}, CReps E cs vs → ∀ (i : Nat) c, cs[i]? = some c → ∃ v, vs[i]? = some v ∧ CRep E c v
 | [], _, _, i, c, h => by simp at h
 | _ :: _, _, ⟨v, us, hv, k1, k2⟩, 0, c, h => by subst hv; simp at h; subst h; exact ⟨v, rfl, k1⟩
 | _ :: _, _, ⟨v, us, hv, k1, k2⟩, i + 1, c, h => by subst hv; simpa using CReps.get k2 i c (by simpa using h)
theorem CReps.take {E : Env} : ∀ {cs : List C} {vs : List Value}, CReps E cs vs → ∀ (n : Nat), CReps E (cs.take n) (vs.take n)
 | [], _, k, n => by rw [show _ = _ from k]; simp [CReps]
 | _ :: _, _, _, 0 => rfl
 | _ :: _, _, ⟨v, us, hv, k1, k2⟩, n + 1 => by subst hv; exact ⟨v, us.take n, rfl, k1, CReps.take k2 n⟩
theorem CReps.drop {E : Env} : ∀ {cs : List C} {vs : List Value}, CReps E cs vs → ∀ (n : Nat), CReps E (cs.drop n) (vs.drop n)
 | [], _, k, n => by rw [show _ = _ from k]; simp [CReps]
 | _ :: _, _, k, 0 => k
 | _ :: _, _, ⟨v, us, hv, _, k2⟩, n + 1 => by subst hv; exact CReps.drop k2 n
theorem CReps_flat {E : Env} : ∀ {t : Ty} {x : t.den} {vs : List Value}, Rep E.F t x vs → CReps E (flat t x) vs
 | .int _, _, _, h => ⟨_, [], h.1, ⟨rfl, rfl, h.2⟩, rfl⟩
 | .bool, _, _, h => ⟨_, [], h, ⟨rfl, rfl⟩, rfl⟩
 | .str, _, _, h => ⟨_, [], h.1, ⟨rfl, rfl, h.2⟩, rfl⟩
 | .list _, _, _, h => by
  have h' := h
  obtain ⟨a, cap, h0, h1⟩ := h
  exact ⟨_, [], h0, ⟨rfl, a, cap, rfl, h1⟩, rfl⟩
 | .unit, _, _, h => h
 | .pair _ _, _, _, h => by
  obtain ⟨us, ws, rfl, h1, h2⟩ := h
  exact CReps.append (CReps_flat h1) (CReps_flat h2)
 | .ref t, x, _, h => by
  obtain ⟨b, off, rfl, us, k1, k2, k3⟩ := h
  refine ⟨_, [], rfl, ⟨by simp, b, off, by simp, fun i y hy => ?_⟩, rfl⟩
  cases i with
  | zero =>
   have hy : x = y := by simpa using hy
   subst hy
   exact ⟨us, k1, k2, fun j u hu => by simpa using k3 j u hu⟩
  | succ i => simp at hy
 | .ptr t, x, vs, h => by
  have h' := h
  rcases h with ⟨_, h⟩ | ⟨_, _, _, _, h, _⟩
  ·subst h; exact ⟨_, [], rfl, ⟨rfl, h'⟩, rfl⟩
  ·subst h; exact ⟨_, [], rfl, ⟨rfl, h'⟩, rfl⟩
 | .clo k t, x, vs, h => by
  have h' := h
  obtain ⟨_, h, _⟩ := h
  subst h
  exact ⟨_, [], rfl, ⟨rfl, h'⟩, rfl⟩
 | .map a b, x, vs, h => by
  have h' := h
  obtain ⟨_, h, _⟩ := h
  subst h
  exact ⟨_, [], rfl, ⟨rfl, h'⟩, rfl⟩
def SRep (E : Env) : SV → Value → Prop
 | .one c, v => CRep E c v
 | .agg cs, v => ∃ vs, v = .agg vs ∧ CReps E cs vs.toList
 | .tup l, v => ∃ vs, v = .tuple vs ∧ go l vs.toList
where
 go : List (Bool × List C) → List Value → Prop
  | [], vs => vs = []
  | (g, cs) :: l, vs => ∃ v us, vs = v :: us ∧ (match g with | true => ∃ ws, v = .agg ws ∧ CReps E cs ws.toList | false => ∃ c, cs = [c] ∧ CRep E c v) ∧ go l us
theorem SRep.go_mono {E E' : Env} (h : E.le E') : ∀ {l : List (Bool × List C)} {vs : List Value}, SRep.go E l vs → SRep.go E' l vs
 | [], _, k => k
 | (g, cs) :: l, _, k => by
  obtain ⟨v, us, hv, k1, k2⟩ := k
  refine ⟨v, us, hv, ?_, SRep.go_mono h k2⟩
  cases g with
  | true => obtain ⟨ws, hw, k1⟩ := k1; exact ⟨ws, hw, k1.mono h⟩
  | false => obtain ⟨c, hc, k1⟩ := k1; exact ⟨c, hc, k1.mono h⟩
theorem SRep.mono {E E' : Env} (h : E.le E') {s : SV} {v : Value} (k : SRep E s v) : SRep E' s v := by
 cases s with
 | one c => exact CRep.mono h k
 | agg cs => obtain ⟨vs, hv, k⟩ := k; exact ⟨vs, hv, k.mono h⟩
 | tup l => obtain ⟨vs, hv, k⟩ := k; exact ⟨vs, hv, SRep.go_mono h k⟩
def BRow (E : Env) (w : World) (p : Place) (fro : Bool) (e : Nat) (t : Ty) (xs : List t.den) : Prop :=
 p.cap ≤ maxLenI ∧ (xs.length = p.len ∧ p.len ≤ p.cap) ∧ ∃ vs, w.heap[p.blk]? = some (.cells vs e (0, 0)) ∧ vs.size = p.cap * t.size ∧ (fro = true → E.F p.blk = some (.cells vs e (0, 0))) ∧
  ∀ (i : Nat) (x : t.den), xs[i]? = some x → ∃ us : List Value, Rep E.F t x us ∧ us.length = t.size ∧ ∀ (j : Nat) u, us[j]? = some u → vs[i * t.size + j]? = some u
structure MapRep (F : Mem) (a b : Ty) (m : List (a.den × b.den)) (es : Array MapEntry) (cl : Nat) : Prop where
 stamps : Stamps es cl
 keys : (m.map Prod.fst).Nodup
 size : es.size = m.length
 at_ : ∀ (i : Nat) (x : a.den × b.den), m[i]? = some x → ∃ e us ws, es[i]? = some e ∧ Rep F a x.1 us ∧ e.key = a.valOf us ∧ Rep F b x.2 ws ∧ e.val = b.valOf ws
theorem MapRep.mono {F F' : Mem} (hF : F.le F') {a b : Ty} {m : List (a.den × b.den)} {es : Array MapEntry} {cl : Nat} (h : MapRep F a b m es cl) : MapRep F' a b m es cl := by
 refine ⟨h.stamps, h.keys, h.size, fun i x hx => ?_⟩
 obtain ⟨e, us, ws, q1, q2, q3, q4, q5⟩ := h.at_ i x hx
 exact ⟨e, us, ws, q1, q2.mono hF, q3, q4.mono hF, q5⟩
def CurRep (E : Env) (es : Array MapEntry) (cur : Option (Nat × Nat)) : Prop := ∀ d i, cur = some (d, i) → ∃ q e, E.place d = some q ∧ q.nil = true ∧ es[i]? = some e ∧ e.born = q.cap
theorem CurRep.mono {E E' : Env} (h : E.le E') {es : Array MapEntry} {cur : Option (Nat × Nat)} (k : CurRep E es cur) : CurRep E' es cur := fun d i hc => by
 obtain ⟨q, e, h1, h2⟩ := k d i hc
 exact ⟨q, e, h.place _ _ h1, h2⟩
def EntRep (F : Mem) (a b : Ty) (x : a.den × b.den) (e : MapEntry) : Prop := (∃ us, Rep F a x.1 us ∧ e.key = a.valOf us) ∧ ∃ ws, Rep F b x.2 ws ∧ e.val = b.valOf ws
theorem EntRep.mono {F F' : Mem} (hF : F.le F') {a b : Ty} {x : a.den × b.den} {e : MapEntry} (h : EntRep F a b x e) : EntRep F' a b x e :=
 let ⟨⟨us, h1, h2⟩, ws, h3, h4⟩ := h; ⟨⟨us, h1.mono hF, h2⟩, ws, h3.mono hF, h4⟩
inductive EntsAt (F : Mem) (a b : Ty) : List (a.den × b.den) → List MapEntry → Prop
 | nil : EntsAt F a b [] []
 | cons {x : a.den × b.den} {e : MapEntry} {m : List (a.den × b.den)} {l : List MapEntry} (h : EntRep F a b x e) (k : EntsAt F a b m l) : EntsAt F a b (x :: m) (e :: l)
theorem EntsAt.mono {F F' : Mem} (hF : F.le F') {a b : Ty} {m : List (a.den × b.den)} {l : List MapEntry} (h : EntsAt F a b m l) : EntsAt F' a b m l := by
 induction h with
 | nil => exact .nil
 | cons h k ih => exact .cons (h.mono hF) ih
def IterRep (F : Mem) (a b : Ty) (todo : List (a.den × b.den)) (cur : Option (a.den × b.den)) (mo : Option Nat) (since : Nat) (seen : Array Nat) (last : Nat) : Prop :=
 (mo = none ∧ todo = [] ∧ cur = none) ∨ ∃ mb es cl les, mo = some mb ∧ F mb = some (.map es cl) ∧ Stamps es cl ∧ since = cl ∧ last = cl ∧ les.Perm (leftOf es seen).toList ∧ EntsAt F a b todo les ∧
  ∀ x, cur = some x → ∃ e ∈ es.toList, seen.back? = some e.born ∧ EntRep F a b x e
theorem IterRep.mono {F F' : Mem} (hF : F.le F') {a b : Ty} {todo : List (a.den × b.den)} {cur : Option (a.den × b.den)} {mo : Option Nat} {since : Nat} {seen : Array Nat} {last : Nat} (h : IterRep F a b todo cur mo since seen last) : IterRep F' a b todo cur mo since seen last := by
 rcases h with h | ⟨mb, es, cl, les, h1, h2, h3, h4, h5, h6, h7, h8⟩
 ·exact .inl h
 ·refine .inr ⟨mb, es, cl, les, h1, hF _ _ h2, h3, h4, h5, h6, h7.mono hF, fun x hx => ?_⟩
  obtain ⟨e, k1, k2, k3⟩ := h8 x hx
  exact ⟨e, k1, k2, k3.mono hF⟩
def BRep (E : Env) (w : World) (p : Place) : Blk → Prop
 | .cells cs => p.nil = false ∧ ∃ vs e, w.heap[p.blk]? = some (.cells vs e (0, 0)) ∧ CReps E cs vs.toList
 | .row fro e t xs => (p.nil = true ∧ xs = [] ∧ p.len = 0) ∨ (p.nil = false ∧ BRow E w p fro e t xs)
 | .fcells t x => p.nil = false ∧ ∃ vs e, w.heap[p.blk]? = some (.cells vs e (0, 0)) ∧ E.F p.blk = some (.cells vs e (0, 0)) ∧ Rep E.F t x vs.toList
 | .map fro a b m cur => p.nil = false ∧ ∃ es cl, w.heap[p.blk]? = some (.map es cl) ∧ (fro = true → E.F p.blk = some (.map es cl)) ∧ MapRep E.F a b m es cl ∧ CurRep E es cur
 | .iter a b todo cur => p.nil = false ∧ ∃ mo since seen last, w.heap[p.blk]? = some (.mapIter mo since seen last) ∧ IterRep E.F a b todo cur mo since seen last
theorem BRow.mono {E E' : Env} (h : E.le E') {w : World} {p : Place} {fro : Bool} {e : Nat} {t : Ty} {xs : List t.den} (k : BRow E w p fro e t xs) : BRow E' w p fro e t xs := by
 obtain ⟨h0, h1, vs, h2, h3, h4, h5⟩ := k
 refine ⟨h0, h1, vs, h2, h3, fun hf => h.F _ _ (h4 hf), fun i x hx => ?_⟩
 obtain ⟨us, k1, k2⟩ := h5 i x hx
 exact ⟨us, k1.mono h.F, k2⟩
theorem BRep.mono {E E' : Env} (h : E.le E') {w : World} {p : Place} {B : Blk} (k : BRep E w p B) : BRep E' w p B := by
 cases B with
 | cells cs => obtain ⟨h0, vs, e, h1, h2⟩ := k; exact ⟨h0, vs, e, h1, h2.mono h⟩
 | row fro e t xs => exact k.imp id fun k => ⟨k.1, k.2.mono h⟩
 | fcells t x => obtain ⟨h0, vs, e, h1, h2, h3⟩ := k; exact ⟨h0, vs, e, h1, h.F _ _ h2, h3.mono h.F⟩
 | map fro a b m cur => obtain ⟨h0, es, cl, h1, h2, h3, h4⟩ := k; exact ⟨h0, es, cl, h1, fun hf => h.F _ _ (h2 hf), h3.mono h.F, h4.mono h⟩
 | iter a b todo cur => obtain ⟨h0, mo, si, se, la, h1, h2⟩ := k; exact ⟨h0, mo, si, se, la, h1, h2.mono h.F⟩
theorem BRep.world {E : Env} {w w' : World} {p : Place} {B : Blk} (k : BRep E w p B) (h : p.nil = false → w'.heap[p.blk]? = w.heap[p.blk]?) : BRep E w' p B := by
 cases B with
 | cells cs => obtain ⟨h0, vs, e, h1, h2⟩ := k; exact ⟨h0, vs, e, by rw [h h0]; exact h1, h2⟩
 | row fro e t xs =>
  rcases k with k | ⟨hn, h0, h1, vs, h2, h3⟩
  ·exact .inl k
  ·exact .inr ⟨hn, h0, h1, vs, by rw [h hn]; exact h2, h3⟩
 | fcells t x => obtain ⟨h0, vs, e, h1, h2⟩ := k; exact ⟨h0, vs, e, by rw [h h0]; exact h1, h2⟩
 | map fro a b m cur => obtain ⟨h0, es, cl, h1, h2⟩ := k; exact ⟨h0, es, cl, by rw [h h0]; exact h1, h2⟩
 | iter a b todo cur => obtain ⟨h0, mo, si, se, la, h1, h2⟩ := k; exact ⟨h0, mo, si, se, la, by rw [h h0]; exact h1, h2⟩
end Go.Vc
end

section
set_option linter.unusedVariables false
set_option linter.unusedSimpArgs false
namespace Go.Vc
open Go
def find {α : Type} : List (Nat × α) → Nat → Option α
 | [], _ => none
 | (m, a) :: l, n => match Nat.beq m n with
  | true => some a
  | false => find l n
def rem {α : Type} : List (Nat × α) → Nat → List (Nat × α)
 | [], _ => []
 | (m, a) :: l, n => match Nat.beq m n with
  | true => rem l n
  | false => (m, a) :: rem l n
def put {α : Type} (l : List (Nat × α)) (n : Nat) (a : α) : List (Nat × α) := (n, a) :: rem l n
def has : List Nat → Nat → Bool
 | [], _ => false
 | m :: l, n => match Nat.beq m n with
  | true => true
  | false => has l n
theorem has_mem : ∀ {l : List Nat} {n : Nat}, has l n = true ↔ n ∈ l
 | [], n => by simp [has]
 | m :: l, n => by
  unfold has
  split
  ·rename_i h; simp [Nat.eq_of_beq_eq_true h]
  ·rename_i h
   have : m ≠ n := fun e => by subst e; simp at h
   rw [has_mem (l := l)]
   simp [this.symm]
theorem find_rem_same {α : Type} : ∀ (l : List (Nat × α)) (n : Nat), find (rem l n) n = none
 | [], _ => rfl
 | (m, a) :: l, n => by
  unfold rem
  split
  ·exact find_rem_same l n
  ·rename_i h; unfold find; rw [h]; exact find_rem_same l n
theorem find_rem_other {α : Type} : ∀ (l : List (Nat × α)) (n k : Nat), n ≠ k → find (rem l n) k = find l k
 | [], _, _, _ => rfl
 | (m, a) :: l, n, k, h => by
  unfold rem
  split
  ·rename_i hb
   have e := Nat.eq_of_beq_eq_true hb
   subst e
   rw [find_rem_other l m k h, find]
   split
   ·rename_i hk; exact absurd (Nat.eq_of_beq_eq_true hk) h
   ·rfl
  ·simp only [find]; rw [find_rem_other l n k h]
theorem find_rem_some {α : Type} {l : List (Nat × α)} {n k : Nat} {a : α} (h : find (rem l n) k = some a) : find l k = some a ∧ n ≠ k := by
 by_cases e : n = k
 ·subst e; rw [find_rem_same] at h; cases h
 ·rw [find_rem_other _ _ _ e] at h; exact ⟨h, e⟩
theorem find_put_same {α : Type} (l : List (Nat × α)) (n : Nat) (a : α) : find (put l n a) n = some a := by
 simp [put, find]
theorem find_put_other {α : Type} (l : List (Nat × α)) (n k : Nat) (a : α) (h : n ≠ k) : find (put l n a) k = find l k := by
 simp only [put, find]
 split
 ·rename_i hk; exact absurd (Nat.eq_of_beq_eq_true hk) h
 ·exact find_rem_other l n k h
abbrev Tags := List (Nat × Bool)
structure St where
 sl : List (Nat × (Tags × SV))
 bl : List (Nat × Blk)
 used : List Nat
 n : Nat
 pin : List Nat := []
def natsEq : List Nat → List Nat → Bool
 | [], [] => true
 | m :: l, n :: k => Nat.beq m n && natsEq l k
 | _, _ => false
theorem natsEq_eq : ∀ {l k : List Nat}, natsEq l k = true → l = k
 | [], [], _ => rfl
 | m :: l, n :: k, h => by
  simp only [natsEq, Bool.and_eq_true] at h
  rw [Nat.eq_of_beq_eq_true h.1, natsEq_eq h.2]
 | [], _ :: _, h => by cases h
 | _ :: _, [], h => by cases h
inductive Loc where
 | slot (n : Nat)
 | blk (n : Nat)
def Loc.beq : Loc → Loc → Bool
 | .slot a, .slot b => Nat.beq a b
 | .blk a, .blk b => Nat.beq a b
 | _, _ => false
theorem Loc.beq_eq {a b : Loc} (h : a.beq b = true) : a = b := by
 cases a <;> cases b <;> simp [Loc.beq] at h <;> simp_all
theorem Loc.beq_refl (a : Loc) : a.beq a = true := by cases a <;> simp [Loc.beq]
inductive RM (α : Type) where
 | ret (a : α)
 | fail
 | slot (ex : Tags) (n : Nat) (k : SV → RM α)
 | blk (n : Nat) (k : Blk → RM α)
def RM.bind {α β : Type} : RM α → (α → RM β) → RM β
 | .ret a, f => f a
 | .fail, _ => .fail
 | .slot ex n k, f => .slot ex n fun v => (k v).bind f
 | .blk n k, f => .blk n fun v => (k v).bind f
instance : Monad RM where
 pure := RM.ret
 bind := RM.bind
def tagIn : Tags → Nat × Bool → Bool
 | [], _ => false
 | (m, b) :: l, t => match Nat.beq m t.1 && (b == t.2) with
  | true => true
  | false => tagIn l t
def tagsIn (l : Tags) : Tags → Bool
 | [] => true
 | t :: ts => match tagIn l t with
  | true => tagsIn l ts
  | false => false
def RM.run {α : Type} (S : St) (ctx : Tags) : RM α → Option α
 | .ret a => some a
 | .fail => none
 | .slot ex n k => match find S.sl n with
  | some (tags, v) => (match tagsIn (ex ++ ctx) tags with
   | true => (k v).run S ctx
   | false => none)
  | none => none
 | .blk n k => match find S.bl n with
  | some B => (k B).run S ctx
  | none => none
def RM.reads {α : Type} (S : St) (ctx : Tags) : RM α → List Loc
 | .ret _ => []
 | .fail => []
 | .slot _ n k => .slot n :: (match find S.sl n with
  | some (_, v) => (k v).reads S ctx
  | none => [])
 | .blk n k => .blk n :: (match find S.bl n with
  | some B => (k B).reads S ctx
  | none => [])
def Agree (S S' : St) : Loc → Prop
 | .slot n => find S'.sl n = find S.sl n
 | .blk n => find S'.bl n = find S.bl n
theorem RM.run_agree {α : Type} {S S' : St} {ctx : Tags} : ∀ {m : RM α}, (∀ l ∈ m.reads S ctx, Agree S S' l) → m.run S' ctx = m.run S ctx
 | .ret _, _ => rfl
 | .fail, _ => rfl
 | .slot ex n k, h => by
  have h0 : find S'.sl n = find S.sl n := h (.slot n) (by simp [RM.reads])
  simp only [RM.run, h0]
  cases hf : find S.sl n with
  | none => rfl
  | some x =>
   obtain ⟨tags, v⟩ := x
   simp only
   split
   ·refine RM.run_agree fun l hl => h l ?_
    simp only [RM.reads, hf]
    exact List.mem_cons_of_mem _ hl
   ·rfl
 | .blk n k, h => by
  have h0 : find S'.bl n = find S.bl n := h (.blk n) (by simp [RM.reads])
  simp only [RM.run, h0]
  cases hf : find S.bl n with
  | none => rfl
  | some B =>
   refine RM.run_agree fun l hl => h l ?_
   simp only [RM.reads, hf]
   exact List.mem_cons_of_mem _ hl
theorem RM.run_bind {α β : Type} {S : St} {ctx : Tags} : ∀ {m : RM α} {f : α → RM β} {b : β}, (m.bind f).run S ctx = some b → ∃ a, m.run S ctx = some a ∧ (f a).run S ctx = some b
 | .ret a, f, b, h => ⟨a, rfl, h⟩
 | .fail, f, b, h => by cases h
 | .slot ex n k, f, b, h => by
  simp only [RM.bind, RM.run] at h ⊢
  split at h
  ·split at h
   ·obtain ⟨a, h1, h2⟩ := RM.run_bind h
    exact ⟨a, h1, h2⟩
   ·cases h
  ·cases h
 | .blk n k, f, b, h => by
  simp only [RM.bind, RM.run] at h ⊢
  split at h
  ·exact RM.run_bind h
  ·cases h
theorem RM.run_bind' {α β : Type} {S : St} {ctx : Tags} {m : RM α} {f : α → RM β} {b : β} (h : (m >>= f).run S ctx = some b) : ∃ a, m.run S ctx = some a ∧ (f a).run S ctx = some b := RM.run_bind h
theorem RM.run_pure' {α : Type} {S : St} {ctx : Tags} {a b : α} (h : (pure a : RM α).run S ctx = some b) : a = b := Option.some.inj h
theorem tagIn_mem : ∀ {l : Tags} {t : Nat × Bool}, tagIn l t = true → t ∈ l
 | [], _, h => by cases h
 | (m, b) :: l, t, h => by
  unfold tagIn at h
  split at h
  ·rename_i hb
   simp only [Bool.and_eq_true, beq_iff_eq] at hb
   have := Nat.eq_of_beq_eq_true hb.1
   obtain ⟨t1, t2⟩ := t
   simp only at this hb
   rw [← this, ← hb.2]
   exact List.mem_cons_self
  ·exact List.mem_cons_of_mem _ (tagIn_mem h)
theorem tagsIn_mem {l : Tags} : ∀ {ts : Tags}, tagsIn l ts = true → ∀ t ∈ ts, t ∈ l
 | [], _, t, ht => by cases ht
 | t' :: ts, h, t, ht => by
  unfold tagsIn at h
  split at h
  ·rename_i hb
   rcases List.mem_cons.1 ht with rfl | ht
   ·exact tagIn_mem hb
   ·exact tagsIn_mem h t ht
  ·cases h
def TagsHold (a : Act) (ts : Tags) : Prop := ∀ t ∈ ts, a.tmps[t.1]? = some (.bool t.2)
structure Foot where
 at_ : Nat → Prop
 pin : Nat → Option Place := fun _ => none
instance : CoeFun Foot (fun _ => Nat → Prop) := ⟨Foot.at_⟩
def noFoot : Foot := ⟨fun _ => False, fun _ => none⟩
structure Keep (foot : Nat → Prop) (w w' : World) : Prop where
 os : w'.os = w.os
 tape : w'.tape = w.tape
 output : w'.output = w.output
 size : w.heap.size ≤ w'.heap.size
 block : ∀ k, k < w.heap.size → ¬ foot k → w'.heap[k]? = w.heap[k]?
theorem Keep.refl (foot : Nat → Prop) (w : World) : Keep foot w w := ⟨rfl, rfl, rfl, Nat.le_refl _, fun _ _ _ => rfl⟩
theorem Keep.trans {foot : Nat → Prop} {a b c : World} (h : Keep foot a b) (k : Keep foot b c) : Keep foot a c :=
 ⟨k.os.trans h.os, k.tape.trans h.tape, k.output.trans h.output, Nat.le_trans h.size k.size, fun i hi hf => (k.block i (Nat.lt_of_lt_of_le hi h.size) hf).trans (h.block i hi hf)⟩
def Blk.mut : Blk → Bool
 | .cells _ => true
 | .row fro _ _ _ => !fro
 | .fcells _ _ => false
 | .map fro _ _ _ _ => !fro
 | .iter _ _ _ _ => true
structure HRel (w0 : World) (foot : Foot) (base : Mem) (bl : List (Nat × Blk)) (used : List Nat) (E : Env) (w : World) : Prop where
 keep : Keep foot.at_ w0 w
 frz : ∀ b o, E.F b = some o → w.heap[b]? = some o
 src : ∀ b o, E.F b = some o → base b = some o ∨ w0.heap.size ≤ b ∨ foot b
 blks : ∀ id B, find bl id = some B → ∃ p, E.place id = some p ∧ BRep E w p B
 own : ∀ id B p, find bl id = some B → E.place id = some p → p.nil = false → (w0.heap.size ≤ p.blk ∨ foot p.blk) ∧ (B.mut = true → E.F p.blk = none)
 inj : ∀ id id' B B' p p', find bl id = some B → find bl id' = some B' → E.place id = some p → E.place id' = some p' → p.nil = false → p'.nil = false → id ≠ id' → p.blk ≠ p'.blk
 used : ∀ id p, E.place id = some p → id ∈ used
structure SRel (w0 : World) (foot : Foot) (base : Mem) (S : St) (E : Env) (a : Act) (w : World) : Prop extends HRel w0 foot base S.bl S.used E w where
 slots : ∀ n ts v, find S.sl n = some (ts, v) → TagsHold a ts → SRep E v (a.tmps.getD n undef)
 size : a.tmps.size = S.n
 defers : a.defers = []
 pins : ∀ n p, foot.pin n = some p → n ∈ S.pin ∧ E.place n = some p
theorem HRel.congr {w0 : World} {foot : Foot} {base : Mem} {bl bl' : List (Nat × Blk)} {used used' : List Nat} {E : Env} {w : World}
  (h : HRel w0 foot base bl used E w) (hb : ∀ id B, find bl' id = some B → find bl id = some B) (hu : ∀ i, i ∈ used → i ∈ used') : HRel w0 foot base bl' used' E w :=
 ⟨h.keep, h.frz, h.src, fun id B hf => h.blks id B (hb _ _ hf), fun id B p hf => h.own id B p (hb _ _ hf), fun id id' B B' p p' hf hf' => h.inj id id' B B' p p' (hb _ _ hf) (hb _ _ hf'), fun id p hp => hu _ (h.used id p hp)⟩
theorem HRel.drew {w0 : World} {foot : Foot} {base : Mem} {bl : List (Nat × Blk)} {used : List Nat} {E : Env} {w : World} (h : HRel w0 foot base bl used E w) (n : Nat) :
  HRel w0 foot base bl used E { w with drawn := n } :=
 ⟨⟨h.keep.os, h.keep.tape, h.keep.output, h.keep.size, h.keep.block⟩, h.frz, h.src, fun id B hf => by
  obtain ⟨p, hp, hB⟩ := h.blks id B hf
  exact ⟨p, hp, hB.world fun _ => rfl⟩, h.own, h.inj, h.used⟩
theorem heap_lt {w : World} {b : Nat} {o : Obj} (h : w.heap[b]? = some o) : b < w.heap.size := by
 rcases Nat.lt_or_ge b w.heap.size with h' | h'
 ·exact h'
 ·rw [Array.getElem?_eq_none h'] at h; cases h
theorem BRep.lt {E : Env} {w : World} {p : Place} {B : Blk} (k : BRep E w p B) (hn : p.nil = false) : p.blk < w.heap.size := by
 cases B with
 | cells cs => obtain ⟨_, vs, e, h, _⟩ := k; exact heap_lt h
 | fcells t x => obtain ⟨_, vs, e, h, _⟩ := k; exact heap_lt h
 | map fro a b m cur => obtain ⟨_, es, cl, h, _⟩ := k; exact heap_lt h
 | iter a b todo cur => obtain ⟨_, _, _, _, _, h, _⟩ := k; exact heap_lt h
 | row fro e t xs =>
  rcases k with ⟨k, _, _⟩ | ⟨_, _, _, vs, h, _⟩
  ·rw [hn] at k; cases k
  ·exact heap_lt h
def Env.new (E : Env) (id : Nat) (p : Place) : Env := { E with place := fun b => if b = id then some p else E.place b }
theorem Env.new_le {E : Env} {id : Nat} {p : Place} (h : E.place id = none) : E.le (E.new id p) :=
 ⟨.refl _, fun b q hb => by
  unfold Env.new
  simp only
  split
  ·rename_i e; subst e; rw [h] at hb; cases hb
  ·exact hb⟩
theorem Env.new_same {E : Env} {id : Nat} {p : Place} : (E.new id p).place id = some p := by simp [Env.new]
theorem Env.new_other {E : Env} {id b : Nat} {p : Place} (h : b ≠ id) : (E.new id p).place b = E.place b := by simp [Env.new, h]
theorem alloc_other {w : World} {o : Obj} {k : Nat} (h : k < w.heap.size) : (w.alloc o).heap[k]? = w.heap[k]? := Go.RowKit.Below.heap_alloc _ _ _ h
theorem alloc_same {w : World} {o : Obj} : (w.alloc o).heap[w.heap.size]? = some o := by show (w.heap.push o)[w.heap.size]? = _; simp
theorem HRel.alloc {w0 : World} {foot : Foot} {base : Mem} {bl : List (Nat × Blk)} {used : List Nat} {E : Env} {w : World} (h : HRel w0 foot base bl used E w)
  {id : Nat} {p : Place} {B : Blk} {o : Obj} (hid : id ∉ used) (hp : p.nil = false → p.blk = w.heap.size)
  (hB : BRep (E.new id p) (w.alloc o) p B) : HRel w0 foot base (put bl id B) (id :: used) (E.new id p) (w.alloc o) := by
 have hnone : E.place id = none := by
  cases he : E.place id with
  | none => rfl
  | some q => exact absurd (h.used id q he) hid
 have hle := Env.new_le (p := p) hnone
 have hF : E.F w.heap.size = none := by
  cases he : E.F w.heap.size with
  | none => rfl
  | some o => have := heap_lt (h.frz _ _ he); omega
 have hbl : ∀ i B', i ≠ id → find (put bl id B) i = some B' → find bl i = some B' := fun i B' hi hf => by rwa [find_put_other _ _ _ _ (Ne.symm hi)] at hf
 refine ⟨h.keep.trans ⟨rfl, rfl, rfl, by simp, fun k hk _ => alloc_other hk⟩, fun b o hb => ?_, h.src, fun i B' hf => ?_, fun i B' q hf hq hn => ?_, fun i j B' B'' q q' hf hf' hq hq' hn hn' hij => ?_, fun i q hq => ?_⟩
 ·have := h.frz b o hb
  rw [alloc_other (heap_lt this)]
  exact this
 ·by_cases hi : i = id
  ·subst hi
   rw [find_put_same] at hf
   cases hf
   exact ⟨p, Env.new_same, hB⟩
  ·obtain ⟨q, hq, k⟩ := h.blks i B' (hbl i B' hi hf)
   exact ⟨q, hle.place _ _ hq, (k.mono hle).world fun hn => alloc_other (k.lt hn)⟩
 ·by_cases hi : i = id
  ·subst hi
   rw [Env.new_same] at hq
   cases hq
   rw [hp hn]
   exact ⟨.inl h.keep.size, fun _ => hF⟩
  ·rw [Env.new_other hi] at hq
   exact h.own i B' q (hbl i B' hi hf) hq hn
 ·have old : ∀ i B' q, i ≠ id → find (put bl id B) i = some B' → (E.new id p).place i = some q → q.nil = false → q.blk < w.heap.size := fun i B' q hi hf hq hn => by
   rw [Env.new_other hi] at hq
   obtain ⟨q', hq', k⟩ := h.blks i B' (hbl i B' hi hf)
   rw [hq] at hq'
   cases hq'
   exact k.lt hn
  by_cases hi : i = id
  ·have hj : j ≠ id := fun e => hij (hi.trans e.symm)
   have := old j B'' q' hj hf' hq' hn'
   subst hi
   rw [Env.new_same] at hq
   cases hq
   have := hp hn
   omega
  ·by_cases hj : j = id
   ·have := old i B' q hi hf hq hn
    subst hj
    rw [Env.new_same] at hq'
    cases hq'
    have := hp hn'
    omega
   ·rw [Env.new_other hi] at hq
    rw [Env.new_other hj] at hq'
    exact h.inj i j B' B'' q q' (hbl i B' hi hf) (hbl j B'' hj hf') hq hq' hn hn' hij
 ·by_cases hi : i = id
  ·exact hi ▸ List.mem_cons_self
  ·rw [Env.new_other hi] at hq
   exact List.mem_cons_of_mem _ (h.used i q hq)
theorem HRel.nilrow {w0 : World} {foot : Foot} {base : Mem} {bl : List (Nat × Blk)} {used : List Nat} {E : Env} {w : World} (h : HRel w0 foot base bl used E w)
  {id : Nat} {p : Place} {B : Blk} (hid : id ∉ used) (hp : p.nil = true) (hB : BRep (E.new id p) w p B) : HRel w0 foot base (put bl id B) (id :: used) (E.new id p) w := by
 have hnone : E.place id = none := by
  cases he : E.place id with
  | none => rfl
  | some q => exact absurd (h.used id q he) hid
 have hle := Env.new_le (p := p) hnone
 have hbl : ∀ i B', i ≠ id → find (put bl id B) i = some B' → find bl i = some B' := fun i B' hi hf => by rwa [find_put_other _ _ _ _ (Ne.symm hi)] at hf
 have ne : ∀ i q, (E.new id p).place i = some q → q.nil = false → i ≠ id := fun i q hq hn e => by
  subst e; rw [Env.new_same] at hq; cases hq; rw [hp] at hn; cases hn
 refine ⟨h.keep, h.frz, h.src, fun i B' hf => ?_, fun i B' q hf hq hn => ?_, fun i j B' B'' q q' hf hf' hq hq' hn hn' hij => ?_, fun i q hq => ?_⟩
 ·by_cases hi : i = id
  ·subst hi
   rw [find_put_same] at hf
   cases hf
   exact ⟨p, Env.new_same, hB⟩
  ·obtain ⟨q, hq, k⟩ := h.blks i B' (hbl i B' hi hf)
   exact ⟨q, hle.place _ _ hq, k.mono hle⟩
 ·have hi := ne i q hq hn
  rw [Env.new_other hi] at hq
  exact h.own i B' q (hbl i B' hi hf) hq hn
 ·have hi := ne i q hq hn
  have hj := ne j q' hq' hn'
  rw [Env.new_other hi] at hq
  rw [Env.new_other hj] at hq'
  exact h.inj i j B' B'' q q' (hbl i B' hi hf) (hbl j B'' hj hf') hq hq' hn hn' hij
 ·by_cases hi : i = id
  ·exact hi ▸ List.mem_cons_self
  ·rw [Env.new_other hi] at hq
   exact List.mem_cons_of_mem _ (h.used i q hq)
def setBlk (w : World) (b : Nat) (o : Obj) : World := { w with heap := w.heap.setIfInBounds b o }
theorem setBlk_same {w : World} {b : Nat} {o : Obj} (h : b < w.heap.size) : (setBlk w b o).heap[b]? = some o := by simp [setBlk, h]
theorem setBlk_other {w : World} {b k : Nat} {o : Obj} (h : k ≠ b) : (setBlk w b o).heap[k]? = w.heap[k]? := by
 simp [setBlk, Array.getElem?_setIfInBounds_ne (Ne.symm h)]
theorem HRel.write {w0 : World} {foot : Foot} {base : Mem} {bl : List (Nat × Blk)} {used : List Nat} {E : Env} {w : World} (h : HRel w0 foot base bl used E w)
  {id : Nat} {p : Place} {B B' : Blk} {o : Obj} (hf : find bl id = some B) (hp : E.place id = some p) (hn : p.nil = false) (hm : B.mut = true)
  (hB : BRep E (setBlk w p.blk o) p B') : HRel w0 foot base (put bl id B') used E (setBlk w p.blk o) := by
 have hlt : p.blk < w.heap.size := by
  obtain ⟨q, hq, k⟩ := h.blks id B hf
  rw [hp] at hq; cases hq
  exact k.lt hn
 have hown := h.own id B p hf hp hn
 have hbl : ∀ i B'', i ≠ id → find (put bl id B') i = some B'' → find bl i = some B'' := fun i B' hi hf => by rwa [find_put_other _ _ _ _ (Ne.symm hi)] at hf
 have any : ∀ i B'', find (put bl id B') i = some B'' → ∃ B₀, find bl i = some B₀ := fun i B'' hf' => by
  by_cases hi : i = id
  ·exact hi ▸ ⟨B, hf⟩
  ·exact ⟨B'', hbl i B'' hi hf'⟩
 refine ⟨⟨h.keep.os, h.keep.tape, h.keep.output, Nat.le_trans h.keep.size (by simp [setBlk]), fun k hk hfk => (setBlk_other fun e => ?_).trans (h.keep.block k hk hfk)⟩, fun b o' hb => ?_, h.src, fun i B'' hf' => ?_, fun i B'' q hf' hq hn' => ?_, fun i j B₁ B₂ q q' h1 h2 hq hq' hn hn' hij => ?_, h.used⟩
 ·subst e
  rcases hown.1 with h1 | h1
  ·omega
  ·exact hfk h1
 ·have hb' := h.frz b o' hb
  rw [setBlk_other]
  ·exact hb'
  ·rintro rfl
   rw [hown.2 hm] at hb
   cases hb
 ·by_cases hi : i = id
  ·subst hi
   rw [find_put_same] at hf'
   cases hf'
   exact ⟨p, hp, hB⟩
  ·obtain ⟨q, hq, k⟩ := h.blks i B'' (hbl i B'' hi hf')
   refine ⟨q, hq, k.world fun hn' => setBlk_other ?_⟩
   exact h.inj i id B'' B q p (hbl i B'' hi hf') hf hq hp hn' hn hi
 ·by_cases hi : i = id
  ·subst hi
   rw [hp] at hq
   cases hq
   exact ⟨hown.1, fun _ => hown.2 hm⟩
  ·exact h.own i B'' q (hbl i B'' hi hf') hq hn'
 ·obtain ⟨B₁', h1'⟩ := any i B₁ h1
  obtain ⟨B₂', h2'⟩ := any j B₂ h2
  exact h.inj i j B₁' B₂' q q' h1' h2' hq hq' hn hn' hij
theorem HRel.freeze {w0 : World} {foot : Foot} {base : Mem} {bl : List (Nat × Blk)} {used : List Nat} {E : Env} {w : World} (h : HRel w0 foot base bl used E w)
  {id : Nat} {fro : Bool} {e : Nat} {t : Ty} {xs : List t.den} (hf : find bl id = some (.row fro e t xs)) :
  ∃ E', E.le E' ∧ E'.place = E.place ∧ (∀ b o, E'.F b = some o → E.F b = some o ∨ (w.heap[b]? = some o ∧ (∃ p, E.place id = some p ∧ p.nil = false ∧ p.blk = b))) ∧ HRel w0 foot base (put bl id (.row true e t xs)) used E' w := by
 obtain ⟨p, hp, hB⟩ := h.blks id _ hf
 rcases hB with ⟨hn, hx, hl⟩ | ⟨hn, h0, h1, vs, h2, h3, h4, h5⟩
 ·refine ⟨E, .refl _, rfl, fun b o hb => .inl hb, ⟨h.keep, h.frz, h.src, fun i B' hf' => ?_, fun i B' q hf' hq hn' => ?_, fun i j B₁ B₂ q q' h1 h2 hq hq' hn hn' hij => ?_, h.used⟩⟩
  ·by_cases hi : i = id
   ·subst hi; rw [find_put_same] at hf'; cases hf'; exact ⟨p, hp, .inl ⟨hn, hx, hl⟩⟩
   ·rw [find_put_other _ _ _ _ (Ne.symm hi)] at hf'; exact h.blks i B' hf'
  ·by_cases hi : i = id
   ·subst hi; rw [hp] at hq; cases hq; rw [hn] at hn'; cases hn'
   ·rw [find_put_other _ _ _ _ (Ne.symm hi)] at hf'; exact h.own i B' q hf' hq hn'
  ·have any : ∀ i B'', find (put bl id (Blk.row true e t xs)) i = some B'' → ∃ B₀, find bl i = some B₀ := fun i B'' hf' => by
    by_cases hi : i = id
    ·exact hi ▸ ⟨_, hf⟩
    ·rw [find_put_other _ _ _ _ (Ne.symm hi)] at hf'; exact ⟨_, hf'⟩
   obtain ⟨_, h1'⟩ := any i B₁ h1
   obtain ⟨_, h2'⟩ := any j B₂ h2
   exact h.inj i j _ _ q q' h1' h2' hq hq' hn hn' hij
 ·have hle : E.le { E with F := fun b => if b = p.blk then some (.cells vs e (0, 0)) else E.F b } := by
   refine ⟨fun b o hb => ?_, fun _ _ h => h⟩
   simp only
   split
   ·rename_i hb'
    subst hb'
    rw [← h.frz _ _ hb, h2]
   ·exact hb
  refine ⟨_, hle, rfl, fun b o hb => ?_, ⟨h.keep, fun b o hb => ?_, fun b o hb => ?_, fun i B' hf' => ?_, fun i B' q hf' hq hn' => ?_, fun i j B₁ B₂ q q' h1 h2 hq hq' hn hn' hij => ?_, h.used⟩⟩
  ·simp only at hb
   split at hb
   ·rename_i hb'; subst hb'; cases hb; exact .inr ⟨h2, p, hp, hn, rfl⟩
   ·exact .inl hb
  ·simp only at hb
   split at hb
   ·rename_i hb'; subst hb'; cases hb; exact h2
   ·exact h.frz _ _ hb
  ·simp only at hb
   split at hb
   ·rename_i hb'; subst hb'; exact .inr (h.own id _ p hf hp hn).1
   ·exact h.src _ _ hb
  ·by_cases hi : i = id
   ·subst hi
    rw [find_put_same] at hf'
    cases hf'
    refine ⟨p, hp, .inr ⟨hn, h0, h1, vs, h2, h3, fun _ => by simp, fun j x hx => ?_⟩⟩
    obtain ⟨us, k1, k2⟩ := h5 j x hx
    exact ⟨us, k1.mono hle.F, k2⟩
   ·rw [find_put_other _ _ _ _ (Ne.symm hi)] at hf'
    obtain ⟨q, hq, k⟩ := h.blks i B' hf'
    exact ⟨q, hq, k.mono hle⟩
  ·by_cases hi : i = id
   ·subst hi
    rw [find_put_same] at hf'
    cases hf'
    exact ⟨(h.own i _ q hf hq hn').1, fun hm => by simp [Blk.mut] at hm⟩
   ·rw [find_put_other _ _ _ _ (Ne.symm hi)] at hf'
    refine ⟨(h.own i B' q hf' hq hn').1, fun hm => ?_⟩
    simp only
    rw [if_neg (h.inj i id B' _ q p hf' hf hq hp hn' hn hi)]
    exact (h.own i B' q hf' hq hn').2 hm
  ·have any : ∀ i B'', find (put bl id (Blk.row true e t xs)) i = some B'' → ∃ B₀, find bl i = some B₀ := fun i B'' hf' => by
    by_cases hi : i = id
    ·exact hi ▸ ⟨_, hf⟩
    ·rw [find_put_other _ _ _ _ (Ne.symm hi)] at hf'; exact ⟨_, hf'⟩
   obtain ⟨_, h1'⟩ := any i B₁ h1
   obtain ⟨_, h2'⟩ := any j B₂ h2
   exact h.inj i j _ _ q q' h1' h2' hq hq' hn hn' hij
theorem HRel.freezeCells {w0 : World} {foot : Foot} {base : Mem} {bl : List (Nat × Blk)} {used : List Nat} {E : Env} {w : World} (h : HRel w0 foot base bl used E w)
  {id : Nat} {cs : List C} {t : Ty} {x : t.den} (hf : find bl id = some (.cells cs)) (hr : ∀ vs : List Value, CReps E cs vs → Rep E.F t x vs) :
  ∃ E', E.le E' ∧ E'.place = E.place ∧ (∀ b o, E'.F b = some o → E.F b = some o ∨ (w.heap[b]? = some o ∧ (∃ p, E.place id = some p ∧ p.nil = false ∧ p.blk = b))) ∧ HRel w0 foot base (put bl id (.fcells t x)) used E' w := by
 obtain ⟨p, hp, hB⟩ := h.blks id _ hf
 obtain ⟨hn, vs, e, h2, h3⟩ := hB
 have hle : E.le { E with F := fun b => if b = p.blk then some (.cells vs e (0, 0)) else E.F b } := by
  refine ⟨fun b o hb => ?_, fun _ _ h => h⟩
  simp only
  split
  ·rename_i hb'
   subst hb'
   rw [← h.frz _ _ hb, h2]
  ·exact hb
 refine ⟨_, hle, rfl, fun b o hb => ?_, ⟨h.keep, fun b o hb => ?_, fun b o hb => ?_, fun i B' hf' => ?_, fun i B' q hf' hq hn' => ?_, fun i j B₁ B₂ q q' h1 h2 hq hq' hn hn' hij => ?_, h.used⟩⟩
 ·simp only at hb
  split at hb
  ·rename_i hb'; subst hb'; cases hb; exact .inr ⟨h2, p, hp, hn, rfl⟩
  ·exact .inl hb
 ·simp only at hb
  split at hb
  ·rename_i hb'; subst hb'; cases hb; exact h2
  ·exact h.frz _ _ hb
 ·simp only at hb
  split at hb
  ·rename_i hb'; subst hb'; exact .inr (h.own id _ p hf hp hn).1
  ·exact h.src _ _ hb
 ·by_cases hi : i = id
  ·subst hi
   rw [find_put_same] at hf'
   cases hf'
   exact ⟨p, hp, hn, vs, e, h2, by simp, (hr _ h3).mono hle.F⟩
  ·rw [find_put_other _ _ _ _ (Ne.symm hi)] at hf'
   obtain ⟨q, hq, k⟩ := h.blks i B' hf'
   exact ⟨q, hq, k.mono hle⟩
 ·by_cases hi : i = id
  ·subst hi
   rw [find_put_same] at hf'
   cases hf'
   exact ⟨(h.own i _ q hf hq hn').1, fun hm => by simp [Blk.mut] at hm⟩
  ·rw [find_put_other _ _ _ _ (Ne.symm hi)] at hf'
   refine ⟨(h.own i B' q hf' hq hn').1, fun hm => ?_⟩
   simp only
   rw [if_neg (h.inj i id B' _ q p hf' hf hq hp hn' hn hi)]
   exact (h.own i B' q hf' hq hn').2 hm
 ·have any : ∀ i B'', find (put bl id (Blk.fcells t x)) i = some B'' → ∃ B₀, find bl i = some B₀ := fun i B'' hf' => by
   by_cases hi : i = id
   ·exact hi ▸ ⟨_, hf⟩
   ·rw [find_put_other _ _ _ _ (Ne.symm hi)] at hf'; exact ⟨_, hf'⟩
  obtain ⟨_, h1'⟩ := any i B₁ h1
  obtain ⟨_, h2'⟩ := any j B₂ h2
  exact h.inj i j _ _ q q' h1' h2' hq hq' hn hn' hij
theorem HRel.freezeMap {w0 : World} {foot : Foot} {base : Mem} {bl : List (Nat × Blk)} {used : List Nat} {E : Env} {w : World} (h : HRel w0 foot base bl used E w)
  {id : Nat} {fro : Bool} {a b : Ty} {m : List (a.den × b.den)} {cur : Option (Nat × Nat)} (hf : find bl id = some (.map fro a b m cur)) :
  ∃ E', E.le E' ∧ E'.place = E.place ∧ (∀ b o, E'.F b = some o → E.F b = some o ∨ (w.heap[b]? = some o ∧ (∃ p, E.place id = some p ∧ p.nil = false ∧ p.blk = b))) ∧ HRel w0 foot base (put bl id (.map true a b m none)) used E' w := by
 obtain ⟨p, hp, hB⟩ := h.blks id _ hf
 obtain ⟨hn, es, cl, h2, h4, h3, _⟩ := hB
 have hle : E.le { E with F := fun b => if b = p.blk then some (.map es cl) else E.F b } := by
  refine ⟨fun b o hb => ?_, fun _ _ h => h⟩
  simp only
  split
  ·rename_i hb'
   subst hb'
   rw [← h.frz _ _ hb, h2]
  ·exact hb
 refine ⟨_, hle, rfl, fun b o hb => ?_, ⟨h.keep, fun b o hb => ?_, fun b o hb => ?_, fun i B' hf' => ?_, fun i B' q hf' hq hn' => ?_, fun i j B₁ B₂ q q' h1 h2 hq hq' hn hn' hij => ?_, h.used⟩⟩
 ·simp only at hb
  split at hb
  ·rename_i hb'; subst hb'; cases hb; exact .inr ⟨h2, p, hp, hn, rfl⟩
  ·exact .inl hb
 ·simp only at hb
  split at hb
  ·rename_i hb'; subst hb'; cases hb; exact h2
  ·exact h.frz _ _ hb
 ·simp only at hb
  split at hb
  ·rename_i hb'; subst hb'; exact .inr (h.own id _ p hf hp hn).1
  ·exact h.src _ _ hb
 ·by_cases hi : i = id
  ·subst hi
   rw [find_put_same] at hf'
   cases hf'
   exact ⟨p, hp, hn, es, cl, h2, fun _ => by simp, h3.mono hle.F, fun d i h => by cases h⟩
  ·rw [find_put_other _ _ _ _ (Ne.symm hi)] at hf'
   obtain ⟨q, hq, k⟩ := h.blks i B' hf'
   exact ⟨q, hq, k.mono hle⟩
 ·by_cases hi : i = id
  ·subst hi
   rw [find_put_same] at hf'
   cases hf'
   exact ⟨(h.own i _ q hf hq hn').1, fun hm => by simp [Blk.mut] at hm⟩
  ·rw [find_put_other _ _ _ _ (Ne.symm hi)] at hf'
   refine ⟨(h.own i B' q hf' hq hn').1, fun hm => ?_⟩
   simp only
   rw [if_neg (h.inj i id B' _ q p hf' hf hq hp hn' hn hi)]
   exact (h.own i B' q hf' hq hn').2 hm
 ·have any : ∀ i B'', find (put bl id (Blk.map true a b m none)) i = some B'' → ∃ B₀, find bl i = some B₀ := fun i B'' hf' => by
   by_cases hi : i = id
   ·exact hi ▸ ⟨_, hf⟩
   ·rw [find_put_other _ _ _ _ (Ne.symm hi)] at hf'; exact ⟨_, hf'⟩
  obtain ⟨_, h1'⟩ := any i B₁ h1
  obtain ⟨_, h2'⟩ := any j B₂ h2
  exact h.inj i j _ _ q q' h1' h2' hq hq' hn hn' hij
end Go.Vc
end

section
set_option linter.unusedVariables false
set_option linter.unusedSimpArgs false
namespace Go.Vc
open Go
def Ty.scal : Ty → Bool
 | .int _ | .bool | .str => true
 | _ => false
def Ty.scals : Ty → Bool
 | .unit => true
 | .pair a b => a.scal && (b.scal || b.scals)
 | _ => false
def Ty.isKey (t : Ty) : Bool := t.scal || t.scals
def Ty.keq : (t : Ty) → t.den → t.den → Bool
 | .int _, x, y => Ty.I x == Ty.I y
 | .bool, x, y => Ty.B x == Ty.B y
 | .str, x, y => Ty.S x == Ty.S y
 | .unit, _, _ => true
 | .pair a b, x, y => a.keq x.1 y.1 && b.keq x.2 y.2
 | .list _, _, _ => false
 | .ref _, _, _ => false
 | .ptr _, _, _ => false
 | .clo _ _, _, _ => false
 | .map _ _, _, _ => false
theorem Ty.keq_scal : ∀ {t : Ty}, t.scal = true → ∀ (x y : t.den), t.keq x y = true ↔ x = y
 | .int _, _, x, y => beq_iff_eq (α := Int)
 | .bool, _, x, y => beq_iff_eq (α := Bool)
 | .str, _, x, y => beq_iff_eq (α := List UInt8)
theorem Ty.keq_scals : ∀ {t : Ty}, t.scals = true → ∀ (x y : t.den), t.keq x y = true ↔ x = y
 | .unit, _, x, y => ⟨fun _ => rfl, fun _ => rfl⟩
 | .pair a b, h, x, y => by
  simp only [Ty.scals, Bool.and_eq_true, Bool.or_eq_true] at h
  have h2 : b.keq x.2 y.2 = true ↔ x.2 = y.2 := by
   rcases h.2 with h2 | h2
   ·exact Ty.keq_scal h2 x.2 y.2
   ·exact Ty.keq_scals h2 x.2 y.2
  simp only [Ty.keq, Bool.and_eq_true, Ty.keq_scal h.1, h2]
  obtain ⟨x1, x2⟩ := x
  obtain ⟨y1, y2⟩ := y
  simp
theorem Ty.keq_iff {t : Ty} (h : t.isKey = true) (x y : t.den) : t.keq x y = true ↔ x = y := by
 simp only [Ty.isKey, Bool.or_eq_true] at h
 rcases h with h | h
 ·exact Ty.keq_scal h x y
 ·exact Ty.keq_scals h x y
def mget (a : Ty) {β : Type} : List (a.den × β) → a.den → Option β
 | [], _ => none
 | x :: m, k => bif a.keq k x.1 then some x.2 else mget a m k
def midx (a : Ty) {β : Type} : List (a.den × β) → a.den → Nat
 | [], _ => 0
 | x :: m, k => bif a.keq k x.1 then 0 else midx a m k + 1
def mput (a : Ty) {β : Type} : List (a.den × β) → a.den → β → List (a.den × β)
 | [], k, v => [(k, v)]
 | x :: m, k, v => bif a.keq k x.1 then (k, v) :: m else x :: mput a m k v
def mdel (a : Ty) {β : Type} : List (a.den × β) → a.den → List (a.den × β)
 | [], _ => []
 | x :: m, k => bif a.keq k x.1 then m else x :: mdel a m k
def ment (a : Ty) {β : Type} (m : List (a.den × β)) (k : a.den) (z : β) : List (a.den × β) := mput a m k ((mget a m k).getD z)
def mset {α β : Type} (m : List (α × β)) (i : Nat) (v : β) : List (α × β) := m.modify i fun x => (x.1, v)
section
variable {a : Ty} {β : Type}
theorem midx_le : ∀ (m : List (a.den × β)) (k : a.den), midx a m k ≤ m.length
 | [], _ => Nat.le_refl _
 | x :: m, k => by
  unfold midx
  cases a.keq k x.1 with
  | true => simp
  | false => have := midx_le m k; simpa using this
theorem mfind (h : a.isKey = true) : ∀ (m : List (a.den × β)) (k : a.den),
  (mget a m k = none ∧ (∀ v, mput a m k v = m ++ [(k, v)]) ∧ mdel a m k = m ∧ midx a m k = m.length ∧ ∀ x ∈ m, x.1 ≠ k) ∨
  ∃ v0, mget a m k = some v0 ∧ m[midx a m k]? = some (k, v0) ∧ (∀ v, mput a m k v = m.set (midx a m k) (k, v)) ∧ mdel a m k = m.eraseIdx (midx a m k) ∧ (∀ (j : Nat) x, j < midx a m k → m[j]? = some x → x.1 ≠ k)
 | [], k => .inl ⟨rfl, fun _ => rfl, rfl, rfl, fun x hx => by cases hx⟩
 | x :: m, k => by
  have hk := Ty.keq_iff h k x.1
  simp only [mget, mput, mdel, midx]
  cases hb : a.keq k x.1 with
  | true =>
   have e := hk.1 hb
   subst e
   exact .inr ⟨x.2, rfl, rfl, fun v => rfl, rfl, fun j y hj => by simp at hj⟩
  | false =>
   have hne : x.1 ≠ k := fun e => by rw [hk.2 e.symm] at hb; cases hb
   rcases mfind h m k with ⟨h1, h2, h3, h4, h5⟩ | ⟨v0, h1, h2, h3, h4, h5⟩
   ·refine .inl ⟨h1, fun v => by simp [h2 v], by simp [h3], by simp [h4], fun y hy => ?_⟩
    rcases List.mem_cons.1 hy with rfl | hy
    ·exact hne
    ·exact h5 y hy
   ·refine .inr ⟨v0, h1, by simpa using h2, fun v => by simp [h3 v], by simp [h4], fun j y hj hy => ?_⟩
    cases j with
    | zero =>
     have hy : x = y := by simpa using hy
     subst hy; exact hne
    | succ j => exact h5 j y (by simpa using hj) (by simpa using hy)
theorem mget_put (h : a.isKey = true) : ∀ (m : List (a.den × β)) (k k' : a.den) (v : β), mget a (mput a m k v) k' = bif a.keq k' k then some v else mget a m k'
 | [], k, k', v => by simp [mput, mget]
 | x :: m, k, k', v => by
  simp only [mput]
  cases hb : a.keq k x.1 with
  | true =>
   have e := (Ty.keq_iff h k x.1).1 hb
   subst e
   simp only [cond_true, mget]
   cases a.keq k' x.1 <;> rfl
  | false =>
   simp only [cond_false, mget, mget_put h m k k' v]
   cases hc : a.keq k' x.1 with
   | true =>
    have e := (Ty.keq_iff h k' x.1).1 hc
    subst e
    have : a.keq x.1 k = false := by
     cases hd : a.keq x.1 k with
     | false => rfl
     | true =>
      have e := (Ty.keq_iff h x.1 k).1 hd
      rw [← e] at hb
      rw [(Ty.keq_iff h x.1 x.1).2 rfl] at hb
      cases hb
    rw [this]; rfl
   | false => rfl
theorem mem_of_mget (h : a.isKey = true) {m : List (a.den × β)} {k : a.den} {v : β} (hg : mget a m k = some v) : (k, v) ∈ m := by
 rcases mfind h m k with ⟨h1, _⟩ | ⟨v0, h1, h2, _⟩
 ·rw [h1] at hg; cases hg
 ·rw [h1] at hg; cases hg; exact List.mem_of_getElem? h2
theorem mget_of_mem (h : a.isKey = true) : ∀ {m : List (a.den × β)} {k : a.den} {v : β}, (m.map Prod.fst).Nodup → (k, v) ∈ m → mget a m k = some v
 | [], _, _, _, hm => by cases hm
 | x :: m, k, v, hn, hm => by
  simp only [List.map_cons, List.nodup_cons] at hn
  simp only [mget]
  rcases List.mem_cons.1 hm with rfl | hm
  ·rw [(Ty.keq_iff h k k).2 rfl]; rfl
  ·cases hb : a.keq k x.1 with
   | true =>
    have e := (Ty.keq_iff h k x.1).1 hb
    exact absurd (List.mem_map.2 ⟨_, hm, e⟩) hn.1
   | false => exact mget_of_mem h hn.2 hm
theorem mset_ment (h : a.isKey = true) (m : List (a.den × β)) (k : a.den) (z v : β) : mset (ment a m k z) (midx a m k) v = mput a m k v := by
 unfold mset ment
 rcases mfind h m k with ⟨h1, h2, h3, h4, h5⟩ | ⟨v0, h1, h2, h3, h4, h5⟩
 ·rw [h2, h2, h4]
  apply List.ext_getElem?
  intro j
  rw [List.getElem?_modify]
  by_cases hj : m.length = j
  ·subst hj; simp
  ·simp only [hj, if_false]
   cases hq : (m ++ [(k, (mget a m k).getD z)])[j]? with
   | none =>
    rw [List.getElem?_eq_none_iff] at hq
    rw [List.getElem?_eq_none (by simpa using hq)]; rfl
   | some q =>
    have hlt := (List.getElem?_eq_some_iff.1 hq).1
    have hlt : j < m.length := by simp at hlt; omega
    rw [List.getElem?_append_left hlt] at hq ⊢
    rw [hq]; rfl
 ·have hlt := (List.getElem?_eq_some_iff.1 h2).1
  rw [h3, h3]
  apply List.ext_getElem?
  intro j
  rw [List.getElem?_modify]
  by_cases hj : midx a m k = j
  ·subst hj; simp [hlt]
  ·simp only [hj, if_false]
   rw [List.getElem?_set_ne hj, List.getElem?_set_ne hj]
   cases m[j]? <;> rfl
theorem keys_put (h : a.isKey = true) (m : List (a.den × β)) (k : a.den) (v : β) (hn : (m.map Prod.fst).Nodup) : ((mput a m k v).map Prod.fst).Nodup := by
 rcases mfind h m k with ⟨h1, h2, h3, h4, h5⟩ | ⟨v0, h1, h2, h3, h4, h5⟩
 ·rw [h2, List.map_append, List.nodup_append]
  refine ⟨hn, by simp, fun x hx y hy => ?_⟩
  obtain ⟨z, hz, rfl⟩ := List.mem_map.1 hx
  simp only [List.map_cons, List.map_nil, List.mem_singleton] at hy
  subst hy
  exact h5 z hz
 ·rw [h3]
  have : (m.set (midx a m k) (k, v)).map Prod.fst = m.map Prod.fst := by
   apply List.ext_getElem?
   intro i
   simp only [List.getElem?_map, List.getElem?_set]
   split
   ·rename_i hi
    subst hi
    split
    ·rw [h2]; rfl
    ·rename_i hlt; rw [List.getElem?_eq_none (by omega)]
   ·rfl
  rw [this]
  exact hn
end
end Go.Vc
end

section
set_option linter.unusedVariables false
set_option linter.unusedSimpArgs false
namespace Go.Vc
open Go
inductive TD where
 | int (k : IntKind)
 | bool
 | str
 | slice (e : Nat)
 | struct (fs : List (Nat × Nat × Nat))
 | plain
 | pnt
 | array (n e : Nat)
 | map (k e : Nat)
 | other
structure TI where
 id : Nat
 d : TD
 size : Nat
 bytes : Nat
 zero : Value
 ty : Option Ty
 eq : Bool
def skel (P : Program) (t : Nat) : TD :=
 match P.underlying t with
 | some (.int k) => .int k
 | some .bool => .bool
 | some .string => .str
 | some (.slice e) => .slice e
 | some (.struct fs) => .struct (fs.toList.map fun f => (f.offset, P.cellsOf f.type, f.type))
 | some (.pointer _) => .pnt
 | some (.array n e) => .array n e
 | some (.map k e) => .map k e
 | some (.func _ _ _) => .plain
 | _ => .other
def tabOf : List TI → Nat → Option TI
 | [], _ => none
 | i :: l, t => match Nat.beq i.id t with
  | true => some i
  | false => tabOf l t
def plainEq (P : Program) (t : Nat) : Bool :=
 !P.eqGuardType P.depth t && !P.stoodInHeld t && (match P.underlying t with
  | some (.struct fs) => fs.toList.all fun f => f.name != "_"
  | _ => false)
structure TabOk (P : Program) (tab : List TI) : Prop where
 skels : tab.map (fun i => skel P i.id) = tab.map (fun i => i.d)
 infos : tab.map (fun i => (P.info? i.id).map fun j => (j.size, j.bytes, j.zero)) = tab.map (fun i => some (i.size, i.bytes, some i.zero))
 eqs : tab.map (fun i => plainEq P i.id) = tab.map (fun i => i.eq)
 mixed : P.follows .mixedOrders = true
def constC : Value → Option C
 | .bool b => some (.dat .bool b)
 | .int k n => (match decide (k.min ≤ n) && decide (n ≤ k.max) with
  | true => some (.dat (.int k) n)
  | false => none)
 | .string s => (match Nat.ble s.data.toList.length maxLenI with
  | true => some (.dat .str s.data.toList)
  | false => none)
 | .slice none 0 0 => some .nilsl
 | .pointer none => some .nilptr
 | .nilFunc => some .nilfn
 | .map none => some .nilmap
 | _ => none
def constCs : List Value → Option (List C)
 | [] => some []
 | v :: vs => match constC v, constCs vs with
  | some c, some cs => some (c :: cs)
  | _, _ => none
def constSV : Value → Option SV
 | .agg vs => (constCs vs.toList).map .agg
 | v => (constC v).map .one
def RM.ofOption {α : Type} : Option α → RM α
 | some a => .ret a
 | none => .fail
def evx (ex : Tags) : Operand → RM SV
 | .tmp t => .slot ex t .ret
 | .const v => RM.ofOption (constSV v)
 | .func f => .ret (.one (.dat (.clo f .unit) ()))
 | _ => .fail
def ev (x : Operand) : RM SV := evx [] x
def asC : SV → RM C
 | .one c => .ret c
 | _ => .fail
def evC (x : Operand) : RM C := do asC (← ev x)
def asCells : SV → RM (List C)
 | .one c => .ret [c]
 | .agg cs => .ret cs
 | _ => .fail
def asB : SV → RM Bool
 | .one (.dat .bool b) => .ret b
 | _ => .fail
def asI : SV → RM Int
 | .one (.dat (.int _) n) => .ret n
 | _ => .fail
abbrev Fro := List (Nat × Blk)
def guardR (b : Bool) : RM Unit :=
 match b with
 | true => .ret ()
 | false => .fail
def at' {t : Ty} (xs : List t.den) (i : Nat) : t.den := xs.getD i t.dflt
def lit {t : Ty} (x : List t.den) : (Ty.list t).den := x
def reifyC (t : Ty) : C → RM (t.den × Fro)
 | .dat _ x => do return (← RM.ofOption (Ty.as t x), [])
 | .row tt b => .blk b fun
  | .row _ e t' xs => (match tt.beq t' with
   | true => do return (← RM.ofOption (Ty.as (a := .list t') t (lit xs)), [(b, .row true e t' xs)])
   | false => .fail)
  | _ => .fail
 | .sub tt b lo len => .blk b fun
  | .row _ e t' xs => (match tt.beq t' with
   | true => do return (← RM.ofOption (Ty.as (a := .list t') t (lit ((xs.drop lo).take len))), [(b, .row true e t' xs)])
   | false => .fail)
  | _ => .fail
 | .nilsl => (match t with
  | .list _ => .ret ([], [])
  | _ => .fail)
 | .nilptr => (match t with
  | .ptr _ => .ret (none, [])
  | _ => .fail)
 | .map _ _ n => .blk n fun
  | .map _ a' b' m _ => do return (← RM.ofOption (Ty.as (a := .map a' b') t m), [(n, .map true a' b' m none)])
  | _ => .fail
 | .nilmap => (match t with
  | .map _ _ => .ret ([], [])
  | _ => .fail)
 | _ => .fail
def noId : Fro → Nat → Bool
 | [], _ => true
 | (m, _) :: l, n => match Nat.beq m n with
  | true => false
  | false => noId l n
def isF : Blk → Bool
 | .fcells _ _ => true
 | _ => false
def noF : Fro → Bool
 | [] => true
 | (_, B) :: l => !isF B && noF l
def apart1 : Fro → Fro → Bool
 | [], _ => true
 | (m, B) :: l, g => (!isF B || noId g m) && apart1 l g
def froApart (f g : Fro) : Bool := apart1 f g && apart1 g f
def reify : (t : Ty) → List C → RM (t.den × Fro)
 | .unit, cs => (match cs with
  | [] => .ret ((), [])
  | _ => .fail)
 | .pair a b, cs => do
  let x ← reify a (cs.take a.size)
  let y ← reify b (cs.drop a.size)
  guardR (froApart x.2 y.2)
  return ((x.1, y.1), x.2 ++ y.2)
 | .int k, cs => (match cs with
  | [c] => reifyC (.int k) c
  | _ => .fail)
 | .bool, cs => (match cs with
  | [c] => reifyC .bool c
  | _ => .fail)
 | .str, cs => (match cs with
  | [c] => reifyC .str c
  | _ => .fail)
 | .list t, cs => (match cs with
  | [c] => reifyC (.list t) c
  | _ => .fail)
 | .ref t, cs => (match cs with
  | [.elt t' xs i o] => (match Nat.beq o 0 with
   | true => do return (← RM.ofOption (Ty.as (a := t') t (at' xs i)), [])
   | false => .fail)
  | [.ptr b o] => (match Nat.beq o 0 with
   | true => .blk b fun
    | .cells cs => do
     let y ← reify t cs
     guardR (noF y.2 && noId y.2 b)
     return (y.1, y.2 ++ [(b, .fcells t y.1)])
    | .fcells t' x => do return (← RM.ofOption (Ty.as (a := t') t x), [(b, .fcells t' x)])
    | _ => .fail
   | false => .fail)
  | _ => .fail)
 | .ptr t, cs => (match cs with
  | [.elt t' xs i o] => (match Nat.beq o 0 with
   | true => do return (some (← RM.ofOption (Ty.as (a := t') t (at' xs i))), [])
   | false => .fail)
  | [.ptr b o] => (match Nat.beq o 0 with
   | true => .blk b fun
    | .cells cs => do
     let y ← reify t cs
     guardR (noF y.2 && noId y.2 b)
     return (some y.1, y.2 ++ [(b, .fcells t y.1)])
    | .fcells t' x => do return (some (← RM.ofOption (Ty.as (a := t') t x)), [(b, .fcells t' x)])
    | _ => .fail
   | false => .fail)
  | [c] => reifyC (.ptr t) c
  | _ => .fail)
 | .clo k t, cs => (match cs with
  | [c] => reifyC (.clo k t) c
  | _ => .fail)
 | .map a b, cs => (match cs with
  | [c] => reifyC (.map a b) c
  | _ => .fail)
structure Res where
 val : Option SV := none
 blks : List (Nat × Blk) := []
 del : List Nat := []
 new : List Nat := []
 conds : List Prop := []
def pureV (v : SV) : RM Res := .ret { val := some v }
def pureC (c : C) : RM Res := .ret { val := some (.one c) }
def pureIf (p : Prop) (c : C) : RM Res := .ret { val := some (.one c), conds := [p] }
structure Con where
 run : List SV → Nat → RM Res
structure Ctx where
 tab : List TI
 con : Nat → Option Con
 wraps : List Nat := []
 clos : List (Nat × Ty) := []
 mclos : List Nat := []
def ti (X : Ctx) (t : Nat) : RM TI := RM.ofOption (tabOf X.tab t)
def isStruct : TD → Bool
 | .struct _ => true
 | _ => false
def mkSV (d : TD) (cs : List C) : RM SV :=
 match d with
 | .struct _ => .ret (.agg cs)
 | .array _ _ => .ret (.agg cs)
 | .other => .fail
 | _ => (match cs with
  | [c] => .ret (.one c)
  | _ => .fail)
def svOf (t : Ty) (x : t.den) : SV :=
 match t.isAgg with
 | true => .agg (flat t x)
 | false => (match flat t x with
  | [c] => .one c
  | _ => .one (.dat t x))
def asTy (t : Ty) : SV → RM (List C)
 | .one c => (match t.isAgg with
  | true => .fail
  | false => .ret [c])
 | .agg cs => (match t.isAgg with
  | true => .ret cs
  | false => .fail)
 | _ => .fail
def arrFs (n size e : Nat) : List (Nat × Nat × Nat) := (List.range n).map fun i => (i * size, size, e)
def splice (cs : List C) (o : Nat) (ds : List C) : List C := cs.take o ++ ds ++ cs.drop (o + ds.length)
def kindLe : IntKind → IntKind → Bool
 | .u8, .u8 | .u8, .u16 | .u8, .u32 | .u8, .u64 | .u8, .i16 | .u8, .i32 | .u8, .i64 => true
 | .u16, .u16 | .u16, .u32 | .u16, .u64 | .u16, .i32 | .u16, .i64 => true
 | .u32, .u32 | .u32, .u64 | .u32, .i64 => true
 | .u64, .u64 => true
 | .i8, .i8 | .i8, .i16 | .i8, .i32 | .i8, .i64 => true
 | .i16, .i16 | .i16, .i32 | .i16, .i64 => true
 | .i32, .i32 | .i32, .i64 => true
 | .i64, .i64 => true
 | _, _ => false
def bitsOf (op : BinOp) (k : IntKind) (x y : Int) : Int :=
 match op with
 | .and => k.wrap ((BitVec.ofInt k.bits x &&& BitVec.ofInt k.bits y).toNat)
 | .or => k.wrap ((BitVec.ofInt k.bits x ||| BitVec.ofInt k.bits y).toNat)
 | .xor => k.wrap ((BitVec.ofInt k.bits x ^^^ BitVec.ofInt k.bits y).toNat)
 | _ => k.wrap ((BitVec.ofInt k.bits x &&& ~~~ (BitVec.ofInt k.bits y)).toNat)
def arith (w : Bool) (k : IntKind) (n : Int) : RM Res :=
 match w || !k.signed with
 | true => pureC (.dat (.int k) (k.wrap n))
 | false => pureIf (InR k n) (.dat (.int k) n)
def intOp (w : Bool) (op : BinOp) (k : IntKind) (a b : Int) : RM Res :=
 match op with
 | .add => arith w k (a + b)
 | .sub => arith w k (a - b)
 | .mul => arith w k (a * b)
 | .quo => .ret { val := some (.one (.dat (.int k) (k.wrap (a.tdiv b)))), conds := [b ≠ 0] }
 | .rem => .ret { val := some (.one (.dat (.int k) (a.tmod b))), conds := [b ≠ 0] }
 | .and => pureC (.dat (.int k) (bitsOf .and k a b))
 | .or => pureC (.dat (.int k) (bitsOf .or k a b))
 | .xor => pureC (.dat (.int k) (bitsOf .xor k a b))
 | .andNot => pureC (.dat (.int k) (bitsOf .andNot k a b))
 | .eql => pureC (.dat .bool (a == b))
 | .neq => pureC (.dat .bool (a != b))
 | .lss => pureC (.dat .bool (decide (a < b)))
 | .leq => pureC (.dat .bool (decide (a ≤ b)))
 | .gtr => pureC (.dat .bool (decide (a > b)))
 | .geq => pureC (.dat .bool (decide (a ≥ b)))
 | _ => .fail
def shiftOp (op : BinOp) (k : IntKind) (a b : Int) : RM Res :=
 match op with
 | .shl => .ret { val := some (.one (.dat (.int k) (k.wrap (a * 2 ^ (min b.toNat k.bits))))), conds := [0 ≤ b] }
 | .shr => .ret { val := some (.one (.dat (.int k) (a.fdiv (2 ^ (min b.toNat k.bits))))), conds := [0 ≤ b] }
 | _ => .fail
def strOp (op : BinOp) (a b : List UInt8) : RM Res :=
 match op with
 | .add => pureIf (a.length + b.length ≤ maxLenI) (.dat .str (a ++ b))
 | .eql => pureC (.dat .bool (a == b))
 | .neq => pureC (.dat .bool (!(a == b)))
 | .lss => pureC (.dat .bool (Op.bytesLess a b))
 | _ => .fail
def eqC : TD → C → C → Option Bool
 | .int _, .dat (.int j) a, .dat (.int k) b => (match kindBeq j k with
  | true => some (Ty.I a == Ty.I b)
  | false => none)
 | .bool, .dat .bool a, .dat .bool b => some (Ty.B a == Ty.B b)
 | .str, .dat .str a, .dat .str b => some (Ty.S a == Ty.S b)
 | _, _, _ => none
def isShift : BinOp → Bool
 | .shl | .shr => true
 | _ => false
def nilRes (op : BinOp) (b : Bool) : RM Res :=
 match op with
 | .eql => pureC (.dat .bool b)
 | .neq => pureC (.dat .bool (!b))
 | _ => .fail
def nilR (op : BinOp) : C → RM Res
 | .dat (.ptr t) o => nilRes op (Option.isNone (α := t.den) o)
 | .ptr _ _ | .rptr _ _ _ _ | .elt _ _ _ _ => nilRes op false
 | _ => .fail
def binR (w : Bool) (op : BinOp) : SV → SV → RM Res
 | .one (.dat (.int j) a), .one (.dat (.int k) b) => (match isShift op with
  | true => shiftOp op j a b
  | false => (match kindBeq j k with
   | true => intOp w op j a b
   | false => .fail))
 | .one (.dat .str a), .one (.dat .str b) => strOp op a b
 | .one (.dat .bool a), .one (.dat .bool b) => (match op with
  | .eql => pureC (.dat .bool (Ty.B a == Ty.B b))
  | .neq => pureC (.dat .bool (!(Ty.B a == Ty.B b)))
  | _ => .fail)
 | _, _ => .fail
def eqFields (X : Ctx) : List (Nat × Nat × Nat) → List C → List C → RM Bool
 | [], _, _ => .ret true
 | (off, _, t) :: fs, cs, ds => do
  let i ← ti X t
  match cs[off]?, ds[off]? with
  | some c, some d => (do
   let b ← RM.ofOption (eqC i.d c d)
   let r ← eqFields X fs cs ds
   return (b && r))
  | _, _ => .fail
def lenR : C → RM Res
 | .dat (.list _) xs => pureC (.dat (.int .i64) ((Ty.L xs).length : Int))
 | .dat .str s => pureC (.dat (.int .i64) ((Ty.S s).length : Int))
 | .row tt b => .blk b fun
  | .row _ _ t xs => (match tt.beq t with
   | true => pureC (.dat (.int .i64) (xs.length : Int))
   | false => .fail)
  | _ => .fail
 | .sub _ _ _ len => pureC (.dat (.int .i64) (len : Int))
 | .nilsl => pureC (.dat (.int .i64) (0 : Int))
 | _ => .fail
def InB (n : Int) (len : Nat) : Prop := 0 ≤ n ∧ n < len
def indexR (size : Nat) (n : Int) : C → RM Res
 | .dat (.list t) xs => (match Nat.beq size t.size with
  | true => pureIf (InB n (Ty.L xs).length) (.elt t xs n.toNat 0)
  | false => .fail)
 | .row tt b => .blk b fun
  | .row _ _ t xs => (match Nat.beq size t.size && tt.beq t with
   | true => pureIf (InB n xs.length) (.rptr t b n.toNat 0)
   | false => .fail)
  | _ => .fail
 | .sub tt b lo len => .blk b fun
  | .row _ _ t _ => (match Nat.beq size t.size && tt.beq t with
   | true => pureIf (InB n len) (.rptr t b (lo + n.toNat) 0)
   | false => .fail)
  | _ => .fail
 | _ => .fail
def loadCs (size : Nat) : C → RM (List C)
 | .ptr b o => .blk b fun
  | .cells cs => .ret ((cs.drop o).take size)
  | .fcells t x => .ret (((flat t x).drop o).take size)
  | _ => .fail
 | .rptr tt b i o => .blk b fun
  | .row _ _ t xs => (match tt.beq t with
   | true => .ret (((flat t (at' xs i)).drop o).take size)
   | false => .fail)
  | _ => .fail
 | .elt t xs i o => .ret (((flat t (at' xs i)).drop o).take size)
 | _ => .fail
def indexA (size len : Nat) (n : Int) : C → RM Res
 | .rptr tt b i o => .blk b fun
  | .row _ _ t xs => (match Nat.beq i 0 && (Nat.beq o 0 && (Nat.beq size t.size && tt.beq t)) with
   | true => pureIf (InB n len ∧ xs.length = len) (.rptr t b n.toNat 0)
   | false => .fail)
  | _ => .fail
 | _ => .fail
def storeR (size : Nat) (cs : List C) : C → RM Res
 | .ptr b o => .blk b fun
  | .cells old => (match Nat.beq cs.length size && Nat.ble (o + size) old.length with
   | true => .ret { blks := [(b, .cells (splice old o cs))] }
   | false => .fail)
  | _ => .fail
 | .rptr tt b i o => .blk b fun
  | .row false e t xs => (match tt.beq t && Nat.beq cs.length size && Nat.ble (o + size) t.size with
   | true => (match Nat.beq size t.size with
    | true => do
     let y ← reify t cs
     guardR (noId y.2 b)
     .ret { blks := y.2 ++ [(b, .row false e t (xs.set i y.1))] }
    | false => do
     let y ← reify t (splice (flat t (at' xs i)) o cs)
     guardR (noId y.2 b)
     .ret { blks := y.2 ++ [(b, .row false e t (xs.set i y.1))] })
   | false => .fail)
  | _ => .fail
 | _ => .fail
def cut {α : Type} (xs : List α) (lo hi : Option Int) : List α :=
 match lo, hi with
 | none, none => xs
 | some l, none => xs.drop l.toNat
 | none, some h => xs.take h.toNat
 | some l, some h => (xs.take h.toNat).drop l.toNat
def cutOk (len : Nat) : Option Int → Option Int → List Prop
 | none, none => []
 | some l, none => [0 ≤ l ∧ l ≤ len]
 | none, some h => [0 ≤ h ∧ h ≤ len]
 | some l, some h => [0 ≤ l ∧ l ≤ h, h ≤ len]
def cutLo : Option Int → Nat
 | none => 0
 | some l => l.toNat
def cutLen (len : Nat) : Option Int → Option Int → Nat
 | none, none => len
 | some l, none => len - l.toNat
 | none, some h => h.toNat
 | some l, some h => h.toNat - l.toNat
def evO : Option Operand → RM (Option Int)
 | none => .ret none
 | some x => do return some (← asI (← ev x))
def sliceR (lo hi : Option Int) : C → RM Res
 | .dat (.list t) xs => .ret { val := some (.one (.dat (.list t) (cut (Ty.L xs) lo hi))), conds := cutOk (Ty.L xs).length lo hi }
 | .dat .str s => .ret { val := some (.one (.dat .str (cut (Ty.S s) lo hi))), conds := cutOk ((Ty.S s).length) lo hi }
 | .row tt b => .blk b fun
  | .row _ _ t xs => (match tt.beq t with
   | true => .ret { val := some (.one (.sub t b (cutLo lo) (cutLen xs.length lo hi))), conds := cutOk xs.length lo hi }
   | false => .fail)
  | _ => .fail
 | .sub t b l len => .ret { val := some (.one (.sub t b (l + cutLo lo) (cutLen len lo hi))), conds := cutOk len lo hi }
 | _ => .fail
def srcR (t : Ty) : C → RM (List t.den)
 | .dat (.list t') xs => RM.ofOption (Ty.as (a := .list t') (.list t) xs)
 | .row tt b => .blk b fun
  | .row _ _ t' xs => (match tt.beq t' with
   | true => RM.ofOption (Ty.as (a := .list t') (.list t) (lit xs))
   | false => .fail)
  | _ => .fail
 | .sub tt b lo len => .blk b fun
  | .row _ _ t' xs => (match tt.beq t' with
   | true => RM.ofOption (Ty.as (a := .list t') (.list t) (lit ((xs.drop lo).take len)))
   | false => .fail)
  | _ => .fail
 | .nilsl => .ret []
 | _ => .fail
def roomFor (n bytes : Nat) : Prop := n * (bytes + 1) ≤ 140737488355328
def appendR (d e : Nat) (i : TI) (t : Ty) (s x : C) : RM Res := do
 let ys ← srcR t x
 match s with
 | .nilsl => .ret { val := some (.one (.row t d)), blks := [(d, .row false e t ys)], new := [d], conds := [roomFor ys.length i.bytes] }
 | .row tt b => .blk b fun
  | .row false e' t' xs => (match tt.beq t' && Nat.beq e e' with
   | true => do
    let zs ← RM.ofOption (Ty.as (a := .list t') (.list t) (lit xs))
    .ret { val := some (.one (.row t d)), blks := [(d, .row false e t (Ty.L zs ++ ys))], del := [b], new := [d], conds := [roomFor ((Ty.L zs).length + ys.length) i.bytes] }
   | false => .fail)
  | _ => .fail
 | _ => .fail
def buildCs (fs : List (Nat × Nat × Nat)) : List (Nat × Operand) → List C → RM (List C)
 | [], cs => .ret cs
 | (i, x) :: ps, cs => do
  let v ← asCells (← ev x)
  match fs[i]? with
  | some (off, size, _) => (match Nat.beq v.length size && Nat.ble (off + size) cs.length with
   | true => buildCs fs ps (splice cs off v)
   | false => .fail)
  | none => .fail
def buildXs (t : Ty) : List (Nat × Operand) → List t.den → RM (List t.den × Fro)
 | [], xs => .ret (xs, [])
 | (i, x) :: ps, xs => do
  let v ← asCells (← ev x)
  let y ← reify t v
  guardR (Nat.blt i xs.length)
  let r ← buildXs t ps (xs.set i y.1)
  guardR (froApart y.2 r.2)
  return (r.1, y.2 ++ r.2)
def zeroD (j : TI) (ty : Ty) : RM ty.den := do
 let cs ← RM.ofOption (constCs j.zero.cells.toList)
 guardR (Nat.beq cs.length j.size && Nat.beq ty.size j.size && Nat.blt 0 j.size)
 let z ← reify ty cs
 guardR z.2.isEmpty
 return z.1
def chunksR (t : Ty) : Nat → List C → RM (List t.den)
 | 0, cs => (match cs with
  | [] => .ret []
  | _ :: _ => .fail)
 | n + 1, cs => do
  let y ← reify t (cs.take t.size)
  guardR y.2.isEmpty
  let r ← chunksR t n (cs.drop t.size)
  return y.1 :: r
def evAll : List Operand → RM (List SV)
 | [] => .ret []
 | x :: xs => do
  let v ← ev x
  let vs ← evAll xs
  return (v :: vs)
def storeA (n size : Nat) (cs : List C) : C → RM Res
 | .rptr tt b i o => .blk b fun
  | .row false e t xs => (match tt.beq t && (Nat.beq i 0 && (Nat.beq o 0 && (Nat.beq cs.length (n * t.size) && Nat.beq cs.length size))) with
   | true => do
    let ys ← chunksR t n cs
    .ret { blks := [(b, .row false e t ys)], conds := [xs.length = n] }
   | false => .fail)
  | _ => .fail
 | _ => .fail
def scalTD : TD → Ty → Bool
 | .int j, .int k => kindBeq j k
 | .bool, .bool => true
 | .str, .str => true
 | _, _ => false
def keyFs (X : Ctx) : List (Nat × Nat × Nat) → Ty → Nat → RM Unit
 | [], t, _ => (match t with
  | .unit => .ret ()
  | _ => .fail)
 | (off, _, tf) :: fs, t, o => (match t with
  | .pair a b => do
   let i ← ti X tf
   guardR (Nat.beq off o && scalTD i.d a)
   keyFs X fs b (o + 1)
  | t => do
   let i ← ti X tf
   guardR (Nat.beq off o && (fs.isEmpty && scalTD i.d t)))
def keyTy (X : Ctx) (kt : Nat) (a : Ty) : RM Unit := do
 let i ← ti X kt
 match i.d with
 | .struct fs => (do
  guardR i.eq
  guardR a.isAgg
  keyFs X fs a 0)
 | d => guardR (scalTD d a)
def keyR (X : Ctx) (kt : Nat) (a : Ty) (x : Operand) : RM a.den := do
 keyTy X kt a
 let y ← reify a (← asTy a (← ev x))
 guardR y.2.isEmpty
 return y.1
def aggV : Value → Bool
 | .agg _ => true
 | _ => false
def zeroR (X : Ctx) (et : Nat) (b : Ty) : RM b.den := do
 let l ← ti X et
 guardR (aggV l.zero == b.isAgg)
 zeroD l b
def mapTI (X : Ctx) (t : Nat) : RM (Nat × Nat) := do
 let i ← ti X t
 match i.d with
 | .map k e => .ret (k, e)
 | _ => .fail
def lookR (X : Ctx) (kt et : Nat) (ok : Bool) (ix : Operand) (a b : Ty) (m : List (a.den × b.den)) : RM Res := do
 let k ← keyR X kt a ix
 let z ← zeroR X et b
 match ok with
 | true => pureV (.tup [(b.isAgg, flat b ((mget a m k).getD z)), (false, [.dat .bool (mget a m k).isSome])])
 | false => pureV (svOf b ((mget a m k).getD z))
def lookupR (X : Ctx) (kt et : Nat) (ok : Bool) (ix : Operand) : C → RM Res
 | .map _ _ n => .blk n fun
  | .map _ a b m _ => lookR X kt et ok ix a b m
  | _ => .fail
 | .dat (.map a b) m => lookR X kt et ok ix a b m
 | _ => .fail
def rangeR (d : Nat) : C → RM Res
 | .dat (.map a b) m => .ret { val := some (.one (.ptr d 0)), blks := [(d, .iter a b m none)], new := [d] }
 | .map _ _ n => .blk n fun
  | .map _ a b m _ => .ret { val := some (.one (.ptr d 0)), blks := [(n, .map true a b m none), (d, .iter a b m none)], new := [d] }
  | _ => .fail
 | _ => .fail
def entryR : C → RM Res
 | .ptr d o => .blk d fun
  | .iter a b _ cur => (match Nat.beq o 0, cur with
   | true, some x => pureV (.tup [(a.isAgg, flat a x.1), (b.isAgg, flat b x.2)])
   | _, _ => .fail)
  | _ => .fail
 | _ => .fail
def ownMap (k : (n : Nat) → (a b : Ty) → List (a.den × b.den) → Option (Nat × Nat) → RM Res) : C → RM Res
 | .map _ _ n => .blk n fun
  | .map false a b m cur => k n a b m cur
  | _ => .fail
 | _ => .fail
def valR (b : Ty) (n : Nat) (v : Operand) : RM (b.den × Fro) := do
 let y ← reify b (← asTy b (← ev v))
 guardR (noId y.2 n)
 return y
def asStamp : C → RM Nat
 | .stamp d => .ret d
 | _ => .fail
def oneCells : List SV → RM (List C)
 | [] => .ret []
 | v :: vs => do
  let c ← asC v
  let cs ← oneCells vs
  return (c :: cs)
def capSVs : (t : Ty) → t.den → Option (List SV)
 | .unit, _ => some []
 | .pair a b, x => (match flat a x.1, capSVs b x.2 with
  | [c], some vs => some (.one c :: vs)
  | _, _ => none)
 | _, _ => none
def ptrIds : List C → RM (List Nat)
 | [] => .ret []
 | .ptr b o :: cs => (match Nat.beq o 0 with
  | true => do
   let bs ← ptrIds cs
   return (b :: bs)
  | false => .fail)
 | _ :: _ => .fail
def minMax (big : Bool) : SV → SV → RM Res
 | .one (.dat (.int j) a), .one (.dat (.int k) b) => (match kindBeq j k with
  | true => (match big with
   | true => pureC (.dat (.int j) (max (Ty.I a) (Ty.I b)))
   | false => pureC (.dat (.int j) (min (Ty.I a) (Ty.I b))))
  | false => .fail)
 | _, _ => .fail
def exOp (X : Ctx) (o : Oper) : RM Res :=
 let d := o.dst.getD 0
 match o.op with
 | .move x | .assign x => do pureV (← ev x)
 | .pick (.tmp c) a b => do
  let g ← asB (← ev (.tmp c))
  let x ← asB (← evx [(c, true)] a)
  let y ← asB (← evx [(c, false)] b)
  pureC (.dat .bool (bif g then x else y))
 | .alloc t => do
  let i ← ti X t
  match i.d with
  | .array n e => (do
   let j ← ti X e
   let ty ← RM.ofOption j.ty
   let cs ← RM.ofOption (constCs i.zero.cells.toList)
   guardR (Nat.blt 0 n && Nat.ble n 16777216)
   let xs ← chunksR ty n cs
   .ret { val := some (.one (.rptr ty d 0 0)), blks := [(d, .row false t ty xs)], new := [d] })
  | _ => (do
   let cs ← RM.ofOption (constCs i.zero.cells.toList)
   .ret { val := some (.one (.ptr d 0)), blks := [(d, .cells cs)], new := [d] })
 | .box t x => do
  let cs ← asCells (← ev x)
  .ret { val := some (.one (.ptr d 0)), blks := [(d, .cells cs)], new := [d] }
 | .build t ps => do
  let i ← ti X t
  match i.d with
  | .struct fs => (do
   guardR (fs.all fun f => Nat.blt 0 f.2.1)
   let z ← RM.ofOption (constCs i.zero.cells.toList)
   let cs ← buildCs fs ps.toList z
   pureV (.agg cs))
  | .array n e => (do
   let j ← ti X e
   let z ← RM.ofOption (constCs i.zero.cells.toList)
   let cs ← buildCs (arrFs n j.size e) ps.toList z
   pureV (.agg cs))
  | _ => .fail
 | .buildSlice t n ps => match o.guard with
  | none => do
   let i ← ti X t
   match i.d with
   | .slice e => (do
    let j ← ti X e
    let ty ← RM.ofOption j.ty
    guardR (Nat.ble (n * j.size) 16777216)
    let z ← zeroD j ty
    let r ← buildXs ty ps.toList (List.replicate n z)
    .ret { val := some (.one (.row ty d)), blks := r.2 ++ [(d, .row false e ty r.1)], new := [d] })
   | _ => .fail
  | some _ => do
   let i ← ti X t
   match i.d with
   | .slice e => (do
    let j ← ti X e
    let ty ← RM.ofOption j.ty
    guardR (Nat.ble (n * j.size) 16777216)
    let z ← zeroD j ty
    let r ← buildXs ty ps.toList (List.replicate n z)
    guardR r.2.isEmpty
    pureV (.one (.dat (.list ty) r.1)))
   | _ => .fail
 | .load t a => do
  let i ← ti X t
  let cs ← loadCs i.size (← evC a)
  guardR (Nat.beq cs.length i.size)
  pureV (← mkSV i.d cs)
 | .store t a v => do
  let i ← ti X t
  let cs ← asCells (← ev v)
  match i.d with
  | .array n _ => (do storeA n i.size cs (← evC a))
  | _ => (do storeR i.size cs (← evC a))
 | .nilCheck x => do
  match ← evC x with
  | .ptr b o => pureC (.ptr b o)
  | .rptr t b i o => pureC (.rptr t b i o)
  | .elt t xs i o => pureC (.elt t xs i o)
  | .dat (.ptr t) x => .ret { val := some (.one (.elt t [x.getD t.dflt] 0 0)), conds := [x ≠ none] }
  | _ => .fail
 | .makeFunc (.func k) first caught => (match first.toList with
  | [] => do
   let vs ← evAll caught.toList
   let cs ← oneCells vs
   match has X.mclos k with
   | true => do
    let bs ← ptrIds cs
    pureC (.mclo k bs)
   | false => do
    let ty ← RM.ofOption (find X.clos k)
    let y ← reify ty cs
    .ret { val := some (.one (.dat (.clo k ty) y.1)), blks := y.2 }
  | _ => .fail)
 | .binOp op t x y _ => do
  let a ← ev x
  let b ← ev y
  match a, b with
  | .agg cs, .agg ds => (do
   let i ← ti X t
   guardR i.eq
   match op, i.d with
   | .eql, .struct fs => (do pureC (.dat .bool (← eqFields X fs cs ds)))
   | .neq, .struct fs => (do pureC (.dat .bool (!(← eqFields X fs cs ds))))
   | _, _ => .fail)
  | .one (.dat .bool _), .one (.dat .bool _) => (do
   let i ← ti X t
   match i.d with
   | .bool => binR (has X.wraps d) op a b
   | _ => .fail)
  | .one c, .one .nilptr => (do
   let i ← ti X t
   match i.d with
   | .pnt => nilR op c
   | _ => .fail)
  | _, _ => binR (has X.wraps d) op a b
 | .unOp op _ x => do
  match op, ← ev x with
  | .not, .one (.dat .bool b) => pureC (.dat .bool (!b))
  | .neg, .one (.dat (.int k) n) => arith (has X.wraps d) k (0 - Ty.I n)
  | _, _ => .fail
 | .convert s t x => do
  let i' ← ti X s
  let i ← ti X t
  match i'.d, i.d, ← ev x with
  | .int _, .int k, .one (.dat (.int j) n) => (match kindLe j k with
   | true => pureC (.dat (.int k) n)
   | false => pureC (.dat (.int k) (k.wrap n)))
  | .slice e, .str, .one c => (do
   let j ← ti X e
   match j.d with
   | .int .u8 => (do
    let ys ← srcR (.int .u8) c
    pureC (.dat .str (ys.map fun (n : Int) => UInt8.ofNat n.toNat)))
   | _ => .fail)
  | _, _, _ => .fail
 | .makeSlice t l c => do
  let i ← ti X t
  match i.d with
  | .slice e => (do
   let j ← ti X e
   let ty ← RM.ofOption j.ty
   let n ← asI (← ev l)
   let m ← asI (← ev c)
   let z ← zeroD j ty
   .ret { val := some (.one (.row ty d)), blks := [(d, .row false e ty (List.replicate n.toNat z))], new := [d], conds := [0 ≤ n ∧ n ≤ m, roomFor m.toNat j.bytes ∧ m ≤ maxLenI] })
  | _ => .fail
 | .makeMap t none => do
  let ke ← mapTI X t
  let j ← ti X ke.1
  let l ← ti X ke.2
  let a ← RM.ofOption j.ty
  let b ← RM.ofOption l.ty
  .ret { val := some (.one (.map a b d)), blks := [(d, .map false a b [] none)], new := [d] }
 | .lookup t x ix ok => do
  let ke ← mapTI X t
  lookupR X ke.1 ke.2 ok ix (← evC x)
 | .range t x => do
  let _ ← mapTI X t
  rangeR d (← evC x)
 | .entry it => do entryR (← evC it)
 | .mapUpdate t m k v => do
  let ke ← mapTI X t
  ownMap (fun n a b xs _ => do
   let x ← keyR X ke.1 a k
   let y ← valR b n v
   .ret { blks := y.2 ++ [(n, .map false a b (mput a xs x y.1) none)] }) (← evC m)
 | .mapEntry t m k => do
  let ke ← mapTI X t
  ownMap (fun n a b xs _ => do
   let x ← keyR X ke.1 a k
   let z ← zeroR X ke.2 b
   .ret { val := some (.tup [(b.isAgg, flat b ((mget a xs x).getD z)), (false, [.stamp d])]), blks := [(n, .map false a b (ment a xs x z) (some (d, midx a xs x)))], new := [d] }) (← evC m)
 | .entryStore _ m s v => do
  let st ← asStamp (← evC s)
  ownMap (fun n a b xs cur => match cur with
   | some (d', i) => (do
    guardR (Nat.beq st d')
    let y ← valR b n v
    .ret { blks := y.2 ++ [(n, .map false a b (mset xs i y.1) none)] })
   | none => .fail) (← evC m)
 | .slice t x lo hi none => do
  let i ← ti X t
  let c ← evC x
  let l ← evO lo
  let h ← evO hi
  match i.d, c with
  | .slice e, .dat (.list tt) _ => (do
   let j ← ti X e
   guardR (Nat.beq tt.size j.size)
   sliceR l h c)
  | .slice e, .row tt _ => (do
   let j ← ti X e
   guardR (Nat.beq tt.size j.size)
   sliceR l h c)
  | .slice e, .sub tt _ _ _ => (do
   let j ← ti X e
   guardR (Nat.beq tt.size j.size)
   sliceR l h c)
  | .str, .dat .str _ => sliceR l h c
  | _, _ => .fail
 | .fieldAddr s x f => do
  let i ← ti X s
  match i.d with
  | .struct fs => (match fs[f]? with
   | some (off, size, _) => (do
    guardR (Nat.blt 0 size)
    match ← evC x with
    | .ptr b o => pureC (.ptr b (o + off))
    | .rptr t b i o => pureC (.rptr t b i (o + off))
    | .elt t xs i o => pureC (.elt t xs i (o + off))
    | _ => .fail)
   | none => .fail)
  | _ => .fail
 | .field s x f => do
  let i ← ti X s
  match i.d, ← ev x with
  | .struct fs, .agg cs => (match fs[f]? with
   | some (off, size, t) => (do
    let j ← ti X t
    guardR (Nat.ble (off + size) cs.length && Nat.beq j.size size)
    pureV (← mkSV j.d ((cs.drop off).take size)))
   | none => .fail)
  | _, _ => .fail
 | .indexAddr t x ix => do
  let i ← ti X t
  match i.d with
  | .slice e => (do
   let j ← ti X e
   let c ← evC x
   indexR j.size (← asI (← ev ix)) c)
  | .array n e => (do
   let j ← ti X e
   let c ← evC x
   indexA j.size n (← asI (← ev ix)) c)
  | _ => .fail
 | .index t x ix => do
  let i ← ti X t
  match i.d, ← evC x with
  | .str, .dat .str s => (do
   let n ← asI (← ev ix)
   pureIf (InB n ((Ty.S s).length)) (.dat (.int .u8) (((Ty.S s).getD n.toNat 0).toNat : Int)))
  | _, _ => .fail
 | .extract x k => do
  match ← ev x with
  | .tup vs => (match vs[k]? with
   | some (true, cs) => pureV (.agg cs)
   | some (false, [c]) => pureC c
   | _ => .fail)
  | _ => .fail
 | .call { callee := .value (.func f), args, .. } => do
  let con ← RM.ofOption (X.con f)
  let vs ← evAll args.toList
  con.run vs d
 | .call { callee := .value (.tmp f), args, .. } => do
  match ← evC (.tmp f) with
  | .dat (.clo k ty) y => (do
   let con ← RM.ofOption (X.con k)
   let vs ← evAll args.toList
   let us ← RM.ofOption (capSVs ty y)
   con.run (vs ++ us) d)
  | .mclo k bs => (do
   let con ← RM.ofOption (X.con k)
   let vs ← evAll args.toList
   con.run (vs ++ bs.map fun b => .one (.ptr b 0)) d)
  | _ => .fail
 | .call { callee := .builtin .len, args, argTypes } => (match args.toList, argTypes.toList with
  | [x], [t] => (do
   let i ← ti X t
   let c ← evC x
   match i.d, c with
   | .str, .dat .str _ => lenR c
   | .slice _, .dat (.list _) _ => lenR c
   | .slice _, .row _ _ => lenR c
   | .slice _, .sub _ _ _ _ => lenR c
   | .slice _, .nilsl => lenR c
   | _, _ => .fail)
  | _, _ => .fail)
 | .call { callee := .builtin .max, args, .. } => (match args.toList with
  | [x, y] => (do minMax true (← ev x) (← ev y))
  | _ => .fail)
 | .call { callee := .builtin .min, args, .. } => (match args.toList with
  | [x, y] => (do minMax false (← ev x) (← ev y))
  | _ => .fail)
 | .call { callee := .builtin .delete, args, argTypes } => (match args.toList, argTypes.toList with
  | [m, k], [t, _] => (do
   let ke ← mapTI X t
   ownMap (fun n a b xs _ => do
    let x ← keyR X ke.1 a k
    .ret { blks := [(n, .map false a b (mdel a xs x) none)] }) (← evC m))
  | _, _ => .fail)
 | .call { callee := .builtin .append, args, argTypes } => (match args.toList, argTypes.toList with
  | [s, x], [t, u] => (do
   guardR (Nat.beq t u)
   let i ← ti X t
   match i.d with
   | .slice e => (do
    let j ← ti X e
    let ty ← RM.ofOption j.ty
    let _ ← zeroD j ty
    let c ← evC s
    appendR d e j ty c (← evC x))
   | _ => .fail)
  | _, _ => .fail)
 | _ => .fail
end Go.Vc
end

section
set_option linter.unusedVariables false
set_option linter.unusedSimpArgs false
namespace Go.Vc
open Go
variable {P : Program} {X : Ctx} {w0 : World} {foot : Foot} {base : Mem} {S : St} {E : Env} {a : Act} {w : World} {ctx : Tags}
theorem run_ofOption {α : Type} {x : Option α} {y : α} (h : (RM.ofOption x).run S ctx = some y) : x = some y := by
 cases x with
 | none => cases h
 | some z => exact h
theorem constC_rep {v : Value} {c : C} (h : constC v = some c) : CRep E c v := by
 unfold constC at h
 split at h
 ·cases h; exact ⟨rfl, rfl⟩
 ·split at h
  ·rename_i k n hk
   cases h
   simp only [Bool.and_eq_true, decide_eq_true_eq] at hk
   exact ⟨rfl, rfl, hk⟩
  ·cases h
 ·split at h
  ·rename_i s hs
   cases h
   exact ⟨rfl, rfl, Nat.le_of_ble_eq_true hs⟩
  ·cases h
 ·cases h; rfl
 ·cases h; rfl
 ·cases h; rfl
 ·cases h; rfl
 ·cases h
theorem constCs_rep : ∀ {vs : List Value} {cs : List C}, constCs vs = some cs → CReps E cs vs
 | [], cs, h => by cases h; rfl
 | v :: vs, cs, h => by
  unfold constCs at h
  split at h
  ·rename_i c cs' h1 h2
   cases h
   exact ⟨v, vs, rfl, constC_rep h1, constCs_rep h2⟩
  ·cases h
theorem constSV_rep {v : Value} {s : SV} (h : constSV v = some s) : SRep E s v := by
 unfold constSV at h
 split at h
 ·obtain ⟨cs, h1, rfl⟩ := Option.map_eq_some_iff.1 h
  exact ⟨_, rfl, constCs_rep h1⟩
 ·obtain ⟨c, h1, rfl⟩ := Option.map_eq_some_iff.1 h
  exact constC_rep h1
theorem TagsHold.sub {ts us : Tags} (h : TagsHold a us) (hs : tagsIn us ts = true) : TagsHold a ts := fun t ht => h t (tagsIn_mem hs t ht)
theorem evx_rep (h : SRel w0 foot base S E a w) {ex : Tags} {x : Operand} {s : SV} (hc : TagsHold a (ex ++ ctx)) (hr : (evx ex x).run S ctx = some s) : SRep E s (a.eval x) := by
 unfold evx at hr
 split at hr
 ·rename_i t
  simp only [RM.run] at hr
  split at hr
  ·rename_i tags v hf
   split at hr
   ·rename_i ht
    cases hr
    exact h.slots _ _ _ hf (hc.sub ht)
   ·cases hr
  ·cases hr
 ·exact constSV_rep (run_ofOption hr)
 ·cases hr
  exact ⟨rfl, #[], rfl, rfl⟩
 ·cases hr
theorem ev_rep (h : SRel w0 foot base S E a w) {x : Operand} {s : SV} (hc : TagsHold a ctx) (hr : (ev x).run S ctx = some s) : SRep E s (a.eval x) :=
 evx_rep h (ex := []) hc hr
theorem asC_rep {s : SV} {c : C} {v : Value} (hv : SRep E s v) (hr : (asC s).run S ctx = some c) : CRep E c v := by
 unfold asC at hr
 split at hr
 ·cases hr; exact hv
 ·cases hr
theorem evC_rep (h : SRel w0 foot base S E a w) {x : Operand} {c : C} (hc : TagsHold a ctx) (hr : (evC x).run S ctx = some c) : CRep E c (a.eval x) := by
 obtain ⟨s, h1, h2⟩ := RM.run_bind' hr
 exact asC_rep (ev_rep h hc h1) h2
theorem asCells_rep {s : SV} {cs : List C} {v : Value} (hv : SRep E s v) (hr : (asCells s).run S ctx = some cs) : CReps E cs v.cells.toList := by
 unfold asCells at hr
 split at hr
 ·cases hr
  have hv : CRep E _ v := hv
  rw [Value.cells_one hv.oneCell]
  exact ⟨v, [], rfl, hv, rfl⟩
 ·cases hr
  obtain ⟨vs, rfl, hv⟩ := hv
  exact hv
 ·cases hr
theorem evCells_rep (h : SRel w0 foot base S E a w) {x : Operand} {cs : List C} (hc : TagsHold a ctx) {s : SV} (h1 : (ev x).run S ctx = some s) (hr : (asCells s).run S ctx = some cs) :
  CReps E cs (a.eval x).cells.toList := asCells_rep (ev_rep h hc h1) hr
theorem asB_rep {s : SV} {b : Bool} {v : Value} (hv : SRep E s v) (hr : (asB s).run S ctx = some b) : v = .bool b := by
 unfold asB at hr
 split at hr
 ·cases hr
  have := hv.2
  simpa [Rep] using this
 ·cases hr
theorem asI_rep {s : SV} {n : Int} {v : Value} (hv : SRep E s v) (hr : (asI s).run S ctx = some n) : ∃ k, v = .int k n ∧ InR k n := by
 unfold asI at hr
 split at hr
 ·rename_i k n
  cases hr
  have := hv.2
  exact ⟨k, by simpa using this.1, this.2⟩
 ·cases hr
def applyFro (fr : Fro) (bl : List (Nat × Blk)) : List (Nat × Blk) := fr.foldl (fun l p => put l p.1 p.2) bl
def Frozen (bl : List (Nat × Blk)) (E : Env) (w : World) (fr : Fro) : Prop :=
 ∀ q ∈ fr, ∃ p, E.place q.1 = some p ∧ BRep E w p q.2
def FroAt (pre : Fro) (B D : Blk) : Prop :=
 (∃ f e t xs, D = .row true e t xs ∧ B = .row f e t xs) ∨
 (∃ t x, D = .fcells t x ∧ (B = .fcells t x ∨ ∃ cs g, B = .cells cs ∧ (∀ q ∈ g, q ∈ pre) ∧ ∀ (E : Env) (w : World) (vs : List Value), CReps E cs vs → Frozen [] E w g → Rep E.F t x vs)) ∨
 (∃ f a b m c, D = .map true a b m none ∧ B = .map f a b m c)
theorem FroAt.again {pre : Fro} {B D : Blk} (h : FroAt pre B D) : FroAt pre D D := by
 rcases h with ⟨f, e, t, xs, rfl, rfl⟩ | ⟨t, x, rfl, h⟩ | ⟨f, a, b, m, c, rfl, rfl⟩
 ·exact .inl ⟨_, _, _, _, rfl, rfl⟩
 ·exact .inr (.inl ⟨_, _, rfl, .inl rfl⟩)
 ·exact .inr (.inr ⟨_, _, _, _, _, rfl, rfl⟩)
theorem FroAt.mono {pre pre' : Fro} (hp : ∀ q ∈ pre, q ∈ pre') {B D : Blk} (h : FroAt pre B D) : FroAt pre' B D := by
 rcases h with h | ⟨t, x, rfl, rfl | ⟨cs, g, h1, h2, h3⟩⟩ | h
 ·exact .inl h
 ·exact .inr (.inl ⟨_, _, rfl, .inl rfl⟩)
 ·exact .inr (.inl ⟨_, _, rfl, .inr ⟨cs, g, h1, fun q hq => hp q (h2 q hq), h3⟩⟩)
 ·exact .inr (.inr h)
structure FroOn (done : Fro) (bl : List (Nat × Blk)) (fr : Fro) : Prop where
 at_ : ∀ l1 p l2, fr = l1 ++ p :: l2 → ∃ B, find bl p.1 = some B ∧ FroAt (done ++ l1) B p.2
 det : ∀ p ∈ done ++ fr, ∀ q ∈ done ++ fr, p.1 = q.1 → p.2 = q.2
 got : ∀ q ∈ done, find bl q.1 = some q.2
abbrev FroOk (bl : List (Nat × Blk)) (fr : Fro) : Prop := FroOn [] bl fr
theorem FroOk.nil {bl : List (Nat × Blk)} : FroOk bl [] where
 at_ l1 p l2 h := by cases l1 <;> cases h
 det p hp := by cases hp
 got q hq := by cases hq
theorem FroOk.one {bl : List (Nat × Blk)} {n : Nat} {B D : Blk} (hf : find bl n = some B) (hF : FroAt [] B D) : FroOk bl [(n, D)] where
 at_ l1 p l2 h := by
  cases l1 with
  | nil => cases h; exact ⟨B, hf, hF⟩
  | cons a l => cases l <;> cases h
 det p hp q hq _ := by
  simp only [List.nil_append, List.mem_singleton] at hp hq
  rw [hp, hq]
 got q hq := by cases hq
theorem FroOn.tail {done : Fro} {bl : List (Nat × Blk)} {p : Nat × Blk} {fr : Fro} (ho : FroOn done bl (p :: fr)) : FroOn (done ++ [p]) (put bl p.1 p.2) fr where
 at_ l1 q l2 h := by
  obtain ⟨B, h1, h2⟩ := ho.at_ (p :: l1) q l2 (by rw [h]; rfl)
  have h2 : FroAt (done ++ [p] ++ l1) B q.2 := by rw [List.append_assoc]; exact h2
  by_cases hb : p.1 = q.1
  ·have e := ho.det p (by simp) q (by rw [h]; simp) hb
   exact ⟨p.2, by rw [← hb, find_put_same], e ▸ h2.again⟩
  ·exact ⟨B, by rw [find_put_other _ _ _ _ hb]; exact h1, h2⟩
 det q hq r hr := ho.det q (by simpa using hq) r (by simpa using hr)
 got q hq := by
  rcases List.mem_append.1 hq with hq | hq
  ·by_cases hb : p.1 = q.1
   ·have e := ho.det p (by simp) q (by simp [hq]) hb
    rw [← hb, find_put_same, e]
   ·rw [find_put_other _ _ _ _ hb]
    exact ho.got q hq
  ·rw [List.mem_singleton.1 hq, find_put_same]
theorem noId_mem : ∀ {g : Fro} {m : Nat}, noId g m = true → ∀ q ∈ g, q.1 ≠ m
 | [], _, _, q, hq => by cases hq
 | (k, B) :: g, m, h, q, hq => by
  unfold noId at h
  split at h
  ·cases h
  ·rename_i hb
   rcases List.mem_cons.1 hq with rfl | hq
   ·intro e; simp only at e; subst e; simp at hb
   ·exact noId_mem h q hq
theorem apart1_spec : ∀ {f g : Fro}, apart1 f g = true → ∀ p ∈ f, ∀ q ∈ g, p.1 = q.1 → isF p.2 = false
 | [], _, _, p, hp => by cases hp
 | (m, B) :: f, g, h, p, hp => by
  simp only [apart1, Bool.and_eq_true, Bool.or_eq_true, Bool.not_eq_true'] at h
  rcases List.mem_cons.1 hp with rfl | hp
  ·intro q hq e
   rcases h.1 with h1 | h1
   ·exact h1
   ·exact absurd e.symm (noId_mem h1 q hq)
  ·exact apart1_spec h.2 p hp
theorem FroAt.det {pre pre' : Fro} {B D D' : Blk} (h : FroAt pre B D) (k : FroAt pre' B D') (hD : isF D = false) (hD' : isF D' = false) : D = D' := by
 rcases h with ⟨f, e, t, xs, rfl, rfl⟩ | ⟨t, x, rfl, _⟩ | ⟨f, a, b, m, c, rfl, rfl⟩
 ·rcases k with ⟨f, e, t, xs, rfl, k⟩ | ⟨t, x, rfl, _⟩ | ⟨f, a, b, m, c', rfl, k⟩
  ·cases k; rfl
  ·cases hD'
  ·cases k
 ·cases hD
 ·rcases k with ⟨f, e, t, xs, rfl, k⟩ | ⟨t, x, rfl, _⟩ | ⟨f, a, b, m, c', rfl, k⟩
  ·cases k
  ·cases hD'
  ·cases k; rfl
theorem FroOk.append {bl : List (Nat × Blk)} {f g : Fro} (h : FroOk bl f) (k : FroOk bl g) (ha : froApart f g = true) : FroOk bl (f ++ g) := by
 simp only [froApart, Bool.and_eq_true] at ha
 have at1 : ∀ {f : Fro}, FroOk bl f → ∀ p ∈ f, ∃ B pre, find bl p.1 = some B ∧ FroAt pre B p.2 := fun {f} h p hp => by
  obtain ⟨l1, l2, e⟩ := List.append_of_mem hp
  obtain ⟨B, h1, h2⟩ := h.at_ l1 p l2 e
  exact ⟨B, _, h1, h2⟩
 have cross : ∀ p ∈ f, ∀ q ∈ g, p.1 = q.1 → p.2 = q.2 := fun p hp q hq e => by
  obtain ⟨B, _, h1, h2⟩ := at1 h p hp
  obtain ⟨B', _, h3, h4⟩ := at1 k q hq
  rw [e, h3] at h1
  cases h1
  exact h2.det h4 (apart1_spec ha.1 p hp q hq e) (apart1_spec ha.2 q hq p hp e.symm)
 refine ⟨fun l1 p l2 e => ?_, fun p hp q hq e => ?_, fun q hq => by cases hq⟩
 ·rcases List.append_eq_append_iff.1 e with ⟨l, e1, e2⟩ | ⟨l, e1, e2⟩
  ·obtain ⟨B, h1, h2⟩ := k.at_ l p l2 e2
   exact ⟨B, h1, h2.mono fun q hq => by rw [e1]; simp only [List.nil_append] at hq ⊢; exact List.mem_append_right _ hq⟩
  ·cases l with
   | nil =>
    obtain ⟨B, h1, h2⟩ := k.at_ [] p l2 (by simpa using e2.symm)
    exact ⟨B, h1, h2.mono fun q hq => by cases hq⟩
   | cons r l =>
    simp only [List.cons_append, List.cons.injEq] at e2
    obtain ⟨rfl, _⟩ := e2
    obtain ⟨B, h1, h2⟩ := h.at_ l1 p l e1
    exact ⟨B, h1, h2⟩
 ·simp only [List.nil_append] at hp hq
  rcases List.mem_append.1 hp with hp | hp
  ·rcases List.mem_append.1 hq with hq | hq
   ·exact h.det p hp q hq e
   ·exact cross p hp q hq e
  ·rcases List.mem_append.1 hq with hq | hq
   ·exact (cross q hq p hp e.symm).symm
   ·exact k.det p hp q hq e
theorem FroOk.nest {bl : List (Nat × Blk)} {g : Fro} {b : Nat} {cs : List C} {t : Ty} {x : t.den} (h : FroOk bl g) (hb : find bl b = some (.cells cs)) (hg : (noF g && noId g b) = true)
  (hr : ∀ (E : Env) (w : World) (vs : List Value), CReps E cs vs → Frozen [] E w g → Rep E.F t x vs) : FroOk bl (g ++ [(b, .fcells t x)]) := by
 simp only [Bool.and_eq_true] at hg
 have hid := noId_mem hg.2
 refine ⟨fun l1 p l2 e => ?_, fun p hp q hq e => ?_, fun q hq => by cases hq⟩
 ·rcases List.append_eq_append_iff.1 e with ⟨l, e1, e2⟩ | ⟨l, e1, e2⟩
  ·cases l with
   | nil =>
    simp only [List.nil_append, List.cons.injEq] at e2
    obtain ⟨rfl, _⟩ := e2
    exact ⟨_, hb, .inr (.inl ⟨t, x, rfl, .inr ⟨cs, g, rfl, fun q hq => by rw [e1]; simpa using hq, hr⟩⟩)⟩
   | cons r l => cases l <;> cases e2
  ·cases l with
   | nil =>
    simp only [List.nil_append, List.cons.injEq] at e2
    obtain ⟨rfl, _⟩ := e2
    refine ⟨_, hb, .inr (.inl ⟨t, x, rfl, .inr ⟨cs, g, rfl, fun q hq => ?_, hr⟩⟩)⟩
    rw [e1] at hq; simpa using hq
   | cons r l =>
    simp only [List.cons_append, List.cons.injEq] at e2
    obtain ⟨rfl, _⟩ := e2
    exact h.at_ l1 p l e1
 ·simp only [List.nil_append, List.mem_append, List.mem_singleton] at hp hq
  rcases hp with hp | rfl
  ·rcases hq with hq | rfl
   ·exact h.det p hp q hq e
   ·exact absurd e (hid p hp)
  ·rcases hq with hq | rfl
   ·exact absurd e.symm (hid q hq)
   ·rfl
theorem HRel.freezeAt {bl : List (Nat × Blk)} {used : List Nat} (h : HRel w0 foot base bl used E w) {id : Nat} {B D : Blk} {pre : Fro} (hf : find bl id = some B) (hF : FroAt pre B D) (hg : ∀ q ∈ pre, find bl q.1 = some q.2) :
  ∃ E', E.le E' ∧ E'.place = E.place ∧ (∀ b o, E'.F b = some o → E.F b = some o ∨ (w.heap[b]? = some o ∧ (∃ p, E.place id = some p ∧ p.nil = false ∧ p.blk = b))) ∧ HRel w0 foot base (put bl id D) used E' w := by
 rcases hF with ⟨f, e, t, xs, rfl, rfl⟩ | ⟨t, x, rfl, rfl | ⟨cs, g, rfl, hgp, hr⟩⟩ | ⟨f, a, b, m, c, rfl, rfl⟩
 ·exact h.freeze hf
 ·refine ⟨E, .refl _, rfl, fun _ _ h => .inl h, h.congr (fun i D hi => ?_) (fun _ h => h)⟩
  by_cases e : i = id
  ·subst e; rw [find_put_same] at hi; rw [← hi]; exact hf
  ·rwa [find_put_other _ _ _ _ (Ne.symm e)] at hi
 ·exact h.freezeCells hf fun vs hv => hr E w vs hv fun q hq => h.blks _ _ (hg q (hgp q hq))
 ·exact h.freezeMap hf
theorem HRel.applyFroOn {used : List Nat} : ∀ {fr done : Fro} {bl : List (Nat × Blk)} {E : Env}, HRel w0 foot base bl used E w → FroOn done bl fr →
  ∃ E', E.le E' ∧ E'.place = E.place ∧ (∀ b o, E'.F b = some o → E.F b = some o ∨ (w.heap[b]? = some o ∧ ∃ q ∈ fr, ∃ p, E.place q.1 = some p ∧ p.nil = false ∧ p.blk = b)) ∧ HRel w0 foot base (applyFro fr bl) used E' w
 | [], _, _, E, h, _ => ⟨E, .refl _, rfl, fun _ _ h => .inl h, h⟩
 | q :: fr, done, bl, E, h, ho => by
  obtain ⟨B, h3, h4⟩ := ho.at_ [] q fr rfl
  have hgot := ho.got
  have ho := ho.tail
  obtain ⟨E1, l1, p1, f1, h1⟩ := h.freezeAt h3 h4 (by simpa using hgot)
  obtain ⟨E2, l2, p2, f2, h2⟩ := HRel.applyFroOn h1 ho
  refine ⟨E2, l1.trans l2, p2.trans p1, fun b o hb => ?_, h2⟩
  rcases f2 b o hb with h5 | ⟨h5, q', hq', p, h6⟩
  ·rcases f1 b o h5 with h5 | ⟨h5, p, h6⟩
   ·exact .inl h5
   ·exact .inr ⟨h5, q, List.mem_cons_self, p, h6⟩
  ·exact .inr ⟨h5, q', List.mem_cons_of_mem _ hq', p, p1 ▸ h6⟩
theorem HRel.applyFro {used : List Nat} {fr : Fro} {bl : List (Nat × Blk)} {E : Env} (h : HRel w0 foot base bl used E w) (ho : FroOk bl fr) :
  ∃ E', E.le E' ∧ E'.place = E.place ∧ (∀ b o, E'.F b = some o → E.F b = some o ∨ (w.heap[b]? = some o ∧ ∃ q ∈ fr, ∃ p, E.place q.1 = some p ∧ p.nil = false ∧ p.blk = b)) ∧ HRel w0 foot base (applyFro fr bl) used E' w :=
 HRel.applyFroOn h ho
theorem find_applyFro_mem {q : Nat × Blk} : ∀ {fr : Fro} {bl : List (Nat × Blk)}, (∀ p ∈ fr, p.1 = q.1 → p.2 = q.2) → (find bl q.1 = some q.2 ∨ q ∈ fr) → find (applyFro fr bl) q.1 = some q.2
 | [], bl, _, h => by
  rcases h with h | h
  ·exact h
  ·cases h
 | r :: fr, bl, hd, h => by
  show find (Vc.applyFro fr (put bl r.1 r.2)) q.1 = _
  refine find_applyFro_mem (fun p hp => hd p (List.mem_cons_of_mem _ hp)) ?_
  by_cases hb : r.1 = q.1
  ·left
   rw [← hb, find_put_same, hd r List.mem_cons_self hb]
  ·rw [find_put_other _ _ _ _ hb]
   rcases h with h | h
   ·exact .inl h
   ·rcases List.mem_cons.1 h with rfl | h
    ·exact absurd rfl hb
    ·exact .inr h
theorem Frozen.of_apply {bl : List (Nat × Blk)} {used : List Nat} {fr : Fro} (ho : FroOk bl fr) (h : HRel w0 foot base (applyFro fr bl) used E w) : Frozen bl E w fr := fun q hq => by
 obtain ⟨p, hp, hB⟩ := h.blks q.1 q.2 (find_applyFro_mem (fun p hp e => ho.det p (by simpa using hp) q (by simpa using hq) e) (.inr hq))
 exact ⟨p, hp, hB⟩
theorem Rep_as {F : Mem} {t t' : Ty} {x : t.den} {y : t'.den} {vs : List Value} (h : Ty.as t' x = some y) (hr : Rep F t x vs) : Rep F t' y vs := by
 obtain ⟨e, rfl⟩ := Ty.as_some h
 subst e
 exact hr
theorem row_rep {p : Place} {e : Nat} {t : Ty} {xs : List t.den} (hB : BRep E w p (.row true e t xs)) (lo len : Nat) (hl : lo + len ≤ p.len) {v : Value}
  (hv : (p.nil = true ∧ v = .slice none 0 0) ∨ (p.nil = false ∧ ∃ a : Addr, v = .slice (some a) len (p.cap - lo) ∧ (lo = p.cap ∨ a = ⟨p.blk, lo * t.size, none⟩))) :
  Rep E.F (.list t) (lit ((xs.drop lo).take len)) [v] := by
 rcases hB with ⟨hn, hx, hz⟩ | ⟨hn, h0, ⟨h1, h1'⟩, vs, h2, h3, h4, h5⟩
 ·rcases hv with ⟨_, rfl⟩ | ⟨hn', _⟩
  ·subst hx
   have hl0 : len = 0 := by omega
   subst hl0
   refine ⟨none, 0, by simp [lit], by simp [lit], by simp [maxLenI], fun _ => rfl, fun p hp => by cases hp⟩
  ·rw [hn] at hn'; cases hn'
 ·rcases hv with ⟨hn', _⟩ | ⟨_, a, rfl, ha⟩
  ·rw [hn] at hn'; cases hn'
  ·have hlen : (Ty.L (t := t) (lit ((xs.drop lo).take len))).length = len := by simp [lit, h1]; omega
   refine ⟨some a, p.cap - lo, by rw [hlen], by rw [hlen]; omega, by omega, (fun h => by cases h), fun p' hp i x hx => ?_⟩
   cases hp
   have hi : i < len := by
    have := (List.getElem?_eq_some_iff.1 hx).1
    omega
   have hx' : xs[lo + i]? = some x := by
    have hx2 : ((xs.drop lo).take len)[i]? = some x := hx
    rw [List.getElem?_take_of_lt hi, List.getElem?_drop] at hx2
    exact hx2
   rcases ha with ha | rfl
   ·omega
   ·obtain ⟨us, k1, k2, k3⟩ := h5 _ x hx'
    refine ⟨rfl, us, k1, k2, fun j u hu => ⟨vs, e, (0, 0), h4 rfl, ?_⟩⟩
    have := k3 j u hu
    rw [show lo * t.size + (i * t.size + j) = (lo + i) * t.size + j by rw [Nat.add_mul]; omega]
    exact this
theorem lit_full {t : Ty} (xs : List t.den) : (xs.drop 0).take xs.length = xs := by simp
theorem reifyC_froOk {t : Ty} {c : C} {x : t.den} {fr : Fro} (hr : (reifyC t c).run S ctx = some (x, fr)) : FroOk S.bl fr := by
 unfold reifyC at hr
 split at hr
 ·obtain ⟨y, _, h2⟩ := RM.run_bind' hr
  cases RM.run_pure' h2
  exact .nil
 ·simp only [RM.run] at hr
  split at hr
  ·rename_i B hf
   split at hr
   ·split at hr
    ·obtain ⟨y, _, h2⟩ := RM.run_bind' hr
     cases RM.run_pure' h2
     exact .one hf (.inl ⟨_, _, _, _, rfl, rfl⟩)
    ·cases hr
   ·cases hr
  ·cases hr
 ·simp only [RM.run] at hr
  split at hr
  ·rename_i B hf
   split at hr
   ·split at hr
    ·obtain ⟨y, _, h2⟩ := RM.run_bind' hr
     cases RM.run_pure' h2
     exact .one hf (.inl ⟨_, _, _, _, rfl, rfl⟩)
    ·cases hr
   ·cases hr
  ·cases hr
 ·split at hr
  ·cases hr; exact .nil
  ·cases hr
 ·split at hr
  ·cases hr; exact .nil
  ·cases hr
 ·simp only [RM.run] at hr
  split at hr
  ·rename_i B hf
   split at hr
   ·obtain ⟨y, _, h2⟩ := RM.run_bind' hr
    cases RM.run_pure' h2
    exact .one hf (.inr (.inr ⟨_, _, _, _, _, rfl, rfl⟩))
   ·cases hr
  ·cases hr
 ·split at hr
  ·cases hr; exact .nil
  ·cases hr
 ·cases hr
theorem run_guardR {b : Bool} {u : Unit} (h : (guardR b).run S ctx = some u) : b = true := by
 unfold guardR at h
 split at h
 ·rfl
 ·cases h
theorem Frozen.nil {bl : List (Nat × Blk)} : Frozen bl E w [] := fun q hq => (by cases hq)
theorem map_rep {p : Place} {a b : Ty} {m : List (a.den × b.den)} {c : Option (Nat × Nat)} (hB : BRep E w p (.map true a b m c)) {v : Value} (hv : v = .map (some p.blk)) : Rep E.F (.map a b) m [v] := by
 obtain ⟨_, es, cl, k1, k2, k3, _⟩ := hB
 refine ⟨some p.blk, by rw [hv], (fun h => by cases h), fun q hq => ?_⟩
 cases hq
 exact ⟨es, cl, k2 rfl, k3.stamps, k3.keys, k3.size, k3.at_⟩
theorem reifyC_rep {t : Ty} {c : C} {x : t.den} {fr : Fro} {v : Value} (hr : (reifyC t c).run S ctx = some (x, fr)) (hv : CRep E c v) (hf : Frozen S.bl E w fr) : Rep E.F t x [v] := by
 unfold reifyC at hr
 split at hr
 ·obtain ⟨y, h1, h2⟩ := RM.run_bind' hr
  cases RM.run_pure' h2
  exact Rep_as (run_ofOption h1) hv.2
 ·rename_i tt b
  simp only [RM.run] at hr
  split at hr
  ·rename_i B hB
   split at hr
   ·rename_i f e t' xs
    split at hr
    ·rename_i ht
     obtain ⟨y, h1, h2⟩ := RM.run_bind' hr
     cases RM.run_pure' h2
     refine Rep_as (run_ofOption h1) ?_
     obtain ⟨p, hp, hB'⟩ := hf (b, .row true e t' xs) (by simp)
     obtain ⟨p', hp', k⟩ := hv
     rw [hp] at hp'
     cases hp'
     have hlen : p.len = xs.length := by
      rcases hB' with ⟨_, hx, hz⟩ | ⟨_, _, ⟨h1, _⟩, _⟩
      ·subst hx; exact hz
      ·exact h1.symm
     have := row_rep (lo := 0) (len := xs.length) hB' (by omega) (v := v) (by
      rcases k with ⟨hn, hv, _⟩ | ⟨hn, hv, _⟩
      ·exact .inl ⟨hn, hv⟩
      ·exact .inr ⟨hn, _, by rw [hv, hlen]; rfl, .inr (by simp)⟩)
     rwa [lit_full] at this
    ·cases hr
   ·cases hr
  ·cases hr
 ·rename_i tt b lo len
  simp only [RM.run] at hr
  split at hr
  ·rename_i B hB
   split at hr
   ·rename_i f e t' xs
    split at hr
    ·rename_i ht
     have ht := Ty.beq_eq ht
     subst ht
     obtain ⟨y, h1, h2⟩ := RM.run_bind' hr
     cases RM.run_pure' h2
     refine Rep_as (run_ofOption h1) ?_
     obtain ⟨p, hp, hB'⟩ := hf (b, .row true e tt xs) (by simp)
     obtain ⟨p', hp', hl, k⟩ := hv
     rw [hp] at hp'
     cases hp'
     refine row_rep hB' lo len hl ?_
     rcases k with ⟨hn, hv, _⟩ | ⟨hn, a, hv, _, _, h⟩
     ·exact .inl ⟨hn, hv⟩
     ·exact .inr ⟨hn, a, hv, h⟩
    ·cases hr
   ·cases hr
  ·cases hr
 ·split at hr
  ·cases hr
   have hv : v = _ := hv
   subst hv
   exact ⟨none, 0, rfl, Nat.le_refl _, by simp [maxLenI], fun _ => rfl, fun p hp => by cases hp⟩
  ·cases hr
 ·split at hr
  ·cases hr
   have hv : v = _ := hv
   subst hv
   exact .inl ⟨rfl, rfl⟩
  ·cases hr
 ·rename_i a b n
  simp only [RM.run] at hr
  split at hr
  ·rename_i B hB
   split at hr
   ·rename_i f a' b' m c
    obtain ⟨y, h1, h2⟩ := RM.run_bind' hr
    cases RM.run_pure' h2
    refine Rep_as (run_ofOption h1) ?_
    obtain ⟨p, hp, hB'⟩ := hf (n, .map true a' b' m none) (by simp)
    obtain ⟨p', hp', hn, hv⟩ := hv
    rw [hp] at hp'
    cases hp'
    exact map_rep hB' hv
   ·cases hr
  ·cases hr
 ·split at hr
  ·cases hr
   have hv : v = _ := hv
   subst hv
   exact ⟨none, rfl, fun _ => rfl, fun n hn => by cases hn⟩
  ·cases hr
 ·cases hr
theorem Frozen.left {bl : List (Nat × Blk)} {f g : Fro} (h : Frozen bl E w (f ++ g)) : Frozen bl E w f := fun q hq => h q (List.mem_append_left _ hq)
theorem Frozen.right {bl : List (Nat × Blk)} {f g : Fro} (h : Frozen bl E w (f ++ g)) : Frozen bl E w g := fun q hq => h q (List.mem_append_right _ hq)
theorem one_cell {t : Ty} {c : C} {x : t.den} {fr : Fro} {vs : List Value} (hr : (reifyC t c).run S ctx = some (x, fr)) (hv : CReps E [c] vs) (hf : Frozen S.bl E w fr) : Rep E.F t x vs := by
 obtain ⟨v, us, rfl, h1, h2⟩ := hv
 rw [show us = [] from h2]
 exact reifyC_rep hr h1 hf
theorem elt_ref {t t' : Ty} {xs : List t'.den} {i : Nat} {x : t.den} {v : Value} (hv : CRep E (.elt t' xs i 0) v) (hx : Ty.as (a := t') t (at' xs i) = some x) : Rep E.F (.ref t) x [v] := by
 obtain ⟨hi, b, off, rfl, k⟩ := hv
 obtain ⟨us, k1, k2, k3⟩ := k i (at' xs i) (by unfold at'; rw [List.getD_eq_getElem?_getD, List.getElem?_eq_getElem hi]; rfl)
 have hr := Rep_as hx k1
 obtain ⟨e, _⟩ := Ty.as_some hx
 subst e
 exact ⟨b, off + (i * t'.size + 0), rfl, us, hr, k2, fun j u hu => by simpa [Nat.add_assoc] using k3 j u hu⟩
theorem fcells_ref {t t' : Ty} {b : Nat} {y : t'.den} {x : t.den} {v : Value} (hv : CRep E (.ptr b 0) v) (hf : Frozen S.bl E w [(b, .fcells t' y)]) (hx : Ty.as (a := t') t y = some x) : Rep E.F (.ref t) x [v] := by
 obtain ⟨p, hp, hB⟩ := hf (b, .fcells t' y) (by simp)
 obtain ⟨p', hp', hn, rfl⟩ := hv
 rw [hp] at hp'
 cases hp'
 obtain ⟨_, vs, e, h1, h2, h3⟩ := hB
 have hr := Rep_as hx h3
 exact ⟨p.blk, 0, rfl, vs.toList, hr, hr.length, fun j u hu => ⟨vs, e, (0, 0), h2, by simpa using hu⟩⟩
theorem Rep.ptr_of_ref {F : Mem} {t : Ty} {x : t.den} {vs : List Value} (h : Rep F (.ref t) x vs) : Rep F (.ptr t) (some x) vs := by
 obtain ⟨b, off, h0, h1⟩ := h
 exact .inr ⟨x, rfl, b, off, h0, h1⟩
theorem one_reps {c : C} {vs : List Value} (hv : CReps E [c] vs) : ∃ v, vs = [v] ∧ CRep E c v := by
 obtain ⟨v, us, rfl, h1, h2⟩ := hv
 exact ⟨v, by rw [show us = [] from h2], h1⟩
theorem reify_rep : ∀ {t : Ty} {cs : List C} {x : t.den} {fr : Fro} {E : Env} {vs : List Value}, (reify t cs).run S ctx = some (x, fr) → CReps E cs vs → Frozen S.bl E w fr → Rep E.F t x vs
 | .unit, cs, x, fr, E, vs, hr, hv, hf => by
  unfold reify at hr
  split at hr
  ·exact hv
  ·cases hr
 | .pair t u, cs, x, fr, E, vs, hr, hv, hf => by
  unfold reify at hr
  obtain ⟨⟨y, f⟩, h1, h2⟩ := RM.run_bind' hr
  obtain ⟨⟨z, g⟩, h3, h4⟩ := RM.run_bind' h2
  obtain ⟨_, h5, h6⟩ := RM.run_bind' h4
  cases RM.run_pure' h6
  exact ⟨vs.take t.size, vs.drop t.size, (List.take_append_drop _ _).symm, reify_rep h1 (hv.take _) hf.left, reify_rep h3 (hv.drop _) hf.right⟩
 | .int k, cs, x, fr, E, vs, hr, hv, hf => by
  unfold reify at hr
  split at hr
  ·exact one_cell hr hv hf
  ·cases hr
 | .bool, cs, x, fr, E, vs, hr, hv, hf => by
  unfold reify at hr
  split at hr
  ·exact one_cell hr hv hf
  ·cases hr
 | .str, cs, x, fr, E, vs, hr, hv, hf => by
  unfold reify at hr
  split at hr
  ·exact one_cell hr hv hf
  ·cases hr
 | .list t, cs, x, fr, E, vs, hr, hv, hf => by
  unfold reify at hr
  split at hr
  ·exact one_cell hr hv hf
  ·cases hr
 | .clo k t, cs, x, fr, E, vs, hr, hv, hf => by
  unfold reify at hr
  split at hr
  ·exact one_cell hr hv hf
  ·cases hr
 | .map a b, cs, x, fr, E, vs, hr, hv, hf => by
  unfold reify at hr
  split at hr
  ·exact one_cell hr hv hf
  ·cases hr
 | .ref t, cs, x, fr, E, vs, hr, hv, hf => by
  unfold reify at hr
  split at hr
  ·split at hr
   ·rename_i ho
    have ho := Nat.eq_of_beq_eq_true ho
    subst ho
    obtain ⟨y, h1, h2⟩ := RM.run_bind' hr
    cases RM.run_pure' h2
    obtain ⟨v, rfl, hv1⟩ := one_reps hv
    exact elt_ref hv1 (run_ofOption h1)
   ·cases hr
  ·split at hr
   ·rename_i ho
    have ho := Nat.eq_of_beq_eq_true ho
    subst ho
    obtain ⟨v, rfl, hv1⟩ := one_reps hv
    simp only [RM.run] at hr
    split at hr
    ·split at hr
     ·obtain ⟨⟨y, f⟩, h1, h2⟩ := RM.run_bind' hr
      obtain ⟨_, h3, h4⟩ := RM.run_bind' h2
      cases RM.run_pure' h4
      exact fcells_ref hv1 hf.right (Ty.as_self y)
     ·obtain ⟨y, h1, h2⟩ := RM.run_bind' hr
      cases RM.run_pure' h2
      exact fcells_ref hv1 hf (run_ofOption h1)
     ·cases hr
    ·cases hr
   ·cases hr
  ·cases hr
 | .ptr t, cs, x, fr, E, vs, hr, hv, hf => by
  unfold reify at hr
  split at hr
  ·split at hr
   ·rename_i ho
    have ho := Nat.eq_of_beq_eq_true ho
    subst ho
    obtain ⟨y, h1, h2⟩ := RM.run_bind' hr
    cases RM.run_pure' h2
    obtain ⟨v, rfl, hv1⟩ := one_reps hv
    exact (elt_ref hv1 (run_ofOption h1)).ptr_of_ref
   ·cases hr
  ·split at hr
   ·rename_i ho
    have ho := Nat.eq_of_beq_eq_true ho
    subst ho
    obtain ⟨v, rfl, hv1⟩ := one_reps hv
    simp only [RM.run] at hr
    split at hr
    ·split at hr
     ·obtain ⟨⟨y, f⟩, h1, h2⟩ := RM.run_bind' hr
      obtain ⟨_, h3, h4⟩ := RM.run_bind' h2
      cases RM.run_pure' h4
      exact (fcells_ref hv1 hf.right (Ty.as_self y)).ptr_of_ref
     ·obtain ⟨y, h1, h2⟩ := RM.run_bind' hr
      cases RM.run_pure' h2
      exact (fcells_ref hv1 hf (run_ofOption h1)).ptr_of_ref
     ·cases hr
    ·cases hr
   ·cases hr
  ·exact one_cell hr hv hf
  ·cases hr
theorem reify_froOk : ∀ {t : Ty} {cs : List C} {x : t.den} {fr : Fro}, (reify t cs).run S ctx = some (x, fr) → FroOk S.bl fr
 | .unit, cs, x, fr, hr => by
  unfold reify at hr
  split at hr
  ·cases hr; exact .nil
  ·cases hr
 | .pair t u, cs, x, fr, hr => by
  unfold reify at hr
  obtain ⟨⟨y, f⟩, h1, h2⟩ := RM.run_bind' hr
  obtain ⟨⟨z, g⟩, h3, h4⟩ := RM.run_bind' h2
  obtain ⟨_, h5, h6⟩ := RM.run_bind' h4
  cases RM.run_pure' h6
  exact (reify_froOk h1).append (reify_froOk h3) (run_guardR h5)
 | .int k, cs, x, fr, hr => by
  unfold reify at hr
  split at hr
  ·exact reifyC_froOk hr
  ·cases hr
 | .bool, cs, x, fr, hr => by
  unfold reify at hr
  split at hr
  ·exact reifyC_froOk hr
  ·cases hr
 | .str, cs, x, fr, hr => by
  unfold reify at hr
  split at hr
  ·exact reifyC_froOk hr
  ·cases hr
 | .list t, cs, x, fr, hr => by
  unfold reify at hr
  split at hr
  ·exact reifyC_froOk hr
  ·cases hr
 | .clo k t, cs, x, fr, hr => by
  unfold reify at hr
  split at hr
  ·exact reifyC_froOk hr
  ·cases hr
 | .map a b, cs, x, fr, hr => by
  unfold reify at hr
  split at hr
  ·exact reifyC_froOk hr
  ·cases hr
 | .ref t, cs, x, fr, hr => by
  unfold reify at hr
  split at hr
  ·split at hr
   ·obtain ⟨y, h1, h2⟩ := RM.run_bind' hr
    cases RM.run_pure' h2
    exact .nil
   ·cases hr
  ·split at hr
   ·simp only [RM.run] at hr
    split at hr
    ·rename_i hB
     split at hr
     ·obtain ⟨⟨y, f⟩, h1, h2⟩ := RM.run_bind' hr
      obtain ⟨_, h3, h4⟩ := RM.run_bind' h2
      cases RM.run_pure' h4
      exact (reify_froOk h1).nest hB (run_guardR h3) fun E w vs hv hf => reify_rep (w := w) h1 hv hf
     ·obtain ⟨y, h1, h2⟩ := RM.run_bind' hr
      cases RM.run_pure' h2
      exact .one hB (.inr (.inl ⟨_, _, rfl, .inl rfl⟩))
     ·cases hr
    ·cases hr
   ·cases hr
  ·cases hr
 | .ptr t, cs, x, fr, hr => by
  unfold reify at hr
  split at hr
  ·split at hr
   ·obtain ⟨y, h1, h2⟩ := RM.run_bind' hr
    cases RM.run_pure' h2
    exact .nil
   ·cases hr
  ·split at hr
   ·simp only [RM.run] at hr
    split at hr
    ·rename_i hB
     split at hr
     ·obtain ⟨⟨y, f⟩, h1, h2⟩ := RM.run_bind' hr
      obtain ⟨_, h3, h4⟩ := RM.run_bind' h2
      cases RM.run_pure' h4
      exact (reify_froOk h1).nest hB (run_guardR h3) fun E w vs hv hf => reify_rep (w := w) h1 hv hf
     ·obtain ⟨y, h1, h2⟩ := RM.run_bind' hr
      cases RM.run_pure' h2
      exact .one hB (.inr (.inl ⟨_, _, rfl, .inl rfl⟩))
     ·cases hr
    ·cases hr
   ·cases hr
  ·exact reifyC_froOk hr
  ·cases hr
end Go.Vc
end

section
set_option linter.unusedVariables false
set_option linter.unusedSimpArgs false
namespace Go.Vc
open Go
variable {P : Program} {X : Ctx} {w0 : World} {foot : Foot} {base : Mem} {S : St} {E : Env} {a : Act} {w : World} {ctx : Tags}
def applyBl (r : Res) (bl : List (Nat × Blk)) : List (Nat × Blk) := r.blks.foldl (fun l p => put l p.1 p.2) (r.del.foldl rem bl)
def ValOk (E : Env) : Option SV → Value → Prop
 | none, _ => True
 | some s, v => SRep E s v
structure After (w0 : World) (foot : Foot) (base : Mem) (bl : List (Nat × Blk)) (used : List Nat) (E : Env) (r : Res) (E' : Env) (w' : World) (v : Value) : Prop where
 le : E.le E'
 heap : HRel w0 foot base (applyBl r bl) (r.new ++ used) E' w'
 val : ValOk E' r.val v
def OpOk (P : Program) (w0 : World) (foot : Foot) (base : Mem) (S : St) (E : Env) (a : Act) (w : World) (o : Oper) (r : Res) : Prop :=
 ∀ (next : Act → World → Prop) (Q : Exit → Act → World → Prop), (∀ E' w' v, After w0 foot base S.bl S.used E r E' w' v → next (a.put o.dst v) w') → o.wp P a w next Q
theorem OpOk.value {o : Oper} {r : Res} {v : Value} {w' : World} {E' : Env} (hrun : (execOp a.eval o).run P w = .ok (.value v) w') (hA : After w0 foot base S.bl S.used E r E' w' v) :
  OpOk P w0 foot base S E a w o r := fun next Q hn => by
 unfold Oper.wp
 rw [hrun]
 exact hn _ _ _ hA
theorem OpOk.skip {o : Oper} {r : Res} {w' : World} {E' : Env} (hrun : (execOp a.eval o).run P w = .ok .skip w') (hA : After w0 foot base S.bl S.used E r E' w' undef) :
  OpOk P w0 foot base S E a w o r := fun next Q hn => by
 unfold Oper.wp
 rw [hrun]
 exact hn _ _ _ hA
theorem After.pure (h : HRel w0 foot base S.bl S.used E w) {s : SV} {v : Value} {cs : List Prop} (hv : SRep E s v) : After w0 foot base S.bl S.used E { val := some s, conds := cs } E w v :=
 ⟨.refl _, h, hv⟩
theorem tabOf_mem : ∀ {l : List TI} {t : Nat} {i : TI}, tabOf l t = some i → i ∈ l ∧ i.id = t
 | [], _, _, h => by cases h
 | j :: l, t, i, h => by
  unfold tabOf at h
  split at h
  ·rename_i hb
   cases h
   exact ⟨List.mem_cons_self, Nat.eq_of_beq_eq_true hb⟩
  ·obtain ⟨h1, h2⟩ := tabOf_mem h
   exact ⟨List.mem_cons_of_mem _ h1, h2⟩
theorem map_eq_mem {α β : Type} {f g : α → β} : ∀ {l : List α}, l.map f = l.map g → ∀ x ∈ l, f x = g x
 | [], _, x, hx => by cases hx
 | y :: l, h, x, hx => by
  simp only [List.map_cons, List.cons.injEq] at h
  rcases List.mem_cons.1 hx with rfl | hx
  ·exact h.1
  ·exact map_eq_mem h.2 x hx
theorem ti_spec (hT : TabOk P X.tab) {t : Nat} {i : TI} (h : (ti X t).run S ctx = some i) :
  skel P t = i.d ∧ ∃ j, P.info? t = some j ∧ j.size = i.size ∧ j.bytes = i.bytes ∧ j.zero = some i.zero := by
 have h := run_ofOption h
 obtain ⟨hm, rfl⟩ := tabOf_mem h
 refine ⟨map_eq_mem hT.skels i hm, ?_⟩
 have := map_eq_mem hT.infos i hm
 obtain ⟨j, hj, e⟩ := Option.map_eq_some_iff.1 this
 simp only [Prod.mk.injEq] at e
 exact ⟨j, hj, e.1, e.2.1, e.2.2⟩
theorem skel_slice {t e : Nat} (h : skel P t = .slice e) : P.underlying t = some (.slice e) := by
 unfold skel at h; split at h <;> first | cases h | skip
 assumption
theorem skel_int {t : Nat} {k : IntKind} (h : skel P t = .int k) : P.underlying t = some (.int k) := by
 unfold skel at h; split at h <;> first | cases h | skip
 assumption
theorem skel_bool {t : Nat} (h : skel P t = .bool) : P.underlying t = some .bool := by
 unfold skel at h; split at h <;> first | cases h | skip
 assumption
theorem skel_str {t : Nat} (h : skel P t = .str) : P.underlying t = some .string := by
 unfold skel at h; split at h <;> first | cases h | skip
 assumption
theorem skel_struct {t : Nat} {fs : List (Nat × Nat × Nat)} (h : skel P t = .struct fs) :
  ∃ gs, P.underlying t = some (.struct gs) ∧ fs = gs.toList.map fun f => (f.offset, P.cellsOf f.type, f.type) := by
 unfold skel at h; split at h <;> first | cases h | skip
 rename_i gs hg
 exact ⟨gs, hg, rfl⟩
theorem skel_array {t n e : Nat} (h : skel P t = .array n e) : P.underlying t = some (.array n e) := by
 unfold skel at h; split at h <;> first | cases h | skip
 assumption
theorem skel_map {t k e : Nat} (h : skel P t = .map k e) : P.underlying t = some (.map k e) := by
 unfold skel at h; split at h <;> first | cases h | skip
 assumption
theorem skel_plain {t : Nat} (h : skel P t = .plain) : ∃ a b c, P.underlying t = some (.func a b c) := by
 unfold skel at h; split at h <;> first | cases h | skip
 rename_i a b c he; exact ⟨a, b, c, he⟩
theorem skel_pnt {t : Nat} (h : skel P t = .pnt) : ∃ e, P.underlying t = some (.pointer e) := by
 unfold skel at h; split at h <;> first | cases h | skip
 rename_i e he; exact ⟨e, he⟩
theorem run_typeInfo' {t : Nat} {j : TypeInfo} (h : P.info? t = some j) : (typeInfo t).run P w = .ok j w := by
 simp [typeInfo, h]
theorem run_sizeOf' {t : Nat} {j : TypeInfo} (h : P.info? t = some j) : (sizeOf t).run P w = .ok j.size w := by
 simp [sizeOf, run_typeInfo' h]
theorem run_zeroValue' {t : Nat} {j : TypeInfo} {z : Value} (h : P.info? t = some j) (hz : j.zero = some z) : (zeroValue t).run P w = .ok z w := by
 simp [zeroValue, run_typeInfo' h, hz]
theorem run_isAgg_struct {t : Nat} {gs : Array Field} (h : P.underlying t = some (.struct gs)) : (isAgg t).run P w = .ok true w := by
 simp [isAgg, run_underlying h]
theorem run_isAgg_array {t n e : Nat} (h : P.underlying t = some (.array n e)) : (isAgg t).run P w = .ok true w := by
 simp [isAgg, run_underlying h]
theorem run_isAgg_scalar {t : Nat} (h : (match skel P t with | .struct _ => false | .array _ _ => false | .map _ _ => true | .other => false | _ => true) = true) : (isAgg t).run P w = .ok false w := by
 cases hs : skel P t with
 | int k => simp [isAgg, run_underlying (skel_int hs)]
 | bool => simp [isAgg, run_underlying (skel_bool hs)]
 | str => simp [isAgg, run_underlying (skel_str hs)]
 | slice e => simp [isAgg, run_underlying (skel_slice hs)]
 | struct fs => rw [hs] at h; cases h
 | plain =>
  obtain ⟨a, b, c, he⟩ := skel_plain hs
  simp [isAgg, run_underlying he]
 | pnt =>
  obtain ⟨e, he⟩ := skel_pnt hs
  simp [isAgg, run_underlying he]
 | array n e => rw [hs] at h; cases h
 | map k e => simp [isAgg, run_underlying (skel_map hs)]
 | other => rw [hs] at h; cases h
def CellsAt (w : World) (b o : Nat) (us : List Value) : Prop := ∀ (j : Nat) u, us[j]? = some u → w.cell? ⟨b, o + j, none⟩ = some u
theorem addr_add (b o n : Nat) : (⟨b, o, none⟩ : Addr).add n = ⟨b, o + n, none⟩ := by
 unfold Addr.add
 split
 ·rename_i h; subst h; rfl
 ·rfl
theorem cell_of_heap {w : World} {b : Nat} {vs : Array Value} {e : TypeId} {m : Nat × Nat} (h : w.heap[b]? = some (.cells vs e m)) (o : Nat) : w.cell? ⟨b, o, none⟩ = vs[o]? := by
 simp [World.cell?, h]
theorem run_loadCells' {b o : Nat} {us : List Value} (h : CellsAt w b o us) : (loadCells ⟨b, o, none⟩ us.length).run P w = .ok us.toArray w :=
 run_loadCells_list w _ us fun j v hv => by rw [addr_add]; exact h j v hv
theorem run_loadVar' {t b o : Nat} {us : List Value} {cs : List C} {s : SV} {j : TypeInfo} (hd : (mkSV (skel P t) cs).run S ctx = some s) (hi : P.info? t = some j) (hl : us.length = j.size)
  (hr : CReps E cs us) (h : CellsAt w b o us) : ∃ v, (loadVar t ⟨b, o, none⟩).run P w = .ok v w ∧ SRep E s v := by
 unfold mkSV at hd
 split at hd
 ·rename_i fs hs
  cases hd
  obtain ⟨gs, hu, _⟩ := skel_struct hs
  refine ⟨.agg us.toArray, ?_, _, rfl, hr⟩
  simp [loadVar, run_isAgg_struct hu, run_sizeOf' hi, ← hl, run_loadCells' h]
 ·rename_i n e hs
  cases hd
  refine ⟨.agg us.toArray, ?_, _, rfl, hr⟩
  simp [loadVar, run_isAgg_array (skel_array hs), run_sizeOf' hi, ← hl, run_loadCells' h]
 ·cases hd
 ·rename_i h1 h2 h3
  split at hd
  ·rename_i c
   cases hd
   obtain ⟨v, vs, rfl, k1, k2⟩ := hr
   have hvs : vs = [] := k2
   subst hvs
   refine ⟨v, ?_, k1⟩
   have hc := h 0 v rfl
   have : (isAgg t).run P w = .ok false w := run_isAgg_scalar (by
    cases hs : skel P t <;> simp_all)
   simp only [loadVar, Sem.run_bind, this, Result.andThen_ok]
   simp only [Bool.false_eq_true, if_false, run_load]
   simp only [Nat.add_zero] at hc
   rw [hc]
  ·cases hd
theorem row_cells {p : Place} {fro : Bool} {e : Nat} {t : Ty} {xs : List t.den} (hB : BRow E w p fro e t xs) {i : Nat} (hi : i < p.len) :
  ∃ us, Rep E.F t (at' xs i) us ∧ us.length = t.size ∧ CellsAt w p.blk (i * t.size) us := by
 obtain ⟨h0, ⟨h1, h1'⟩, vs, h2, h3, h4, h5⟩ := hB
 have hx : xs[i]? = some (at' xs i) := by
  unfold at'
  rw [List.getD_eq_getElem?_getD, List.getElem?_eq_getElem (by omega)]
  rfl
 obtain ⟨us, k1, k2, k3⟩ := h5 i _ hx
 exact ⟨us, k1, k2, fun j u hu => by rw [cell_of_heap h2]; exact k3 j u hu⟩
theorem CellsAt.drop {b o : Nat} {us : List Value} (h : CellsAt w b o us) (n : Nat) : CellsAt w b (o + n) (us.drop n) := fun j u hu => by
 rw [List.getElem?_drop] at hu
 have := h _ _ hu
 rwa [← Nat.add_assoc] at this
theorem CellsAt.take {b o : Nat} {us : List Value} (h : CellsAt w b o us) (n : Nat) : CellsAt w b o (us.take n) := fun j u hu => by
 have hj : j < n := by
  have := (List.getElem?_eq_some_iff.1 hu).1
  simp only [List.length_take] at this
  omega
 rw [List.getElem?_take_of_lt hj] at hu
 exact h _ _ hu
theorem loadCs_sound (h : HRel w0 foot base S.bl S.used E w) {size : Nat} {c : C} {cs : List C} {v : Value} (hr : (loadCs size c).run S ctx = some cs) (hv : CRep E c v) :
  ∃ b o us, v = .pointer (some ⟨b, o, none⟩) ∧ CReps E cs us ∧ CellsAt w b o us := by
 unfold loadCs at hr
 split at hr
 ·rename_i b o
  simp only [RM.run] at hr
  split at hr
  ·rename_i B hf
   split at hr
   ·rename_i old
    cases hr
    obtain ⟨p, hp, hn, rfl⟩ := hv
    obtain ⟨p', hp', _, vs, e, h1, h2⟩ := h.blks _ _ hf
    rw [hp] at hp'; cases hp'
    refine ⟨_, _, (vs.toList.drop o).take size, rfl, (h2.drop o).take size, ?_⟩
    have : CellsAt w p.blk 0 vs.toList := fun j u hu => by rw [cell_of_heap h1]; simpa using hu
    simpa using (this.drop o).take size
   ·cases hr
    obtain ⟨p, hp, hn, rfl⟩ := hv
    obtain ⟨p', hp', _, vs, e, h1, _, h2⟩ := h.blks _ _ hf
    rw [hp] at hp'; cases hp'
    refine ⟨_, _, (vs.toList.drop o).take size, rfl, ((CReps_flat h2).drop o).take size, ?_⟩
    have : CellsAt w p.blk 0 vs.toList := fun j u hu => by rw [cell_of_heap h1]; simpa using hu
    simpa using (this.drop o).take size
   ·cases hr
  ·cases hr
 ·rename_i tt b i o
  simp only [RM.run] at hr
  split at hr
  ·rename_i B hf
   split at hr
   ·rename_i fro e t xs
    split at hr
    ·rename_i ht
     have ht := Ty.beq_eq ht
     subst ht
     cases hr
     obtain ⟨p, hp, hn, hi, rfl⟩ := hv
     obtain ⟨p', hp', hB⟩ := h.blks _ _ hf
     rw [hp] at hp'; cases hp'
     rcases hB with ⟨hn', _⟩ | ⟨_, hB⟩
     ·rw [hn] at hn'; cases hn'
     ·obtain ⟨us, k1, k2, k3⟩ := row_cells hB hi
      exact ⟨_, _, (us.drop o).take size, rfl, ((CReps_flat k1).drop o).take size, (k3.drop o).take size⟩
    ·cases hr
   ·cases hr
  ·cases hr
 ·rename_i t xs i o
  cases hr
  obtain ⟨hi, b, off, rfl, k⟩ := hv
  have hx : (Ty.L (t := t) xs)[i]? = some (at' xs i) := by
   unfold at'
   rw [List.getD_eq_getElem?_getD, List.getElem?_eq_getElem hi]
   rfl
  obtain ⟨us, k1, k2, k3⟩ := k i _ hx
  have : CellsAt w b (off + i * t.size) us := fun j u hu => by
   obtain ⟨c, e, m, h1, h2⟩ := k3 j u hu
   rw [cell_of_heap (h.frz _ _ h1), Nat.add_assoc]
   exact h2
  have := (this.drop o).take size
  rw [Nat.add_assoc] at this
  exact ⟨_, _, (us.drop o).take size, rfl, ((CReps_flat k1).drop o).take size, this⟩
 ·cases hr
theorem pureV_spec {s : SV} {r : Res} (h : (pureV s).run S ctx = some r) : r = { val := some s } := by cases h; rfl
theorem pureC_spec {c : C} {r : Res} (h : (pureC c).run S ctx = some r) : r = { val := some (.one c) } := by cases h; rfl
theorem pureIf_spec {p : Prop} {c : C} {r : Res} (h : (pureIf p c).run S ctx = some r) : r = { val := some (.one c), conds := [p] } := by cases h; rfl
theorem load_ok (hT : TabOk P X.tab) (h : SRel w0 foot base S E a w) (hc : TagsHold a ctx) {o : Oper} {t : Nat} {x : Operand} (ho : o.op = .load t x) {r : Res}
  (hr : (do let i ← ti X t; let cs ← loadCs i.size (← evC x); guardR (Nat.beq cs.length i.size); pureV (← mkSV i.d cs) : RM Res).run S ctx = some r) : OpOk P w0 foot base S E a w o r := by
 obtain ⟨i, h1, hr⟩ := RM.run_bind' hr
 obtain ⟨c, h2, hr⟩ := RM.run_bind' hr
 obtain ⟨cs, h3, hr⟩ := RM.run_bind' hr
 obtain ⟨u, h4, hr⟩ := RM.run_bind' hr
 obtain ⟨s, h5, hr⟩ := RM.run_bind' hr
 obtain ⟨hs, j, hj, e1, e2, e3⟩ := ti_spec hT h1
 obtain ⟨b, off, us, hv, k1, k2⟩ := loadCs_sound h.toHRel h3 (evC_rep h hc h2)
 have hl : us.length = j.size := by rw [k1.length, Nat.eq_of_beq_eq_true (run_guardR h4), e1]
 rw [← hs] at h5
 obtain ⟨v, hrun, hrep⟩ := run_loadVar' h5 hj hl k1 k2
 rw [pureV_spec hr]
 refine OpOk.value (v := v) (w' := w) ?_ (After.pure h.toHRel hrep)
 simp [execOp, ho, Instr.loadAt, Instr.sureAddr, hv, hrun]
theorem alloc_rel (h : HRel w0 foot base S.bl S.used E w) {d : Nat} {cs : List C} {vs : Array Value} {e : TypeId} (hv : CReps E cs vs.toList) (hd : d ∉ S.used) :
  After w0 foot base S.bl S.used E { val := some (.one (.ptr d 0)), blks := [(d, .cells cs)], new := [d] } (E.new d ⟨false, w.heap.size, 0, 0⟩) (w.alloc (.cells vs e)) (.pointer (some ⟨w.heap.size, 0, none⟩)) := by
 have hnone : E.place d = none := by
  cases he : E.place d with
  | none => rfl
  | some q => exact absurd (h.used d q he) hd
 have hle := Env.new_le (p := ⟨false, w.heap.size, 0, 0⟩) hnone
 exact ⟨hle, h.alloc hd (fun _ => rfl) ⟨rfl, vs, e, alloc_same, hv.mono hle⟩, ⟨_, Env.new_same, rfl, rfl⟩⟩
theorem alloc_ok (hT : TabOk P X.tab) (h : SRel w0 foot base S E a w) {o : Oper} {t d : Nat} (ho : o.op = .alloc t) {r : Res} {i : TI} (h1 : (ti X t).run S ctx = some i)
  (hr : (do let cs ← RM.ofOption (constCs i.zero.cells.toList); .ret { val := some (.one (.ptr d 0)), blks := [(d, .cells cs)], new := [d] } : RM Res).run S ctx = some r)
  (hn : ∀ i ∈ r.new, i ∉ S.used) : OpOk P w0 foot base S E a w o r := by
 obtain ⟨cs, h2, hr⟩ := RM.run_bind' hr
 obtain ⟨hs, j, hj, e1, e2, e3⟩ := ti_spec hT h1
 cases hr
 refine OpOk.value (v := .pointer (some ⟨w.heap.size, 0, none⟩)) (w' := w.alloc (.cells i.zero.cells t)) ?_ (alloc_rel h.toHRel (constCs_rep (run_ofOption h2)) (hn d (by simp)))
 simp [execOp, ho, Instr.alloc, run_zeroValue' hj e3, newVar, newRow]
theorem box_ok (h : SRel w0 foot base S E a w) (hc : TagsHold a ctx) {o : Oper} {t d : Nat} {x : Operand} (ho : o.op = .box t x) {r : Res}
  (hr : (do let cs ← asCells (← ev x); .ret { val := some (.one (.ptr d 0)), blks := [(d, .cells cs)], new := [d] } : RM Res).run S ctx = some r)
  (hn : ∀ i ∈ r.new, i ∉ S.used) : OpOk P w0 foot base S E a w o r := by
 obtain ⟨s, h1, hr⟩ := RM.run_bind' hr
 obtain ⟨cs, h2, hr⟩ := RM.run_bind' hr
 cases hr
 refine OpOk.value (v := .pointer (some ⟨w.heap.size, 0, none⟩)) (w' := w.alloc (.cells (a.eval x).cells t)) ?_ (alloc_rel h.toHRel (evCells_rep h hc h1 h2) (hn d (by simp)))
 simp [execOp, ho, Instr.box, newVar, newRow]
theorem move_ok (h : SRel w0 foot base S E a w) (hc : TagsHold a ctx) {o : Oper} {x : Operand} (ho : o.op = .move x ∨ o.op = .assign x) {r : Res}
  (hr : (do pureV (← ev x) : RM Res).run S ctx = some r) : OpOk P w0 foot base S E a w o r := by
 obtain ⟨s, h1, hr⟩ := RM.run_bind' hr
 rw [pureV_spec hr]
 refine OpOk.value (v := a.eval x) (w' := w) ?_ (After.pure h.toHRel (ev_rep h hc h1))
 rcases ho with ho | ho <;> simp [execOp, ho]
theorem pick_ok (h : SRel w0 foot base S E a w) (hc : TagsHold a ctx) {o : Oper} {c : Nat} {x y : Operand} (ho : o.op = .pick (.tmp c) x y) {r : Res}
  (hr : (do
   let g ← asB (← ev (.tmp c))
   let x ← asB (← evx [(c, true)] x)
   let y ← asB (← evx [(c, false)] y)
   pureC (.dat .bool (bif g then x else y)) : RM Res).run S ctx = some r) : OpOk P w0 foot base S E a w o r := by
 obtain ⟨s, h1, hr⟩ := RM.run_bind' hr
 obtain ⟨g, h2, hr⟩ := RM.run_bind' hr
 obtain ⟨s', h3, hr⟩ := RM.run_bind' hr
 obtain ⟨x', h4, hr⟩ := RM.run_bind' hr
 obtain ⟨s'', h5, hr⟩ := RM.run_bind' hr
 obtain ⟨y', h6, hr⟩ := RM.run_bind' hr
 rw [pureC_spec hr]
 have hg := asB_rep (ev_rep h hc h1) h2
 have htag : TagsHold a ((c, g) :: ctx) := fun t ht => by
  rcases List.mem_cons.1 ht with rfl | ht
  ·have : a.tmps.getD c undef = .bool g := hg
   simp only
   rw [Array.getD_eq_getD_getElem?] at this
   cases hh : a.tmps[c]? with
   | none => rw [hh] at this; simp [undef] at this
   | some v => rw [hh] at this; simpa using this
  ·exact hc t ht
 cases g with
 | true =>
  have hx := asB_rep (evx_rep h htag h3) h4
  refine OpOk.value (v := .bool x') (w' := w) ?_ (After.pure h.toHRel ⟨rfl, rfl⟩)
  simp [execOp, ho, hg, asBool, hx]
 | false =>
  have hy := asB_rep (evx_rep h htag h5) h6
  refine OpOk.value (v := .bool y') (w' := w) ?_ (After.pure h.toHRel ⟨rfl, rfl⟩)
  simp [execOp, ho, hg, asBool, hy]
theorem nilCheck_ok (h : SRel w0 foot base S E a w) (hc : TagsHold a ctx) {o : Oper} {x : Operand} (ho : o.op = .nilCheck x) {r : Res}
  (hr : (do
   match ← evC x with
   | .ptr b o => pureC (.ptr b o)
   | .rptr t b i o => pureC (.rptr t b i o)
   | .elt t xs i o => pureC (.elt t xs i o)
   | .dat (.ptr t) x => .ret { val := some (.one (.elt t [x.getD t.dflt] 0 0)), conds := [x ≠ none] }
   | _ => .fail : RM Res).run S ctx = some r) (hcond : ∀ c ∈ r.conds, c) : OpOk P w0 foot base S E a w o r := by
 obtain ⟨c, h1, hr⟩ := RM.run_bind' hr
 have hv := evC_rep h hc h1
 have key : ∀ b off, a.eval x = .pointer (some ⟨b, off, none⟩) → r = { val := some (.one c) } → OpOk P w0 foot base S E a w o r := fun b off he er => by
  rw [er]
  exact OpOk.value (v := a.eval x) (w' := w) (by simp [execOp, ho, he]) (After.pure h.toHRel hv)
 split at hr
 ·obtain ⟨p, _, _, he⟩ := hv; exact key _ _ he (pureC_spec hr)
 ·obtain ⟨p, _, _, _, he⟩ := hv; exact key _ _ he (pureC_spec hr)
 ·obtain ⟨_, b, off, he, _⟩ := hv; exact key _ _ he (pureC_spec hr)
 ·rename_i t y
  cases hr
  have hy := hcond _ (List.mem_singleton.2 rfl)
  obtain ⟨_, ⟨hy', _⟩ | ⟨z, hz, b, off, he, us, k1, k2, k3⟩⟩ := hv
  ·exact absurd hy' hy
  ·subst hz
   simp only [List.cons.injEq, and_true] at he
   refine OpOk.value (v := a.eval x) (w' := w) (by simp [execOp, ho, he]) (After.pure h.toHRel ⟨by simp, b, off, by simpa using he, fun i y hy => ?_⟩)
   cases i with
   | zero =>
    have hy : z = y := by simpa using hy
    subst hy
    exact ⟨us, k1, k2, fun j u hu => by simpa using k3 j u hu⟩
   | succ i => simp at hy
 ·cases hr
theorem fieldAddr_ok (hT : TabOk P X.tab) (h : SRel w0 foot base S E a w) (hc : TagsHold a ctx) {o : Oper} {s : Nat} {x : Operand} {f : Nat} (ho : o.op = .fieldAddr s x f) {r : Res}
  (hr : (do
   let i ← ti X s
   match i.d with
   | .struct fs => (match fs[f]? with
    | some (off, size, _) => (do
     guardR (Nat.blt 0 size)
     match ← evC x with
     | .ptr b o => pureC (.ptr b (o + off))
     | .rptr t b i o => pureC (.rptr t b i (o + off))
     | .elt t xs i o => pureC (.elt t xs i (o + off))
     | _ => .fail)
    | none => .fail)
   | _ => .fail : RM Res).run S ctx = some r) : OpOk P w0 foot base S E a w o r := by
 obtain ⟨i, h1, hr⟩ := RM.run_bind' hr
 obtain ⟨hs, j, hj, e1, e2, e3⟩ := ti_spec hT h1
 split at hr
 ·rename_i fs hd
  rw [hd] at hs
  obtain ⟨gs, hu, rfl⟩ := skel_struct hs
  split at hr
  ·rename_i off size tf hf
   rw [List.getElem?_map] at hf
   obtain ⟨g, hg, e⟩ := Option.map_eq_some_iff.1 hf
   simp only [Prod.mk.injEq] at e
   obtain ⟨u, h2, hr⟩ := RM.run_bind' hr
   obtain ⟨c, h3, hr⟩ := RM.run_bind' hr
   have hsz : 0 < size := Nat.le_of_ble_eq_true (run_guardR h2)
   have hv := evC_rep h hc h3
   have hgi : ∃ jj, P.info? g.type = some jj ∧ jj.size = size := by
    have := e.2.1
    unfold Program.cellsOf at this
    cases hh : P.info? g.type with
    | none => rw [hh] at this; simp at this; omega
    | some jj => rw [hh] at this; exact ⟨jj, rfl, by simpa using this⟩
   obtain ⟨jj, hjj, hjs⟩ := hgi
   have hg' : gs[f]? = some g := by simpa using hg
   have key : ∀ b oo c', a.eval x = .pointer (some ⟨b, oo, none⟩) → r = { val := some (.one c') } → CRep E c' (.pointer (some ⟨b, oo + off, none⟩)) → OpOk P w0 foot base S E a w o r := fun b oo c' he er hrep => by
    rw [er]
    refine OpOk.value (v := .pointer (some ⟨b, oo + off, none⟩)) (w' := w) ?_ (After.pure h.toHRel hrep)
    have hne : ¬ jj.size = 0 := by omega
    simp [execOp, ho, Instr.fieldAt, run_underlying hu, hg', Instr.sureAddr, he, fieldPlace, run_sizeOf' hjj, hne, addr_add, e.1]
   split at hr
   ·obtain ⟨p, hp, hn, he⟩ := hv
    exact key _ _ _ he (pureC_spec hr) ⟨p, hp, hn, rfl⟩
   ·obtain ⟨p, hp, hn, hi, he⟩ := hv
    exact key _ _ _ he (pureC_spec hr) ⟨p, hp, hn, hi, by simp [Nat.add_assoc]⟩
   ·obtain ⟨hi, b, oo, he, k⟩ := hv
    exact key _ _ _ he (pureC_spec hr) ⟨hi, b, oo, by simp [Nat.add_assoc], k⟩
   ·cases hr
  ·cases hr
 ·cases hr
end Go.Vc
end

section
set_option linter.unusedVariables false
set_option linter.unusedSimpArgs false
namespace Go.Vc
open Go
variable {P : Program} {X : Ctx} {w0 : World} {foot : Foot} {base : Mem} {S : St} {E : Env} {a : Act} {w : World} {ctx : Tags}
theorem setRow_eq {g : Nat} {cur cs : Array Value} {e : TypeId} {m : Nat × Nat} (h : w.heap[g]? = some (.cells cur e m)) : w.setRow g cs = setBlk w g (.cells cs e m) := by
 unfold World.setRow setBlk
 have hg := heap_lt h
 congr 1
 apply Array.ext_getElem?
 intro i
 rw [Array.getElem?_modify]
 by_cases hi : g = i
 ·subst hi
  rw [if_pos rfl, h, Array.getElem?_setIfInBounds_self_of_lt hg]
  rfl
 ·rw [if_neg hi, Array.getElem?_setIfInBounds_ne hi]
theorem run_storeVar' {t g o : Nat} {cur : Array Value} {e : TypeId} {v : Value} {j : TypeInfo} (hi : P.info? t = some j) (hs : v.cells.toList.length = j.size)
  (hg : w.heap[g]? = some (.cells cur e (0, 0))) (hl : o + v.cells.toList.length ≤ cur.size) (h1 : ∀ u ∈ v.cells.toList, u.oneCell' = true) :
  (storeVar t ⟨g, o, none⟩ v).run P w = .ok () (setBlk w g (.cells (cur.toList.take o ++ v.cells.toList ++ cur.toList.drop (o + v.cells.toList.length)).toArray e (0, 0))) := by
 have := run_storeCells_at (P := P) g o e v.cells.toList 0 cur w hg (by simpa using hl) h1
 rw [setRow_eq hg] at this
 simp only [storeVar, Sem.run_bind, run_sizeOf' hi, Result.andThen_ok]
 rw [if_neg (by simpa using hs)]
 simpa using this
theorem CReps.splice {cs : List C} {us : List Value} (h : CReps E cs us) {old : List C} {vs : List Value} (k : CReps E old vs) (o : Nat) :
  CReps E (splice old o cs) (vs.take o ++ us ++ vs.drop (o + us.length)) := by
 unfold Vc.splice
 rw [h.length]
 exact ((k.take o).append h).append (k.drop _)
theorem noId_spec : ∀ {fr : Fro} {b : Nat}, noId fr b = true → ∀ p ∈ fr, p.1 ≠ b
 | [], _, _, p, hp => by cases hp
 | (m, B) :: fr, b, h, p, hp => by
  unfold noId at h
  split at h
  ·cases h
  ·rename_i hb
   rcases List.mem_cons.1 hp with rfl | hp
   ·intro e; simp only at e; subst e; simp at hb
   ·exact noId_spec h p hp
theorem find_applyFro_other : ∀ {fr : Fro} {bl : List (Nat × Blk)} {b : Nat}, (∀ p ∈ fr, p.1 ≠ b) → find (applyFro fr bl) b = find bl b
 | [], _, _, _ => rfl
 | q :: fr, bl, b, h => by
  show find (applyFro fr (put bl q.1 q.2)) b = _
  rw [find_applyFro_other fun p hp => h p (List.mem_cons_of_mem _ hp), find_put_other _ _ _ _ (h q List.mem_cons_self)]
theorem applyBl_fro {fr : Fro} {b : Nat} {B : Blk} {bl : List (Nat × Blk)} {v : Option SV} {cs : List Prop} {new : List Nat} :
  applyBl { val := v, blks := fr ++ [(b, B)], new := new, conds := cs } bl = put (applyFro fr bl) b B := by
 simp [applyBl, applyFro, List.foldl_append]
theorem BRow.set {p : Place} {e : Nat} {t : Ty} {xs : List t.den} (hB : BRow E w p false e t xs) {vs : Array Value} (hv : w.heap[p.blk]? = some (.cells vs e (0, 0))) {i : Nat} (hi : i < p.len) {y : t.den} {us : List Value}
  (hy : Rep E.F t y us) : BRow E (setBlk w p.blk (.cells (vs.toList.take (i * t.size) ++ us ++ vs.toList.drop (i * t.size + t.size)).toArray e (0, 0))) p false e t (xs.set i y) := by
 obtain ⟨h0, ⟨h1, h1'⟩, vs', h2, h3, h4, h5⟩ := hB
 rw [hv] at h2
 cases h2
 have hus := hy.length
 have hmul : i * t.size + t.size ≤ p.cap * t.size := by
  rw [← Nat.succ_mul]
  exact Nat.mul_le_mul_right _ (by omega)
 have hvl : vs.toList.length = p.cap * t.size := by simpa using h3
 refine ⟨h0, ⟨by simpa using h1, h1'⟩, _, setBlk_same (heap_lt hv), ?_, (fun hf => by cases hf), fun k x hx => ?_⟩
 ·simp only [List.size_toArray, List.length_append, List.length_take, List.length_drop]
  omega
 ·by_cases hk : i = k
  ·subst hk
   rw [List.getElem?_set_self (by omega)] at hx
   cases hx
   refine ⟨us, hy, hus, fun j u hu => ?_⟩
   have hj : j < us.length := (List.getElem?_eq_some_iff.1 hu).1
   simp only [List.getElem?_toArray]
   rw [List.getElem?_append_left (by simp; omega), List.getElem?_append_right (by simp; omega)]
   rw [← hu]
   congr 1
   simp
   omega
  ·rw [List.getElem?_set_ne hk] at hx
   obtain ⟨us', k1, k2, k3⟩ := h5 k x hx
   refine ⟨us', k1, k2, fun j u hu => ?_⟩
   have hj : j < us'.length := (List.getElem?_eq_some_iff.1 hu).1
   have := k3 j u hu
   simp only [List.getElem?_toArray]
   rcases Nat.lt_or_gt_of_ne hk with hlt | hlt
   ·have hm : i * t.size + t.size ≤ k * t.size := by
     rw [← Nat.succ_mul]
     exact Nat.mul_le_mul_right _ (by omega)
    rw [List.getElem?_append_right (by simp; omega), List.getElem?_drop]
    rw [← this, ← Array.getElem?_toList]
    congr 1
    simp
    omega
   ·have hm : k * t.size + t.size ≤ i * t.size := by
     rw [← Nat.succ_mul]
     exact Nat.mul_le_mul_right _ (by omega)
    rw [List.append_assoc, List.getElem?_append_left (by simp; omega), List.getElem?_take_of_lt (by omega)]
    rw [← this, ← Array.getElem?_toList]
theorem store_ok (hT : TabOk P X.tab) (h : SRel w0 foot base S E a w) (hc : TagsHold a ctx) {o : Oper} {t : Nat} {x v : Operand} (ho : o.op = .store t x v) {r : Res}
  {i : TI} (h1 : (ti X t).run S ctx = some i) {s : SV} (h2 : (ev v).run S ctx = some s) {cs : List C} (h3 : (asCells s).run S ctx = some cs)
  (hr : (do storeR i.size cs (← evC x) : RM Res).run S ctx = some r) : OpOk P w0 foot base S E a w o r := by
 obtain ⟨c, h4, hr⟩ := RM.run_bind' hr
 obtain ⟨hs, j, hj, e1, e2, e3⟩ := ti_spec hT h1
 have hcs := evCells_rep h hc h2 h3
 have hone := hcs.oneCell
 have hlen := hcs.length
 have hx := evC_rep h hc h4
 unfold storeR at hr
 split at hr
 ·rename_i b off
  simp only [RM.run] at hr
  split at hr
  ·rename_i B hf
   split at hr
   ·rename_i old
    split at hr
    ·rename_i hb
     cases hr
     simp only [Bool.and_eq_true] at hb
     have hb1 := Nat.eq_of_beq_eq_true hb.1
     have hb2 := Nat.le_of_ble_eq_true hb.2
     obtain ⟨p, hp, hn, hev⟩ := hx
     obtain ⟨p', hp', _, vs, e, k1, k2⟩ := h.blks _ _ hf
     rw [hp] at hp'; cases hp'
     have hvl := k2.length
     simp only [Array.length_toList] at hvl
     have hrun := run_storeVar' (P := P) (o := off) hj (by rw [hlen, hb1, e1]) k1 (by omega) hone
     refine OpOk.skip (w' := setBlk w p.blk (.cells _ e (0, 0))) (E' := E) ?_ ⟨.refl _, h.toHRel.write hf hp hn rfl ⟨hn, _, e, setBlk_same (heap_lt k1), hcs.splice k2 off⟩, trivial⟩
     simp [execOp, ho, Instr.storeAt, Instr.sureAddr, hev, hrun]
    ·cases hr
   ·cases hr
  ·cases hr
 ·rename_i tt b k off
  simp only [RM.run] at hr
  split at hr
  ·rename_i B hf
   split at hr
   ·rename_i e t' xs
    split at hr
    ·rename_i hb
     simp only [Bool.and_eq_true] at hb
     have ht := Ty.beq_eq hb.1.1
     have hb1 := Nat.eq_of_beq_eq_true hb.1.2
     have hb2 := Nat.le_of_ble_eq_true hb.2
     subst ht
     obtain ⟨p, hp, hn, hi, hev⟩ := hx
     obtain ⟨p', hp', hB⟩ := h.blks _ _ hf
     rw [hp] at hp'; cases hp'
     have hB : BRow E w p false e tt xs := by
      rcases hB with ⟨hn', _⟩ | ⟨_, hB⟩
      ·rw [hn] at hn'; cases hn'
      ·exact hB
     have hB' := hB
     obtain ⟨g0, ⟨g1, g1'⟩, vs, g2, g3, g4, g5⟩ := hB
     have hmul : k * tt.size + tt.size ≤ p.cap * tt.size := by
      rw [← Nat.succ_mul]
      exact Nat.mul_le_mul_right _ (by omega)
     have hvl : vs.toList.length = p.cap * tt.size := by simpa using g3
     have hrun := run_storeVar' (P := P) (o := k * tt.size + off) hj (by rw [hlen, hb1, e1]) g2 (by rw [g3]; omega) hone
     have key : ∀ (y : tt.den) (fr : Fro) (ds : List C) (ws : List Value), (reify tt ds).run S ctx = some (y, fr) → noId fr b = true → CReps E ds ws →
       vs.toList.take (k * tt.size + off) ++ (a.eval v).cells.toList ++ vs.toList.drop (k * tt.size + off + (a.eval v).cells.toList.length) = vs.toList.take (k * tt.size) ++ ws ++ vs.toList.drop (k * tt.size + tt.size) →
       OpOk P w0 foot base S E a w o { blks := fr ++ [(b, .row false e tt (xs.set k y))] } := fun y fr ds ws hy hno hds heq => by
      have hfo := reify_froOk hy
      obtain ⟨E1, l1, q1, f1, h1'⟩ := h.toHRel.applyFro hfo
      have hfz := Frozen.of_apply hfo h1'
      have hrep := reify_rep hy (hds.mono l1) hfz
      have hf' : find (applyFro fr S.bl) b = some (.row false e tt xs) := by rw [find_applyFro_other (noId_spec hno)]; exact hf
      have hw := h1'.write (B' := .row false e tt (xs.set k y)) hf' (q1 ▸ hp) hn rfl (Or.inr ⟨hn, (hB'.mono l1).set g2 hi hrep⟩)
      refine OpOk.skip (w' := setBlk w p.blk _) (E' := E1) ?_ ⟨l1, by rw [applyBl_fro]; exact hw, trivial⟩
      simp only [execOp, ho, Instr.storeAt, Instr.sureAddr, hev, Sem.run_bind, Sem.run_pure, Result.andThen_ok]
      rw [hrun, heq]
      rfl
     split at hr
     ·rename_i hsz
      have hsz := Nat.eq_of_beq_eq_true hsz
      obtain ⟨⟨y, fr⟩, k1, hr⟩ := RM.run_bind' hr
      obtain ⟨u, k2, hr⟩ := RM.run_bind' hr
      cases hr
      have hoff : off = 0 := by omega
      subst hoff
      exact key y fr cs _ k1 (run_guardR k2) hcs (by simp only [Nat.add_zero, hlen, hb1, hsz])
     ·obtain ⟨⟨y, fr⟩, k1, hr⟩ := RM.run_bind' hr
      obtain ⟨u, k2, hr⟩ := RM.run_bind' hr
      cases hr
      obtain ⟨us, m1, m2, m3⟩ := row_cells hB' hi
      have hus : us = (vs.toList.drop (k * tt.size)).take tt.size := by
       apply List.ext_getElem?
       intro n
       by_cases hn' : n < tt.size
       ·rw [List.getElem?_take_of_lt hn', List.getElem?_drop]
        have := m3 n us[n] (List.getElem?_eq_getElem (by omega))
        rw [cell_of_heap g2] at this
        rw [List.getElem?_eq_getElem (by omega), ← this]
        simp
       ·rw [List.getElem?_eq_none (by omega), List.getElem?_eq_none (by simp; omega)]
      refine key y fr _ _ k1 (run_guardR k2) (hcs.splice (CReps_flat m1) off) ?_
      rw [hlen, hb1, hus]
      simp only [List.take_take, List.drop_take, List.drop_drop, List.append_assoc]
      rw [Nat.min_eq_left (by omega)]
      have e1 : vs.toList.take (k * tt.size + off) = vs.toList.take (k * tt.size) ++ (vs.toList.drop (k * tt.size)).take off := by
       rw [List.take_add]
      rw [e1]
      simp only [List.append_assoc]
      congr 3
      have e2 : vs.toList.drop (k * tt.size + off + i.size) = (vs.toList.drop (k * tt.size + off + i.size)).take (tt.size - (off + i.size)) ++ (vs.toList.drop (k * tt.size + off + i.size)).drop (tt.size - (off + i.size)) := (List.take_append_drop _ _).symm
      rw [e2, List.drop_drop]
      rw [show k * tt.size + off + i.size = k * tt.size + (off + i.size) by omega, show k * tt.size + (off + i.size) + (tt.size - (off + i.size)) = k * tt.size + tt.size by omega]
    ·cases hr
   ·cases hr
  ·cases hr
 ·cases hr
theorem fill_foldl (cells : Array Value) (off : Nat) : ∀ (us : List Value) (k : Nat) (cs : Array Value), off + k + us.length ≤ cs.size →
  ((us.zipIdx k).foldl (fun cs (p : Value × Nat) => cs.setIfInBounds (off + p.2) p.1) cs).toList = cs.toList.take (off + k) ++ us ++ cs.toList.drop (off + k + us.length)
 | [], k, cs, _ => by simp
 | u :: us, k, cs, h => by
  simp only [List.zipIdx_cons, List.foldl_cons]
  rw [fill_foldl cells off us (k + 1) _ (by simp at h ⊢; omega)]
  have hk : off + k < cs.toList.length := by simp at h ⊢; omega
  simp only [Array.toList_setIfInBounds]
  apply List.ext_getElem?
  intro n
  simp only [List.length_cons]
  by_cases h1 : n < off + k
  ·rw [List.append_assoc, List.append_assoc, List.getElem?_append_left (by simp; omega), List.getElem?_append_left (by simp; omega), List.getElem?_take_of_lt (by omega), List.getElem?_take_of_lt (by omega), List.getElem?_set_ne (by omega)]
  ·by_cases h2 : n = off + k
   ·subst h2
    rw [List.append_assoc, List.append_assoc, List.getElem?_append_left (by simp at h ⊢; omega), List.getElem?_take_of_lt (by omega), List.getElem?_set_self (by omega),
     List.getElem?_append_right (by simp; omega), List.getElem?_append_left (by simp; omega)]
    simp only [List.length_take]
    rw [Nat.min_eq_left (by omega)]
    simp
   ·have hn : off + k + 1 ≤ n := by omega
    by_cases h3 : n < off + (k + 1) + us.length
    ·rw [List.getElem?_append_left (by simp at h ⊢; omega), List.getElem?_append_right (by simp; omega), List.getElem?_append_left (by simp at h ⊢; omega), List.getElem?_append_right (by simp; omega)]
     simp only [List.length_take, List.length_set]
     rw [show n - min (off + k) cs.toList.length = (n - min (off + (k + 1)) cs.toList.length) + 1 by omega, List.getElem?_cons_succ]
    ·rw [List.getElem?_append_right (by simp at h ⊢; omega), List.getElem?_append_right (by simp at h ⊢; omega)]
     simp only [List.getElem?_drop, List.length_append, List.length_take, List.length_set, List.length_cons]
     rw [List.getElem?_set_ne (by omega)]
     congr 1
     omega
theorem buildCs_sound (h : SRel w0 foot base S E a w) (hc : TagsHold a ctx) {pl : Nat → Option (Nat × Nat)} {fs : List (Nat × Nat × Nat)}
  (hp : ∀ (i : Nat) off size t, fs[i]? = some (off, size, t) → pl i = some (off, size)) : ∀ {ps : List (Nat × Operand)} {cs ds : List C} {cells : Array Value},
  (buildCs fs ps cs).run S ctx = some ds → CReps E cs cells.toList →
  ∃ cells', Instr.fill pl cells (ps.map fun (i, x) => (i, a.eval x)) = some cells' ∧ CReps E ds cells'.toList
 | [], cs, ds, cells, hr, hcs => by
  cases hr
  exact ⟨cells, rfl, hcs⟩
 | (i, x) :: ps, cs, ds, cells, hr, hcs => by
  unfold buildCs at hr
  obtain ⟨s, h1, hr⟩ := RM.run_bind' hr
  obtain ⟨us, h2, hr⟩ := RM.run_bind' hr
  split at hr
  ·rename_i off size t hf
   split at hr
   ·rename_i hb
    simp only [Bool.and_eq_true] at hb
    have hb1 := Nat.eq_of_beq_eq_true hb.1
    have hb2 := Nat.le_of_ble_eq_true hb.2
    have hus := evCells_rep h hc h1 h2
    have hl := hus.length
    have hcl := hcs.length
    simp only [Array.length_toList] at hl hcl
    have hfold := fill_foldl cells off (a.eval x).cells.toList 0 cells (by simp only [Array.length_toList]; omega)
    simp only [Nat.add_zero] at hfold
    obtain ⟨cells', k1, k2⟩ := buildCs_sound h hc hp (cells := (a.eval x).cells.zipIdx.foldl (fun cs (c, j) => cs.setIfInBounds (off + j) c) cells) hr (by
     have e : ((a.eval x).cells.zipIdx.foldl (fun cs (c, j) => cs.setIfInBounds (off + j) c) cells).toList = cells.toList.take off ++ (a.eval x).cells.toList ++ cells.toList.drop (off + (a.eval x).cells.toList.length) := by
      rw [← Array.foldl_toList, Array.toList_zipIdx]
      exact hfold
     rw [e]
     exact hus.splice hcs off)
    refine ⟨cells', ?_, k2⟩
    simp only [List.map_cons, Instr.fill, hp _ _ _ _ hf]
    rw [if_neg (by simp; omega)]
    exact k1
   ·cases hr
  ·cases hr
theorem run_mapM_places (gs : Array Field) (hi : ∀ f ∈ gs, ∃ j, P.info? f.type = some j) :
  (gs.mapM fun (f : Field) => (do pure (f.offset, ← sizeOf f.type) : Sem (Nat × Nat))).run P w = .ok (gs.map fun f => (f.offset, P.cellsOf f.type)) w := by
 rw [Array.mapM_eq_mapM_toList]
 have key : ∀ l : List Field, (∀ f ∈ l, ∃ j, P.info? f.type = some j) → (l.mapM fun (f : Field) => (do pure (f.offset, ← sizeOf f.type) : Sem (Nat × Nat))).run P w = .ok (l.map fun f => (f.offset, P.cellsOf f.type)) w := by
  intro l
  induction l with
  | nil => intro _; rfl
  | cons f l ih =>
   intro hl
   obtain ⟨j, hj⟩ := hl f List.mem_cons_self
   simp only [List.mapM_cons, Sem.run_bind, run_sizeOf' hj, Result.andThen_ok, Sem.run_pure, ih fun g hg => hl g (List.mem_cons_of_mem _ hg), List.map_cons]
   simp [Program.cellsOf, hj]
 rw [Sem.run_map, key gs.toList (fun f hf => hi f (by simpa using hf)), Result.andThen_ok]
 have e : (gs.toList.map fun f => (f.offset, P.cellsOf f.type)).toArray = gs.map fun f => (f.offset, P.cellsOf f.type) := by
  apply Array.ext'
  rw [Array.toList_map]
 rw [e]
end Go.Vc
end

section
set_option linter.unusedVariables false
set_option linter.unusedSimpArgs false
namespace Go.Vc
open Go
variable {P : Program} {X : Ctx} {w0 : World} {foot : Foot} {base : Mem} {S : St} {E : Env} {a : Act} {w : World} {ctx : Tags}
theorem info_of_cellsOf {t : Nat} (h : 0 < P.cellsOf t) : ∃ j, P.info? t = some j := by
 unfold Program.cellsOf at h
 cases hh : P.info? t with
 | none => rw [hh] at h; simp at h
 | some j => exact ⟨j, rfl⟩
theorem build_ok (hT : TabOk P X.tab) (h : SRel w0 foot base S E a w) (hc : TagsHold a ctx) {o : Oper} {t : Nat} {ps : Array (Nat × Operand)} (ho : o.op = .build t ps) {r : Res}
  (hr : (do
   let i ← ti X t
   match i.d with
   | .struct fs => (do
    guardR (fs.all fun f => Nat.blt 0 f.2.1)
    let z ← RM.ofOption (constCs i.zero.cells.toList)
    let cs ← buildCs fs ps.toList z
    pureV (.agg cs))
   | .array n e => (do
    let j ← ti X e
    let z ← RM.ofOption (constCs i.zero.cells.toList)
    let cs ← buildCs (arrFs n j.size e) ps.toList z
    pureV (.agg cs))
   | _ => .fail : RM Res).run S ctx = some r) : OpOk P w0 foot base S E a w o r := by
 obtain ⟨i, h1, hr⟩ := RM.run_bind' hr
 obtain ⟨hs, j, hj, e1, e2, e3⟩ := ti_spec hT h1
 split at hr
 ·rename_i fs hd
  rw [hd] at hs
  obtain ⟨gs, hu, rfl⟩ := skel_struct hs
  obtain ⟨u, h2, hr⟩ := RM.run_bind' hr
  obtain ⟨z, h3, hr⟩ := RM.run_bind' hr
  obtain ⟨cs, h4, hr⟩ := RM.run_bind' hr
  rw [pureV_spec hr]
  have hall := run_guardR h2
  have hinfo : ∀ f ∈ gs, ∃ j, P.info? f.type = some j := fun f hf => by
   rw [List.all_map, List.all_eq_true] at hall
   have := hall f (by simpa using hf)
   exact info_of_cellsOf (Nat.le_of_ble_eq_true this)
  obtain ⟨cells', k1, k2⟩ := buildCs_sound h hc (pl := fun i => (gs.map fun f => (f.offset, P.cellsOf f.type))[i]?) (fun i off size t hf => by
   rw [List.getElem?_map] at hf
   obtain ⟨g, hg, e⟩ := Option.map_eq_some_iff.1 hf
   simp only [Prod.mk.injEq] at e
   have hg' : gs[i]? = some g := by simpa using hg
   simp [hg', e.1, e.2.1]) h4 (constCs_rep (run_ofOption h3))
  refine OpOk.value (v := .agg cells') (w' := w) ?_ (After.pure h.toHRel ⟨cells', rfl, k2⟩)
  have hm := run_mapM_places (P := P) (w := w) gs hinfo
  simp only [execOp, ho, Instr.build, Sem.run_bind, run_zeroValue' hj e3, run_underlying hu, Result.andThen_ok]
  simp only [Sem.run_bind, hm, Result.andThen_ok]
  simp at k1
  simp [k1]
 ·rename_i n e hd
  rw [hd] at hs
  have hu := skel_array hs
  obtain ⟨i', h2, hr⟩ := RM.run_bind' hr
  obtain ⟨z, h3, hr⟩ := RM.run_bind' hr
  obtain ⟨cs, h4, hr⟩ := RM.run_bind' hr
  rw [pureV_spec hr]
  obtain ⟨hs', j', hj', e1', e2', e3'⟩ := ti_spec hT h2
  obtain ⟨cells', k1, k2⟩ := buildCs_sound h hc (pl := fun k => some (k * j'.size, j'.size)) (fun k off size t hf => by
   unfold arrFs at hf
   rw [List.getElem?_map] at hf
   obtain ⟨g, hg, e⟩ := Option.map_eq_some_iff.1 hf
   simp only [Prod.mk.injEq] at e
   have hg : k = g := by
    obtain ⟨hlt, hg⟩ := List.getElem?_eq_some_iff.1 hg
    simpa using hg
   subst hg
   rw [e1', e.1, e.2.1]) h4 (constCs_rep (run_ofOption h3))
  refine OpOk.value (v := .agg cells') (w' := w) ?_ (After.pure h.toHRel ⟨cells', rfl, k2⟩)
  simp only [execOp, ho, Instr.build, Sem.run_bind, run_zeroValue' hj e3, run_underlying hu, Result.andThen_ok, run_sizeOf' hj']
  simp at k1
  simp [k1]
 ·cases hr
theorem mkSV_part {d : TD} {t : Nat} (hs : skel P t = d) {cs ds : List C} {vs : Array Value} {off : Nat} {s : SV} {j : TypeInfo} (hj : P.info? t = some j) (hv : CReps E ds vs.toList) (hd : cs = (ds.drop off).take j.size) (hl : off + j.size ≤ ds.length)
  (hr : (mkSV d cs).run S ctx = some s) : ∃ v, (part t vs off).run P w = .ok v w ∧ SRep E s v := by
 subst hs
 have hvl := hv.length
 have hcs := (hv.drop off).take j.size
 rw [← hd] at hcs
 unfold mkSV at hr
 split at hr
 ·rename_i fs hs
  cases hr
  obtain ⟨gs, hu, _⟩ := skel_struct hs
  refine ⟨.agg (vs.extract off (off + j.size)), by simp [part, run_isAgg_struct hu, run_sizeOf' hj], _, rfl, ?_⟩
  have e : (vs.extract off (off + j.size)).toList = (vs.toList.drop off).take j.size := by simp [List.extract_eq_take_drop]
  rw [e]
  exact hcs
 ·rename_i n e' hs
  cases hr
  refine ⟨.agg (vs.extract off (off + j.size)), by simp [part, run_isAgg_array (skel_array hs), run_sizeOf' hj], _, rfl, ?_⟩
  have e : (vs.extract off (off + j.size)).toList = (vs.toList.drop off).take j.size := by simp [List.extract_eq_take_drop]
  rw [e]
  exact hcs
 ·cases hr
 ·split at hr
  ·rename_i h1 h2 h3 c
   cases hr
   obtain ⟨v, us, he, k1, k2⟩ := hcs
   refine ⟨v, ?_, k1⟩
   have hagg : (isAgg t).run P w = .ok false w := run_isAgg_scalar (by cases hs : skel P t <;> simp_all)
   have hget : vs[off]? = some v := by
    have : ((vs.toList.drop off).take j.size)[0]? = some v := by rw [he]; rfl
    have hj1 : 0 < j.size := by
     rcases Nat.eq_zero_or_pos j.size with hz | hz
     ·rw [hz] at hd; simp at hd
     ·exact hz
    rw [List.getElem?_take_of_lt hj1, List.getElem?_drop] at this
    simpa using this
   simp [part, hagg, hget]
  ·cases hr
theorem field_ok (hT : TabOk P X.tab) (h : SRel w0 foot base S E a w) (hc : TagsHold a ctx) {o : Oper} {t : Nat} {x : Operand} {f : Nat} (ho : o.op = .field t x f) {r : Res}
  (hr : (do
   let i ← ti X t
   match i.d, ← ev x with
   | .struct fs, .agg cs => (match fs[f]? with
    | some (off, size, t) => (do
     let j ← ti X t
     guardR (Nat.ble (off + size) cs.length && Nat.beq j.size size)
     pureV (← mkSV j.d ((cs.drop off).take size)))
    | none => .fail)
   | _, _ => .fail : RM Res).run S ctx = some r) : OpOk P w0 foot base S E a w o r := by
 obtain ⟨i, h1, hr⟩ := RM.run_bind' hr
 obtain ⟨s, h2, hr⟩ := RM.run_bind' hr
 obtain ⟨hs, j, hj, e1, e2, e3⟩ := ti_spec hT h1
 have hv := ev_rep h hc h2
 split at hr
 ·rename_i fs cs hd
  rw [hd] at hs
  obtain ⟨gs, hu, rfl⟩ := skel_struct hs
  obtain ⟨vs, hev, hrep⟩ := hv
  split at hr
  ·rename_i off size tf hf
   obtain ⟨i', h3, hr⟩ := RM.run_bind' hr
   obtain ⟨u, h4, hr⟩ := RM.run_bind' hr
   obtain ⟨s', h5, hr⟩ := RM.run_bind' hr
   rw [pureV_spec hr]
   obtain ⟨hs', j', hj', e1', e2', e3'⟩ := ti_spec hT h3
   have hb := run_guardR h4
   simp only [Bool.and_eq_true] at hb
   have hb1 := Nat.le_of_ble_eq_true hb.1
   have hb2 := Nat.eq_of_beq_eq_true hb.2
   rw [List.getElem?_map] at hf
   obtain ⟨g, hg, e⟩ := Option.map_eq_some_iff.1 hf
   simp only [Prod.mk.injEq] at e
   have hg' : gs[f]? = some g := by simpa using hg
   obtain ⟨eo, es, et⟩ := e
   subst eo et
   have hsz : j'.size = size := by omega
   obtain ⟨v, k1, k2⟩ := mkSV_part (w := w) hs' hj' hrep (off := g.offset) (by rw [hsz]) (by omega) h5
   refine OpOk.value (v := v) (w' := w) ?_ (After.pure h.toHRel k2)
   simp [execOp, ho, Instr.field, run_underlying hu, hg', hev, asAgg, k1]
  ·cases hr
 ·cases hr
theorem SRep.go_get : ∀ {l : List (Bool × List C)} {vs : List Value}, SRep.go E l vs → ∀ (k : Nat) g cs, l[k]? = some (g, cs) → ∃ v, vs[k]? = some v ∧
  (match g with | true => ∃ ws, v = .agg ws ∧ CReps E cs ws.toList | false => ∃ c, cs = [c] ∧ CRep E c v)
 | [], _, _, k, g, cs, h => by simp at h
 | (g', cs') :: l, _, hh, 0, g, cs, h => by
  obtain ⟨v, us, hv, k1, k2⟩ := hh
  subst hv
  simp only [List.getElem?_cons_zero, Option.some.injEq, Prod.mk.injEq] at h
  obtain ⟨rfl, rfl⟩ := h
  exact ⟨v, rfl, k1⟩
 | (g', cs') :: l, _, hh, k + 1, g, cs, h => by
  obtain ⟨v, us, hv, k1, k2⟩ := hh
  subst hv
  simpa using SRep.go_get k2 k g cs (by simpa using h)
theorem extract_ok (h : SRel w0 foot base S E a w) (hc : TagsHold a ctx) {o : Oper} {x : Operand} {k : Nat} (ho : o.op = .extract x k) {r : Res}
  (hr : (do
   match ← ev x with
   | .tup vs => (match vs[k]? with
    | some (true, cs) => pureV (.agg cs)
    | some (false, [c]) => pureC c
    | _ => .fail)
   | _ => .fail : RM Res).run S ctx = some r) : OpOk P w0 foot base S E a w o r := by
 obtain ⟨s, h1, hr⟩ := RM.run_bind' hr
 have hv := ev_rep h hc h1
 split at hr
 ·rename_i l
  obtain ⟨vs, hev, hrep⟩ := hv
  split at hr
  ·rename_i cs hk
   rw [pureV_spec hr]
   obtain ⟨v, k1, ws, rfl, k2⟩ := SRep.go_get hrep k _ _ hk
   refine OpOk.value (v := .agg ws) (w' := w) ?_ (After.pure h.toHRel ⟨ws, rfl, k2⟩)
   have k1' : vs[k]? = some (.agg ws) := by simpa using k1
   simp [execOp, ho, Instr.extract, hev, k1']
  ·rename_i c hk
   rw [pureC_spec hr]
   obtain ⟨v, k1, c', hcc, k2⟩ := SRep.go_get hrep k _ _ hk
   cases hcc
   refine OpOk.value (v := v) (w' := w) ?_ (After.pure h.toHRel k2)
   have k1' : vs[k]? = some v := by simpa using k1
   simp [execOp, ho, Instr.extract, hev, k1']
  ·cases hr
 ·cases hr
theorem wrap_inR (k : IntKind) (n : Int) : InR k (k.wrap n) := by
 cases k <;> simp [InR, IntKind.min, IntKind.max, IntKind.wrap, IntKind.signed, IntKind.bits] <;> (first | (split <;> omega) | omega)
theorem inR_wrap {k : IntKind} {n : Int} (h : InR k n) : k.wrap n = n := by
 cases k <;> simp [InR, IntKind.min, IntKind.max, IntKind.wrap, IntKind.signed, IntKind.bits] at * <;> (first | (split <;> omega) | omega)
theorem arith_spec {wr : Bool} {k : IntKind} {n : Int} {r : Res} (h : (arith wr k n).run S ctx = some r) (hc : ∀ c ∈ r.conds, c) :
  ∃ m, r.val = some (.one (.dat (.int k) m)) ∧ m = k.wrap n ∧ InR k m ∧ r.blks = [] ∧ r.del = [] ∧ r.new = [] := by
 unfold arith at h
 split at h
 ·cases h
  exact ⟨_, rfl, rfl, wrap_inR _ _, rfl, rfl, rfl⟩
 ·cases h
  have : InR k n := hc _ (by simp)
  exact ⟨_, rfl, (inR_wrap this).symm, this, rfl, rfl, rfl⟩
def Reckons (E : Env) (r : Res) (v : Value) : Prop := (∃ s, r.val = some s ∧ SRep E s v) ∧ r.blks = [] ∧ r.del = [] ∧ r.new = []
theorem Reckons.after (h : HRel w0 foot base S.bl S.used E w) {r : Res} {v : Value} (hv : Reckons E r v) : After w0 foot base S.bl S.used E r E w v := by
 obtain ⟨⟨s, h1, h2⟩, h3, h4, h5⟩ := hv
 refine ⟨.refl _, ?_, ?_⟩
 ·have : applyBl r S.bl = S.bl := by simp [applyBl, h3, h4]
  rw [this, h5]
  exact h
 ·rw [h1]; exact h2
theorem Reckons.pureC {c : C} {r : Res} {v : Value} (h : (Vc.pureC c).run S ctx = some r) (hv : CRep E c v) : Reckons E r v := by
 rw [pureC_spec h]; exact ⟨⟨_, rfl, hv⟩, rfl, rfl, rfl⟩
theorem Reckons.int {k : IntKind} {n : Int} {r : Res} {conds : List Prop} (h : r = { val := some (.one (.dat (.int k) n)), conds := conds }) (hn : InR k n) : Reckons E r (.int k n) := by
 rw [h]; exact ⟨⟨_, rfl, rfl, rfl, hn⟩, rfl, rfl, rfl⟩
theorem Reckons.bool {b : Bool} {r : Res} (h : (Vc.pureC (.dat .bool b)).run S ctx = some r) : Reckons E r (.bool b) := .pureC h ⟨rfl, rfl⟩
theorem arith_reckons {wr : Bool} {k : IntKind} {n : Int} {r : Res} (h : (arith wr k n).run S ctx = some r) (hc : ∀ c ∈ r.conds, c) : Reckons E r (.int k (k.wrap n)) := by
 obtain ⟨m, h1, h2, h3, h4, h5, h6⟩ := arith_spec h hc
 subst h2
 exact ⟨⟨_, h1, rfl, rfl, h3⟩, h4, h5, h6⟩
theorem inR_of_between {k : IntKind} {x z : Int} (hx : InR k x) (h1 : 0 ≤ x → 0 ≤ z ∧ z ≤ x) (h2 : x < 0 → x ≤ z ∧ z ≤ 0) : InR k z := by
 have h0 : k.min ≤ 0 ∧ 0 ≤ k.max := by cases k <;> decide
 unfold InR at *
 by_cases h : 0 ≤ x
 ·have := h1 h; omega
 ·have := h2 (by omega); omega
theorem tmod_inR {k : IntKind} {x y : Int} (hx : InR k x) : InR k (x.tmod y) := by
 have h1 : (x.tmod y).natAbs ≤ x.natAbs := by
  rw [Int.natAbs_tmod]
  exact Nat.mod_le _ _
 have h2 : 0 ≤ x → 0 ≤ x.tmod y := Int.tmod_nonneg y
 have h3 : x < 0 → x.tmod y ≤ 0 := fun h => by
  have := Int.tmod_nonneg (a := -x) y (by omega)
  rw [Int.neg_tmod] at this
  omega
 exact inR_of_between hx (fun h => by have := h2 h; omega) (fun h => by have := h3 h; omega)
theorem intOp_sound {wr : Bool} {op : BinOp} {k : IntKind} {x y : Int} {r : Res} (hx : InR k x) (hy : InR k y) (h : (intOp wr op k x y).run S ctx = some r) (hc : ∀ c ∈ r.conds, c) (t : Nat) :
  ∃ v, (binOp op t (.int k x) (.int k y)).run P w = .ok v w ∧ Reckons E r v := by
 cases op <;> simp only [intOp] at h
 case add => exact ⟨.int k (k.wrap (x + y)), by simp [binOp, Op.intArith], arith_reckons h hc⟩
 case sub => exact ⟨.int k (k.wrap (x - y)), by simp [binOp, Op.intArith], arith_reckons h hc⟩
 case mul => exact ⟨.int k (k.wrap (x * y)), by simp [binOp, Op.intArith], arith_reckons h hc⟩
 case quo =>
  cases h
  have hy0 : y ≠ 0 := hc (y ≠ 0) (by simp)
  exact ⟨.int k (k.wrap (x.tdiv y)), by simp [binOp, Op.intDiv, hy0], .int rfl (wrap_inR _ _)⟩
 case rem =>
  cases h
  have hy0 : y ≠ 0 := hc (y ≠ 0) (by simp)
  exact ⟨.int k (x.tmod y), by simp [binOp, Op.intDiv, hy0], .int rfl (tmod_inR hx)⟩
 case and => exact ⟨.int k (bitsOf .and k x y), by simp [binOp, Op.intBits, bitsOf], .pureC h ⟨rfl, rfl, wrap_inR _ _⟩⟩
 case or => exact ⟨.int k (bitsOf .or k x y), by simp [binOp, Op.intBits, bitsOf], .pureC h ⟨rfl, rfl, wrap_inR _ _⟩⟩
 case xor => exact ⟨.int k (bitsOf .xor k x y), by simp [binOp, Op.intBits, bitsOf], .pureC h ⟨rfl, rfl, wrap_inR _ _⟩⟩
 case andNot => exact ⟨.int k (bitsOf .andNot k x y), by simp [binOp, Op.intBits, bitsOf], .pureC h ⟨rfl, rfl, wrap_inR _ _⟩⟩
 case eql => exact ⟨.bool (x == y), by simp [binOp, Op.intCmp], .bool h⟩
 case neq => exact ⟨.bool (x != y), by simp [binOp, Op.intCmp], .bool h⟩
 case lss => exact ⟨.bool (decide (x < y)), by simp [binOp, Op.intCmp], .bool h⟩
 case leq => exact ⟨.bool (decide (x ≤ y)), by simp [binOp, Op.intCmp], .bool h⟩
 case gtr => exact ⟨.bool (decide (x > y)), by simp [binOp, Op.intCmp], .bool h⟩
 case geq => exact ⟨.bool (decide (x ≥ y)), by simp [binOp, Op.intCmp], .bool h⟩
 all_goals cases h
theorem fdiv_inR {k : IntKind} {x : Int} {n : Nat} (hx : InR k x) : InR k (x.fdiv (2 ^ n)) := by
 have hp : (0 : Int) < 2 ^ n := Int.pow_pos (by decide)
 rw [Int.fdiv_eq_ediv_of_nonneg _ (Int.le_of_lt hp)]
 have h1 : 0 ≤ x → x / 2 ^ n ≤ x := fun h => Int.ediv_le_self _ h
 have h2 : 0 ≤ x → 0 ≤ x / 2 ^ n := fun h => Int.ediv_nonneg h (Int.le_of_lt hp)
 have h3 : x < 0 → x / 2 ^ n < 0 := fun h => Int.ediv_neg_of_neg_of_pos h hp
 have h4 : x < 0 → x ≤ x / 2 ^ n := fun h => by
  rw [Int.le_ediv_iff_mul_le hp]
  have : x * 2 ^ n ≤ x * 1 := Int.mul_le_mul_of_nonpos_left (by omega) (by omega)
  omega
 exact inR_of_between hx (fun h => ⟨h2 h, h1 h⟩) (fun h => ⟨h4 h, by have := h3 h; omega⟩)
theorem shiftOp_sound {op : BinOp} {j k : IntKind} {x y : Int} {r : Res} (hx : InR j x) (h : (shiftOp op j x y).run S ctx = some r) (hc : ∀ c ∈ r.conds, c) (t : Nat) :
  ∃ v, (binOp op t (.int j x) (.int k y)).run P w = .ok v w ∧ Reckons E r v := by
 cases op <;> simp only [shiftOp] at h
 case shl =>
  cases h
  have hy : 0 ≤ y := hc (0 ≤ y) (by simp)
  have hy' : ¬ y < 0 := by omega
  exact ⟨_, by simp only [binOp, Op.shift, if_neg hy']; rfl, .int rfl (wrap_inR _ _)⟩
 case shr =>
  cases h
  have hy : 0 ≤ y := hc (0 ≤ y) (by simp)
  have hy' : ¬ y < 0 := by omega
  exact ⟨_, by simp only [binOp, Op.shift, if_neg hy']; rfl, .int rfl (fdiv_inR hx)⟩
 all_goals cases h
end Go.Vc
end

section
set_option linter.unusedVariables false
set_option linter.unusedSimpArgs false
namespace Go.Vc
open Go
variable {P : Program} {X : Ctx} {w0 : World} {foot : Foot} {base : Mem} {S : St} {E : Env} {a : Act} {w : World} {ctx : Tags}
theorem run_eqGuard_int (op : BinOp) (t : TypeId) (x y : Operand) (j k : IntKind) (m n : Int) : (eqGuard op t x y (.int j m) (.int k n)).run P w = .ok () w := by
 cases op <;> simp [eqGuard]
theorem run_eqGuard_bool (op : BinOp) (t : TypeId) (x y : Operand) (m n : Bool) : (eqGuard op t x y (.bool m) (.bool n)).run P w = .ok () w := by
 cases op <;> simp [eqGuard]
theorem run_eqGuard_str (op : BinOp) (t : TypeId) (x y : Operand) (m n : ByteArray) : (eqGuard op t x y (.string m) (.string n)).run P w = .ok () w := by
 cases op <;> simp [eqGuard]
theorem str_toList (s : List UInt8) : (⟨⟨s⟩⟩ : ByteArray).toList = s := by rw [Go.ByteArray.toList_eq]
theorem str_size (s : List UInt8) : (⟨⟨s⟩⟩ : ByteArray).size = s.length := rfl
theorem str_append (s t : List UInt8) : (⟨⟨s⟩⟩ : ByteArray) ++ ⟨⟨t⟩⟩ = ⟨⟨s ++ t⟩⟩ := by
 apply ByteArray.ext
 simp
theorem strOp_sound {op : BinOp} {x y : List UInt8} {r : Res} (h : (strOp op x y).run S ctx = some r) (hc : ∀ c ∈ r.conds, c) (t : Nat) :
  ∃ v, (binOp op t (.string ⟨⟨x⟩⟩) (.string ⟨⟨y⟩⟩)).run P w = .ok v w ∧ Reckons E r v := by
 cases op <;> simp only [strOp] at h
 case add =>
  cases h
  have hl : x.length + y.length ≤ maxLenI := hc _ (by simp)
  refine ⟨.string ⟨⟨x ++ y⟩⟩, ?_, ⟨_, rfl, rfl, rfl, by simpa using hl⟩, rfl, rfl, rfl⟩
  have hmax : IntKind.i64.max = 9223372036854775807 := by decide
  have : ¬ (((⟨⟨x⟩⟩ : ByteArray).size + (⟨⟨y⟩⟩ : ByteArray).size : Nat) : Int) > IntKind.i64.max := by
   rw [str_size, str_size, hmax]
   unfold maxLenI at hl
   omega
  simp only [binOp, Op.stringOp, if_neg this, str_append]
  rfl
 case eql => exact ⟨.bool (x == y), by simp only [binOp, Op.stringOp, str_toList]; rfl, .bool h⟩
 case neq => exact ⟨.bool (!(x == y)), by simp only [binOp, Op.stringOp, str_toList]; rfl, .bool h⟩
 case lss => exact ⟨.bool (Op.bytesLess x y), by simp only [binOp, Op.stringOp, str_toList]; rfl, .bool h⟩
 all_goals cases h
theorem eqC_equal {d t : Nat} {c c' : C} {b : Bool} {u v : Value} (hb : eqC (skel P t) c c' = some b) (hu : CRep E c u) (hv : CRep E c' v) :
  (Op.equalIn (d + 1) t u v).run P w = .ok b w := by
 unfold eqC at hb
 split at hb
 ·rename_i k' j x k y hs
  split at hb
  ·rename_i hjk
   cases hb
   have e := kindBeq_eq hjk
   subst e
   obtain ⟨_, h1, _⟩ := hu
   obtain ⟨_, h2, _⟩ := hv
   simp only [List.cons.injEq, and_true] at h1 h2
   subst h1 h2
   exact run_equalIn_int w d t _ k' _ _ (skel_int hs)
  ·cases hb
 ·rename_i hs
  cases hb
  obtain ⟨_, h1⟩ := hu
  obtain ⟨_, h2⟩ := hv
  simp only [Rep, List.cons.injEq, and_true] at h1 h2
  subst h1 h2
  exact run_equalIn_bool w d t _ _ (skel_bool hs)
 ·rename_i hs
  cases hb
  obtain ⟨_, h1, _⟩ := hu
  obtain ⟨_, h2, _⟩ := hv
  simp only [List.cons.injEq, and_true] at h1 h2
  subst h1 h2
  rw [run_equalIn_string w d t _ _ (skel_str hs), str_toList, str_toList]
 ·cases hb
theorem eqC_scalar {t : Nat} {c c' : C} {b : Bool} (hb : eqC (skel P t) c c' = some b) : (match skel P t with | .struct _ => false | .array _ _ => false | .map _ _ => true | .other => false | _ => true) = true := by
 unfold eqC at hb
 split at hb
 ·rename_i hs; rw [hs]
 ·rename_i hs; rw [hs]
 ·rename_i hs; rw [hs]
 ·cases hb
theorem run_part_scalar {t off : Nat} {vs : Array Value} {v : Value} (h : (match skel P t with | .struct _ => false | .array _ _ => false | .map _ _ => true | .other => false | _ => true) = true) (hv : vs[off]? = some v) :
  (part t vs off).run P w = .ok v w := by
 simp [part, run_isAgg_scalar h, hv]
theorem eqFields_sound (hT : TabOk P X.tab) {d : Nat} {xs ys : Array Value} : ∀ {gs : List Field} {cs ds : List C} {b : Bool},
  (eqFields X (gs.map fun f => (f.offset, P.cellsOf f.type, f.type)) cs ds).run S ctx = some b → CReps E cs xs.toList → CReps E ds ys.toList → (gs.all fun f => f.name != "_") = true →
  (Op.eqFields (d + 1) xs ys gs).run P w = .ok b w
 | [], cs, ds, b, hr, _, _, _ => by cases hr; simp [Op.eqFields]
 | g :: gs, cs, ds, b, hr, hx, hy, hn => by
  simp only [List.map_cons, eqFields] at hr
  have hr0 := RM.run_bind' hr
  clear hr
  obtain ⟨i, h1, hr⟩ := hr0
  obtain ⟨hs, _⟩ := ti_spec hT h1
  simp only [List.all_cons, Bool.and_eq_true, bne_iff_ne] at hn
  split at hr
  ·rename_i c c' hc hc'
   have hr0 := RM.run_bind' hr
   clear hr
   obtain ⟨b1, h2, hr⟩ := hr0
   have hr0 := RM.run_bind' hr
   clear hr
   obtain ⟨b2, h3, hr⟩ := hr0
   cases RM.run_pure' hr
   have h2 := run_ofOption h2
   rw [← hs] at h2
   obtain ⟨u, hu, ku⟩ := hx.get _ _ hc
   obtain ⟨v, hv, kv⟩ := hy.get _ _ hc'
   have hsc := eqC_scalar h2
   have ih := eqFields_sound hT (d := d) h3 hx hy (by simpa using hn.2)
   simp only [Op.eqFields, if_pos hn.1, Sem.run_bind, run_part_scalar hsc (show xs[g.offset]? = some u by simpa using hu), run_part_scalar hsc (show ys[g.offset]? = some v by simpa using hv),
    Result.andThen_ok, eqC_equal h2 ku kv]
   cases b1 with
   | true => simpa using ih
   | false => simp
  ·cases hr
theorem binR_sound {wr : Bool} {op : BinOp} {s s' : SV} {u v : Value} {r : Res} (hu : SRep E s u) (hv : SRep E s' v) (hr : (binR wr op s s').run S ctx = some r) (hc : ∀ c ∈ r.conds, c) (t : Nat) (x y : Operand)
  (ht : ∀ b b', s = .one (.dat .bool b) → s' = .one (.dat .bool b') → P.underlying t = some .bool) :
  ∃ z, (do eqGuard op t x y u v; binOp op t u v : Sem Value).run P w = .ok z w ∧ Reckons E r z := by
 unfold binR at hr
 split at hr
 ·rename_i j m k n
  obtain ⟨_, h1, h1'⟩ := hu
  obtain ⟨_, h2, h2'⟩ := hv
  simp only [List.cons.injEq, and_true] at h1 h2
  subst h1 h2
  have hg := run_eqGuard_int (P := P) (w := w) op t x y j k m n
  simp only [Sem.run_bind]
  rw [hg, Result.andThen_ok]
  split at hr
  ·exact shiftOp_sound h1' hr hc t
  ·split at hr
   ·rename_i hjk
    have e := kindBeq_eq hjk
    subst e
    exact intOp_sound h1' h2' hr hc t
   ·cases hr
 ·obtain ⟨_, h1, _⟩ := hu
  obtain ⟨_, h2, _⟩ := hv
  simp only [List.cons.injEq, and_true] at h1 h2
  subst h1 h2
  rw [Sem.run_bind, run_eqGuard_str, Result.andThen_ok]
  exact strOp_sound hr hc t
 ·rename_i m n
  have hb := ht _ _ rfl rfl
  obtain ⟨_, h1⟩ := hu
  obtain ⟨_, h2⟩ := hv
  simp only [Rep, List.cons.injEq, and_true] at h1 h2
  subst h1 h2
  simp only [Sem.run_bind]
  have key : (Op.equal t (.bool m) (.bool n)).run P w = .ok (Ty.B m == Ty.B n) w := by
   unfold Op.equal
   exact run_equalIn_bool w 9999 t _ _ hb
  have hg := fun op' => run_eqGuard_bool (P := P) (w := w) op' t x y m n
  split at hr
  ·exact ⟨.bool (Ty.B m == Ty.B n), by rw [hg, Result.andThen_ok]; simp [binOp, key], .bool hr⟩
  ·exact ⟨.bool (!(Ty.B m == Ty.B n)), by rw [hg, Result.andThen_ok]; simp [binOp, key], .bool hr⟩
  ·cases hr
 ·cases hr
theorem run_equalIn_nilptr {t e : Nat} (hu : P.underlying t = some (.pointer e)) (d : Nat) (p : Option Addr) : (Op.equalIn (d + 1) t (.pointer p) (.pointer none)).run P w = .ok p.isNone w := by
 cases p with
 | none => simp only [Op.equalIn, Sem.run_bind, run_underlying hu, Result.andThen_ok]; rfl
 | some q => simp only [Op.equalIn, Sem.run_bind, run_underlying hu, Result.andThen_ok]; rfl
theorem run_eqGuard_ptr (op : BinOp) (t : Nat) (x y : Operand) (p : Option Addr) : (eqGuard op t x y (.pointer p) (.pointer none)).run P w = .ok () w := by
 unfold eqGuard
 split <;> rfl
theorem run_eq_nilptr {t e : Nat} (hu : P.underlying t = some (.pointer e)) (x y : Operand) (p : Option Addr) :
  (do eqGuard .eql t x y (.pointer p) (.pointer none); binOp .eql t (.pointer p) (.pointer none) : Sem Value).run P w = .ok (.bool p.isNone) w := by
 rw [Sem.run_bind, run_eqGuard_ptr, Result.andThen_ok]
 show (do pure (.bool (← Op.equal t (.pointer p) (.pointer none))) : Sem Value).run P w = _
 rw [Sem.run_bind, show Op.equal t (.pointer p) (.pointer none) = Op.equalIn (9999 + 1) t (.pointer p) (.pointer none) from rfl, run_equalIn_nilptr hu]
 rfl
theorem run_ne_nilptr {t e : Nat} (hu : P.underlying t = some (.pointer e)) (x y : Operand) (p : Option Addr) :
  (do eqGuard .neq t x y (.pointer p) (.pointer none); binOp .neq t (.pointer p) (.pointer none) : Sem Value).run P w = .ok (.bool (!p.isNone)) w := by
 rw [Sem.run_bind, run_eqGuard_ptr, Result.andThen_ok]
 show (do pure (.bool (!(← Op.equal t (.pointer p) (.pointer none)))) : Sem Value).run P w = _
 rw [Sem.run_bind, show Op.equal t (.pointer p) (.pointer none) = Op.equalIn (9999 + 1) t (.pointer p) (.pointer none) from rfl, run_equalIn_nilptr hu]
 rfl
theorem nilR_sound {op : BinOp} {c : C} {u : Value} {r : Res} (hu : CRep E c u) (hr : (nilR op c).run S ctx = some r) {t e : Nat} (ht : P.underlying t = some (.pointer e)) (x y : Operand) :
  ∃ z, (do eqGuard op t x y u (.pointer none); binOp op t u (.pointer none) : Sem Value).run P w = .ok z w ∧ Reckons E r z := by
 have key : ∀ (p : Option Addr) (b : Bool), u = .pointer p → p.isNone = b → (nilRes op b).run S ctx = some r → ∃ z, (do eqGuard op t x y u (.pointer none); binOp op t u (.pointer none) : Sem Value).run P w = .ok z w ∧ Reckons E r z := fun p b hp hb hr => by
  subst hp hb
  cases op
  case eql => exact ⟨_, run_eq_nilptr ht x y p, .bool hr⟩
  case neq => exact ⟨_, run_ne_nilptr ht x y p, .bool hr⟩
  all_goals cases hr
 cases c with
 | dat t' o =>
  cases t' with
  | ptr tt =>
   have hr : (nilRes op (Option.isNone (α := tt.den) o)).run S ctx = some r := hr
   have hv : Rep E.F (.ptr tt) o [u] := hu.2
   rcases hv with ⟨ho, hv⟩ | ⟨q, ho, b, off, hv, _⟩
   ·simp only [List.cons.injEq, and_true] at hv
    exact key none (Option.isNone (α := tt.den) o) hv (by rw [ho]; rfl) hr
   ·simp only [List.cons.injEq, and_true] at hv
    exact key _ (Option.isNone (α := tt.den) o) hv (by rw [ho]; rfl) hr
  | _ => cases hr
 | ptr b o => obtain ⟨p, _, _, hv⟩ := hu; exact key _ false hv rfl hr
 | rptr t b i o => obtain ⟨p, _, _, _, hv⟩ := hu; exact key _ false hv rfl hr
 | elt t xs i o => obtain ⟨_, b, off, hv, _⟩ := hu; exact key _ false hv rfl hr
 | _ => cases hr
theorem binOp_ok (hT : TabOk P X.tab) (h : SRel w0 foot base S E a w) (hc : TagsHold a ctx) {o : Oper} {op : BinOp} {t yt : Nat} {x y : Operand} (ho : o.op = .binOp op t x y yt) {wr : Bool} {r : Res}
  (hr : (do
   let a ← ev x
   let b ← ev y
   match a, b with
   | .agg cs, .agg ds => (do
    let i ← ti X t
    guardR i.eq
    match op, i.d with
    | .eql, .struct fs => (do pureC (.dat .bool (← eqFields X fs cs ds)))
    | .neq, .struct fs => (do pureC (.dat .bool (!(← eqFields X fs cs ds))))
    | _, _ => .fail)
   | .one (.dat .bool _), .one (.dat .bool _) => (do
    let i ← ti X t
    match i.d with
    | .bool => binR wr op a b
    | _ => .fail)
   | .one c, .one .nilptr => (do
    let i ← ti X t
    match i.d with
    | .pnt => nilR op c
    | _ => .fail)
   | _, _ => binR wr op a b : RM Res).run S ctx = some r) (hcond : ∀ c ∈ r.conds, c) : OpOk P w0 foot base S E a w o r := by
 have hr0 := RM.run_bind' hr
 clear hr
 obtain ⟨s, h1, hr⟩ := hr0
 have hr0 := RM.run_bind' hr
 clear hr
 obtain ⟨s', h2, hr⟩ := hr0
 have hx := ev_rep h hc h1
 have hy := ev_rep h hc h2
 have key : ∀ z, (do eqGuard op t x y (a.eval x) (a.eval y); binOp op t (a.eval x) (a.eval y) : Sem Value).run P w = .ok z w → Reckons E r z → OpOk P w0 foot base S E a w o r := fun z hz hR => by
  refine OpOk.value (v := z) (w' := w) ?_ (hR.after h.toHRel)
  simp only [execOp, ho]
  rw [Sem.run_bind, hz]
  rfl
 split at hr
 ·rename_i cs ds
  have hr0 := RM.run_bind' hr
  clear hr
  obtain ⟨i, h3, hr⟩ := hr0
  have hr0 := RM.run_bind' hr
  clear hr
  obtain ⟨u, h4, hr⟩ := hr0
  obtain ⟨hs, _⟩ := ti_spec hT h3
  obtain ⟨xs, ex, kx⟩ := hx
  obtain ⟨ys, ey, ky⟩ := hy
  have heq : plainEq P t = true := by
   have h3 := run_ofOption h3
   obtain ⟨hm, rfl⟩ := tabOf_mem h3
   rw [map_eq_mem hT.eqs i hm]
   exact run_guardR h4
  unfold plainEq at heq
  simp only [Bool.and_eq_true, Bool.not_eq_true'] at heq
  have go : ∀ fs b, i.d = .struct fs → (eqFields X fs cs ds).run S ctx = some b → (Op.equalIn 10000 t (.agg xs) (.agg ys)).run P w = .ok b w := fun fs b hd hb => by
   rw [hd] at hs
   obtain ⟨gs, hu, rfl⟩ := skel_struct hs
   have hgs : P.fieldsOf t = gs := by simp [Program.fieldsOf, hu]
   rw [show (10000 : Nat) = 9999 + 1 from rfl, run_equalIn_struct w 9999 t xs ys (by rw [hgs]; exact hu) heq.1.2, hgs]
   refine eqFields_sound hT (d := 9998) hb kx ky ?_
   have := heq.2
   rw [hu] at this
   exact this
  rw [ex, ey] at key
  split at hr
  ·rename_i fs hd
   have hr0 := RM.run_bind' hr
   clear hr
   obtain ⟨b, h5, hr⟩ := hr0
   refine key (.bool b) ?_ (.bool hr)
   rw [Sem.run_bind, run_eqGuard_agg w _ _ _ _ _ _ heq.1.1, Result.andThen_ok, run_eql_struct, go _ _ hd h5]
   rfl
  ·rename_i fs hd
   have hr0 := RM.run_bind' hr
   clear hr
   obtain ⟨b, h5, hr⟩ := hr0
   refine key (.bool (!b)) ?_ (.bool hr)
   rw [Sem.run_bind, run_eqGuard_agg w _ _ _ _ _ _ heq.1.1, Result.andThen_ok, run_neq_struct, go _ _ hd h5]
   rfl
  ·cases hr
 ·rename_i b1 b2
  have hr0 := RM.run_bind' hr
  clear hr
  obtain ⟨i, h3, hr⟩ := hr0
  obtain ⟨hs, _⟩ := ti_spec hT h3
  split at hr
  ·rename_i hd
   rw [hd] at hs
   obtain ⟨z, k1, k2⟩ := binR_sound (w := w) (P := P) hx hy hr hcond t x y (fun _ _ _ _ => skel_bool hs)
   exact key z k1 k2
  ·cases hr
 ·have hr0 := RM.run_bind' hr
  clear hr
  obtain ⟨i, h3, hr⟩ := hr0
  obtain ⟨hs, _⟩ := ti_spec hT h3
  split at hr
  ·rename_i hd
   rw [hd] at hs
   obtain ⟨e, he⟩ := skel_pnt hs
   have hy : a.eval y = .pointer none := hy
   rw [hy] at key
   obtain ⟨z, k1, k2⟩ := nilR_sound (P := P) (w := w) hx hr he x y
   exact key z k1 k2
  ·cases hr
 ·rename_i n1 n2 n3
  obtain ⟨z, k1, k2⟩ := binR_sound (w := w) (P := P) hx hy hr hcond t x y (fun b b' e e' => absurd e' (n2 b b' e))
  exact key z k1 k2
theorem unOp_ok (h : SRel w0 foot base S E a w) (hc : TagsHold a ctx) {o : Oper} {op : UnOp} {t : Nat} {x : Operand} (ho : o.op = .unOp op t x) {wr : Bool} {r : Res}
  (hr : (do
   match op, ← ev x with
   | .not, .one (.dat .bool b) => pureC (.dat .bool (!b))
   | .neg, .one (.dat (.int k) n) => arith wr k (0 - Ty.I n)
   | _, _ => .fail : RM Res).run S ctx = some r) (hcond : ∀ c ∈ r.conds, c) : OpOk P w0 foot base S E a w o r := by
 have hr0 := RM.run_bind' hr
 clear hr
 obtain ⟨s, h1, hr⟩ := hr0
 have hx := ev_rep h hc h1
 split at hr
 ·obtain ⟨_, h2⟩ := hx
  simp only [Rep, List.cons.injEq, and_true] at h2
  refine OpOk.value (v := _) (w' := w) ?_ ((Reckons.bool hr).after h.toHRel)
  simp [execOp, ho, Op.unary, h2]
 ·obtain ⟨_, h2, h3⟩ := hx
  simp only [List.cons.injEq, and_true] at h2
  refine OpOk.value (v := _) (w' := w) ?_ ((arith_reckons hr hcond).after h.toHRel)
  simp only [execOp, ho, Op.unary, h2, Op.intArith]
  rfl
 ·cases hr
theorem kindLe_inR {j k : IntKind} (h : kindLe j k = true) {n : Int} (hn : InR j n) : InR k n := by
 cases j <;> cases k <;> simp [kindLe] at h <;> simp [InR, IntKind.min, IntKind.max, IntKind.signed, IntKind.bits] at * <;> omega
end Go.Vc
end

section
set_option linter.unusedVariables false
set_option linter.unusedSimpArgs false
namespace Go.Vc
open Go
variable {P : Program} {X : Ctx} {w0 : World} {foot : Foot} {base : Mem} {S : St} {E : Env} {a : Act} {w : World} {ctx : Tags}
theorem pureIf_reckons {p : Prop} {c : C} {r : Res} {v : Value} (h : (pureIf p c).run S ctx = some r) (hv : p → CRep E c v) (hc : ∀ q ∈ r.conds, q) : Reckons E r v := by
 rw [pureIf_spec h] at hc ⊢
 exact ⟨⟨_, rfl, hv (hc p (by simp))⟩, rfl, rfl, rfl⟩
theorem pureIf_cond {p : Prop} {c : C} {r : Res} (h : (pureIf p c).run S ctx = some r) (hc : ∀ q ∈ r.conds, q) : p := by
 rw [pureIf_spec h] at hc
 exact hc p (by simp)
theorem BRep.row_len {p : Place} {fro : Bool} {e : Nat} {t : Ty} {xs : List t.den} (hB : BRep E w p (.row fro e t xs)) : xs.length = p.len := by
 rcases hB with ⟨_, hx, hz⟩ | ⟨_, _, ⟨h1, _⟩, _⟩
 ·rw [hx, hz]; rfl
 ·exact h1
theorem run_indexAt' {t e : Nat} {b off len cap : Nat} {k : IntKind} {n : Int} {j : TypeInfo} (hu : P.underlying t = some (.slice e)) (hj : P.info? e = some j) (h0 : 0 ≤ n) (h1 : n < len) :
  (Instr.indexAt t (.slice (some ⟨b, off, none⟩) len cap) (.int k n)).run P w = .ok (.pointer (some ⟨b, off + n.toNat * j.size, none⟩)) w := by
 simp [Instr.indexAt, run_underlying hu, asIntOf, h0, h1, run_sizeOf' hj, addr_add]
theorem run_indexAtA {t e len : Nat} {b off : Nat} {k : IntKind} {n : Int} {j : TypeInfo} (hu : P.underlying t = some (.array len e)) (hj : P.info? e = some j) (h0 : 0 ≤ n) (h1 : n < len) :
  (Instr.indexAt t (.pointer (some ⟨b, off, none⟩)) (.int k n)).run P w = .ok (.pointer (some ⟨b, off + n.toNat * j.size, none⟩)) w := by
 simp [Instr.indexAt, run_underlying hu, asIntOf, h0, h1, run_sizeOf' hj, addr_add, Instr.sureAddr]
theorem indexAddr_ok (hT : TabOk P X.tab) (h : SRel w0 foot base S E a w) (hc : TagsHold a ctx) {o : Oper} {t : Nat} {x ix : Operand} (ho : o.op = .indexAddr t x ix) {r : Res}
  (hr : (do
   let i ← ti X t
   match i.d with
   | .slice e => (do
    let j ← ti X e
    let c ← evC x
    indexR j.size (← asI (← ev ix)) c)
   | .array n e => (do
    let j ← ti X e
    let c ← evC x
    indexA j.size n (← asI (← ev ix)) c)
   | _ => .fail : RM Res).run S ctx = some r) (hcond : ∀ c ∈ r.conds, c) : OpOk P w0 foot base S E a w o r := by
 have hr0 := RM.run_bind' hr
 clear hr
 obtain ⟨i, h1, hr⟩ := hr0
 obtain ⟨hs, j0, hj0, _⟩ := ti_spec hT h1
 split at hr
 ·rename_i e hd
  rw [hd] at hs
  have hu := skel_slice hs
  have hr0 := RM.run_bind' hr
  clear hr
  obtain ⟨i', h2, hr⟩ := hr0
  obtain ⟨hs', j, hj, e1, _⟩ := ti_spec hT h2
  have hr0 := RM.run_bind' hr
  clear hr
  obtain ⟨c, h3, hr⟩ := hr0
  have hr0 := RM.run_bind' hr
  clear hr
  obtain ⟨s, h4, hr⟩ := hr0
  have hr0 := RM.run_bind' hr
  clear hr
  obtain ⟨n, h5, hr⟩ := hr0
  have hx := evC_rep h hc h3
  obtain ⟨k, hn, hnr⟩ := asI_rep (ev_rep h hc h4) h5
  have key : ∀ b off len cap v, a.eval x = .slice (some ⟨b, off, none⟩) len cap → InB n len → v = .pointer (some ⟨b, off + n.toNat * j.size, none⟩) → Reckons E r v → OpOk P w0 foot base S E a w o r :=
   fun b off len cap v hv hb he hR => by
    refine OpOk.value (v := v) (w' := w) ?_ (hR.after h.toHRel)
    rw [he]
    simp [execOp, ho, hv, hn, run_indexAt' hu hj hb.1 hb.2]
  unfold indexR at hr
  split at hr
  ·rename_i tt xs
   split at hr
   ·rename_i hsz
    have hsz := Nat.eq_of_beq_eq_true hsz
    have hb := pureIf_cond hr hcond
    obtain ⟨_, aa, cap, g1, g2, g3, g4, g5⟩ := hx
    simp only [List.cons.injEq, and_true] at g1
    have hi : n.toNat < (Ty.L xs).length := by have := hb.1; have := hb.2; omega
    cases aa with
    | none => have := g4 rfl; omega
    | some p =>
     have hx0 := List.getElem?_eq_getElem hi
     obtain ⟨hsp, _⟩ := g5 p rfl _ _ hx0
     obtain ⟨b, off, spot⟩ := p
     simp only at hsp
     subst hsp
     refine key b off _ cap _ g1 hb rfl (pureIf_reckons hr (fun _ => ⟨hi, b, off, by rw [e1, hsz]; rfl, fun i x hx => ?_⟩) hcond)
     obtain ⟨_, us, k1, k2, k3⟩ := g5 _ rfl i x hx
     exact ⟨us, k1, k2, k3⟩
   ·cases hr
  ·rename_i tt b
   simp only [RM.run] at hr
   split at hr
   ·rename_i B hf
    split at hr
    ·rename_i fro e' t' xs
     split at hr
     ·rename_i hb
      simp only [Bool.and_eq_true] at hb
      have hsz := Nat.eq_of_beq_eq_true hb.1
      have htt := Ty.beq_eq hb.2
      subst htt
      have hbd := pureIf_cond hr hcond
      obtain ⟨p, hp, hk⟩ := hx
      obtain ⟨p', hp', hB⟩ := h.blks _ _ hf
      rw [hp] at hp'; cases hp'
      have hlen := hB.row_len
      rcases hk with ⟨hn', _, hz⟩ | ⟨hn', hv, _⟩
      ·have := hbd.1; have := hbd.2; omega
      ·rw [hlen] at hbd
       refine key _ 0 _ _ _ hv hbd rfl (pureIf_reckons hr (fun _ => ⟨p, hp, hn', by have := hbd.1; have := hbd.2; omega, by rw [e1, hsz]; simp⟩) hcond)
     ·cases hr
    ·cases hr
   ·cases hr
  ·rename_i tt b lo len
   simp only [RM.run] at hr
   split at hr
   ·rename_i B hf
    split at hr
    ·rename_i fro e' t' xs
     split at hr
     ·rename_i hb
      simp only [Bool.and_eq_true] at hb
      have hsz := Nat.eq_of_beq_eq_true hb.1
      have htt := Ty.beq_eq hb.2
      subst htt
      have hbd := pureIf_cond hr hcond
      obtain ⟨p, hp, hl, hk⟩ := hx
      rcases hk with ⟨hn', _, hz⟩ | ⟨hn', aa, hv, g1, g2, g3⟩
      ·have := hbd.1; have := hbd.2; omega
      ·have hb1 := hbd.1
       have hb2 := hbd.2
       rcases g3 with g3 | rfl
       ·omega
       ·refine key _ _ _ _ _ hv hbd rfl (pureIf_reckons hr (fun _ => ⟨p, hp, hn', by omega, by rw [e1, hsz, Nat.add_mul]; simp⟩) hcond)
     ·cases hr
    ·cases hr
   ·cases hr
  ·cases hr
 ·rename_i len e hd
  rw [hd] at hs
  have hu := skel_array hs
  have hr0 := RM.run_bind' hr
  clear hr
  obtain ⟨i', h2, hr⟩ := hr0
  obtain ⟨hs', j, hj, e1, _⟩ := ti_spec hT h2
  have hr0 := RM.run_bind' hr
  clear hr
  obtain ⟨c, h3, hr⟩ := hr0
  have hr0 := RM.run_bind' hr
  clear hr
  obtain ⟨s, h4, hr⟩ := hr0
  have hr0 := RM.run_bind' hr
  clear hr
  obtain ⟨n, h5, hr⟩ := hr0
  have hx := evC_rep h hc h3
  obtain ⟨k, hn, hnr⟩ := asI_rep (ev_rep h hc h4) h5
  unfold indexA at hr
  split at hr
  ·rename_i tt b i1 o1
   simp only [RM.run] at hr
   split at hr
   ·rename_i B hf
    split at hr
    ·rename_i fro e' t' xs
     split at hr
     ·rename_i hb
      simp only [Bool.and_eq_true] at hb
      have hi0 := Nat.eq_of_beq_eq_true hb.1
      have ho0 := Nat.eq_of_beq_eq_true hb.2.1
      have hsz := Nat.eq_of_beq_eq_true hb.2.2.1
      have htt := Ty.beq_eq hb.2.2.2
      subst htt hi0 ho0
      obtain ⟨hbd, hxl⟩ := pureIf_cond hr hcond
      obtain ⟨p, hp, hn', hil, hv⟩ := hx
      obtain ⟨p', hp', hB⟩ := h.blks _ _ hf
      rw [hp] at hp'; cases hp'
      have hlen := hB.row_len
      have hb1 := hbd.1
      have hb2 := hbd.2
      refine OpOk.value (v := .pointer (some ⟨p.blk, n.toNat * j.size, none⟩)) (w' := w) ?_ ((pureIf_reckons hr (fun _ => ⟨p, hp, hn', by omega, by rw [e1, hsz]; simp⟩) hcond).after h.toHRel)
      simp only [Nat.zero_mul, Nat.add_zero] at hv
      simp [execOp, ho, hv, hn, run_indexAtA hu hj hb1 hb2]
     ·cases hr
    ·cases hr
   ·cases hr
  ·cases hr
 ·cases hr
theorem index_ok (hT : TabOk P X.tab) (h : SRel w0 foot base S E a w) (hc : TagsHold a ctx) {o : Oper} {t : Nat} {x ix : Operand} (ho : o.op = .index t x ix) {r : Res}
  (hr : (do
   let i ← ti X t
   match i.d, ← evC x with
   | .str, .dat .str s => (do
    let n ← asI (← ev ix)
    pureIf (InB n (Ty.S s).length) (.dat (.int .u8) (((Ty.S s).getD n.toNat 0).toNat : Int)))
   | _, _ => .fail : RM Res).run S ctx = some r) (hcond : ∀ c ∈ r.conds, c) : OpOk P w0 foot base S E a w o r := by
 have hr0 := RM.run_bind' hr
 clear hr
 obtain ⟨i, h1, hr⟩ := hr0
 have hr0 := RM.run_bind' hr
 clear hr
 obtain ⟨c, h2, hr⟩ := hr0
 obtain ⟨hs, _⟩ := ti_spec hT h1
 have hx := evC_rep h hc h2
 split at hr
 ·rename_i s hd
  rw [hd] at hs
  have hr0 := RM.run_bind' hr
  clear hr
  obtain ⟨sv, h3, hr⟩ := hr0
  have hr0 := RM.run_bind' hr
  clear hr
  obtain ⟨n, h4, hr⟩ := hr0
  obtain ⟨k, hn, hnr⟩ := asI_rep (ev_rep h hc h3) h4
  have hb := pureIf_cond hr hcond
  obtain ⟨_, g1, g2⟩ := hx
  simp only [List.cons.injEq, and_true] at g1
  have hi : n.toNat < (Ty.S s).length := by have := hb.1; have := hb.2; omega
  have hget : (⟨⟨Ty.S s⟩⟩ : ByteArray)[n.toNat]? = some ((Ty.S s).getD n.toNat 0) := by
   rw [List.getD_eq_getElem?_getD, List.getElem?_eq_getElem hi]
   rw [getElem?_pos (⟨⟨Ty.S s⟩⟩ : ByteArray) n.toNat hi]
   rfl
  have hu8 : InR .u8 (((Ty.S s).getD n.toNat 0).toNat : Int) := by
   generalize (Ty.S s).getD n.toNat 0 = q
   have := q.toNat_lt
   have h1 : IntKind.u8.min = 0 := by decide
   have h2 : IntKind.u8.max = 255 := by decide
   unfold InR
   rw [h1, h2]
   omega
  refine OpOk.value (v := .int .u8 (((Ty.S s).getD n.toNat 0).toNat : Int)) (w' := w) ?_ ((pureIf_reckons hr (fun _ => ⟨rfl, rfl, hu8⟩) hcond).after h.toHRel)
  simp [execOp, ho, Instr.index, run_underlying (skel_str hs), g1, hn, asIntOf, hb.1, hget]
 ·cases hr
def valO (x : Option Value) (n : Option Int) : Prop :=
 match x, n with
 | none, none => True
 | some v, some n => ∃ k, v = .int k n ∧ InR k n
 | _, _ => False
theorem evO_rep (h : SRel w0 foot base S E a w) (hc : TagsHold a ctx) {x : Option Operand} {n : Option Int} (hr : (evO x).run S ctx = some n) : valO (x.map a.eval) n := by
 cases x with
 | none => cases hr; trivial
 | some x =>
  unfold evO at hr
  have hr0 := RM.run_bind' hr
  clear hr
  obtain ⟨s, h1, hr⟩ := hr0
  have hr0 := RM.run_bind' hr
  clear hr
  obtain ⟨m, h2, hr⟩ := hr0
  cases RM.run_pure' hr
  exact asI_rep (ev_rep h hc h1) h2
theorem run_sliceBounds {isSlice : Bool} {len cap : Nat} {lo hi : Option Value} {l h : Option Int} (hl : valO lo l) (hh : valO hi h) (hcap : len ≤ cap) (hc : ∀ c ∈ cutOk len l h, c) :
  (Instr.sliceBounds isSlice len cap lo hi none).run P w = .ok (cutLo l, cutLo l + cutLen len l h, cap) w ∧ cutLo l + cutLen len l h ≤ len := by
 cases lo with
 | none =>
  cases l with
  | some _ => exact hl.elim
  | none =>
   cases hi with
   | none =>
    cases h with
    | some _ => exact hh.elim
    | none => simp [Instr.sliceBounds, cutLo, cutLen]
   | some v =>
    cases h with
    | none => exact hh.elim
    | some h =>
     obtain ⟨k, rfl, _⟩ := hh
     have := hc (0 ≤ h ∧ h ≤ len) (by simp [cutOk])
     have h2 : h ≤ (cap : Int) := by omega
     refine ⟨by simp [Instr.sliceBounds, Instr.sliceBound, asIntOf, cutLo, cutLen, this.1, h2], by simp [cutLo, cutLen]; omega⟩
 | some v =>
  cases l with
  | none => exact hl.elim
  | some l =>
   obtain ⟨k, rfl, _⟩ := hl
   cases hi with
   | none =>
    cases h with
    | some _ => exact hh.elim
    | none =>
     have := hc (0 ≤ l ∧ l ≤ len) (by simp [cutOk])
     refine ⟨?_, by simp [cutLo, cutLen]; omega⟩
     have : l.toNat + (len - l.toNat) = len := by omega
     simp [Instr.sliceBounds, Instr.sliceBound, asIntOf, cutLo, cutLen, *]
   | some v' =>
    cases h with
    | none => exact hh.elim
    | some h =>
     obtain ⟨k', rfl, _⟩ := hh
     have h1 := hc (0 ≤ l ∧ l ≤ h) (by simp [cutOk])
     have h2 := hc (h ≤ len) (by simp [cutOk])
     refine ⟨?_, by simp [cutLo, cutLen]; omega⟩
     have e1 : 0 ≤ h := by omega
     have e2 : h ≤ (cap : Int) := by omega
     have e3 : l ≤ (h.toNat : Int) := by omega
     have e4 : l.toNat + (h.toNat - l.toNat) = h.toNat := by omega
     simp [Instr.sliceBounds, Instr.sliceBound, asIntOf, cutLo, cutLen, h1.1, e1, e2, e4]
     intro hlt
     omega
theorem cut_length {α : Type} {xs : List α} {l h : Option Int} (hc : ∀ c ∈ cutOk xs.length l h, c) : (cut xs l h).length = cutLen xs.length l h := by
 cases l with
 | none =>
  cases h with
  | none => rfl
  | some h =>
   have := hc (0 ≤ h ∧ h ≤ xs.length) (by simp [cutOk])
   simp [cut, cutLen]
   omega
 | some l =>
  cases h with
  | none => simp [cut, cutLen]
  | some h =>
   have := hc (0 ≤ l ∧ l ≤ h) (by simp [cutOk])
   have := hc (h ≤ xs.length) (by simp [cutOk])
   simp [cut, cutLen]
   omega
theorem cut_get {α : Type} {xs : List α} {l h : Option Int} {i : Nat} {x : α} (hx : (cut xs l h)[i]? = some x) : xs[cutLo l + i]? = some x := by
 cases l with
 | none =>
  cases h with
  | none => simpa [cut, cutLo] using hx
  | some h =>
   simp only [cut] at hx
   have hi : i < h.toNat := by
    have := (List.getElem?_eq_some_iff.1 hx).1
    simp at this
    omega
   rw [List.getElem?_take_of_lt hi] at hx
   simpa [cutLo] using hx
 | some l =>
  cases h with
  | none => simpa [cut, cutLo] using hx
  | some h =>
   simp only [cut, List.getElem?_drop] at hx
   have hi : l.toNat + i < h.toNat := by
    have := (List.getElem?_eq_some_iff.1 hx).1
    simp at this
    omega
   rw [List.getElem?_take_of_lt hi] at hx
   exact hx
theorem cut_str (s : List UInt8) {l h : Option Int} (hc : ∀ c ∈ cutOk s.length l h, c) :
  (⟨⟨s⟩⟩ : ByteArray).extract (cutLo l) (cutLo l + cutLen s.length l h) = ⟨⟨cut s l h⟩⟩ := by
 rw [Go.Lib.extract_eq]
 congr 2
 cases l with
 | none =>
  cases h with
  | none => simp [cut, cutLo, cutLen]
  | some h => simp [cut, cutLo, cutLen]
 | some l =>
  cases h with
  | none =>
   have e : List.take (s.length - l.toNat) (s.drop l.toNat) = s.drop l.toNat := List.take_of_length_le (by simp)
   simp [cut, cutLo, cutLen, e]
  | some h => simp [cut, cutLo, cutLen, List.drop_take]
theorem slice_ok (hT : TabOk P X.tab) (h : SRel w0 foot base S E a w) (hc : TagsHold a ctx) {o : Oper} {t : Nat} {x : Operand} {lo hi : Option Operand} (ho : o.op = .slice t x lo hi none) {r : Res}
  (hr : (do
   let i ← ti X t
   let c ← evC x
   let l ← evO lo
   let h ← evO hi
   match i.d, c with
   | .slice e, .dat (.list tt) _ => (do
    let j ← ti X e
    guardR (Nat.beq tt.size j.size)
    sliceR l h c)
   | .slice e, .row tt _ => (do
    let j ← ti X e
    guardR (Nat.beq tt.size j.size)
    sliceR l h c)
   | .slice e, .sub tt _ _ _ => (do
    let j ← ti X e
    guardR (Nat.beq tt.size j.size)
    sliceR l h c)
   | .str, .dat .str _ => sliceR l h c
   | _, _ => .fail : RM Res).run S ctx = some r) (hcond : ∀ c ∈ r.conds, c) : OpOk P w0 foot base S E a w o r := by
 have hr0 := RM.run_bind' hr
 clear hr
 obtain ⟨i, h1, hr⟩ := hr0
 have hr0 := RM.run_bind' hr
 clear hr
 obtain ⟨c, h2, hr⟩ := hr0
 have hr0 := RM.run_bind' hr
 clear hr
 obtain ⟨l, h3, hr⟩ := hr0
 have hr0 := RM.run_bind' hr
 clear hr
 obtain ⟨hh, h4, hr⟩ := hr0
 obtain ⟨hs, _⟩ := ti_spec hT h1
 have hx := evC_rep h hc h2
 have hl := evO_rep h hc h3
 have hhi := evO_rep h hc h4
 have key : ∀ v, (Instr.sliceAt t (a.eval x) (lo.map a.eval) (hi.map a.eval) none).run P w = .ok v w → Reckons E r v → OpOk P w0 foot base S E a w o r := fun v hv hR => by
  refine OpOk.value (v := v) (w' := w) ?_ (hR.after h.toHRel)
  simp [execOp, ho, hv]
 have sl : ∀ e j (b : Option Addr) len cap, P.underlying t = some (.slice e) → P.info? e = some j → len ≤ cap → a.eval x = .slice b len cap → (∀ c ∈ cutOk len l hh, c) →
   (Instr.sliceAt t (a.eval x) (lo.map a.eval) (hi.map a.eval) none).run P w = .ok (.slice (if cap = cutLo l then b else b.map (·.add (cutLo l * j.size))) (cutLen len l hh) (cap - cutLo l)) w ∧ cutLo l + cutLen len l hh ≤ len := fun e j b len cap hu hj hle hv hco => by
  obtain ⟨hb1, hb2⟩ := run_sliceBounds (P := P) (w := w) (isSlice := true) hl hhi hle hco
  refine ⟨?_, hb2⟩
  simp [Instr.sliceAt, Instr.slice, run_underlying hu, hv, hb1, run_sizeOf' hj]
 split at hr
 ·rename_i e tt xs hd
  rw [hd] at hs
  have hr0 := RM.run_bind' hr
  clear hr
  obtain ⟨i', h5, hr⟩ := hr0
  have hr0 := RM.run_bind' hr
  clear hr
  obtain ⟨u, h6, hr⟩ := hr0
  obtain ⟨hs', j, hj, e1, _⟩ := ti_spec hT h5
  have hsz := Nat.eq_of_beq_eq_true (run_guardR h6)
  unfold sliceR at hr
  cases hr
  obtain ⟨_, aa, cap, g1, g2, g3, g4, g5⟩ := hx
  simp only [List.cons.injEq, and_true] at g1
  obtain ⟨k1, k2⟩ := sl e j aa _ cap (skel_slice hs) hj g2 g1 hcond
  refine key _ k1 ⟨⟨_, rfl, rfl, (if cap = cutLo l then aa else aa.map (·.add (cutLo l * j.size))), cap - cutLo l, ?_, ?_, by omega, ?_, ?_⟩, rfl, rfl, rfl⟩
  ·rw [show (Ty.L (t := tt) (cut (Ty.L xs) l hh)).length = _ from cut_length hcond]
  ·rw [show (Ty.L (t := tt) (cut (Ty.L xs) l hh)).length = _ from cut_length hcond]; omega
  ·intro hn
   split at hn
   ·rename_i hcl; omega
   ·cases aa with
    | none => have := g4 rfl; omega
    | some p => cases hn
  ·intro p hp n y hy
   have hlen := cut_length (xs := Ty.L xs) hcond
   have hn : n < cutLen (Ty.L xs).length l hh := by
    have := (List.getElem?_eq_some_iff.1 hy).1
    rw [← hlen]; exact this
   rw [if_neg (by omega)] at hp
   cases aa with
   | none => cases hp
   | some q =>
    obtain ⟨hsp, us, m1, m2, m3⟩ := g5 q rfl _ _ (cut_get hy)
    obtain ⟨b, off, spot⟩ := q
    simp only at hsp
    subst hsp
    simp only [Option.map_some, Option.some.injEq] at hp
    rw [addr_add] at hp
    subst hp
    refine ⟨rfl, us, m1, m2, fun jj u hu => ?_⟩
    have := m3 jj u hu
    rw [Nat.add_mul] at this
    rw [e1, ← hsz]
    simpa [Nat.add_assoc] using this
 ·rename_i e tt b hd
  rw [hd] at hs
  have hr0 := RM.run_bind' hr
  clear hr
  obtain ⟨i', h5, hr⟩ := hr0
  have hr0 := RM.run_bind' hr
  clear hr
  obtain ⟨u, h6, hr⟩ := hr0
  obtain ⟨hs', j, hj, e1, _⟩ := ti_spec hT h5
  have hsz := Nat.eq_of_beq_eq_true (run_guardR h6)
  unfold sliceR at hr
  simp only [RM.run] at hr
  split at hr
  ·rename_i B hf
   split at hr
   ·rename_i fro e' t' xs
    split at hr
    ·rename_i htt
     have htt := Ty.beq_eq htt
     subst htt
     cases hr
     obtain ⟨p, hp, hk⟩ := hx
     obtain ⟨p', hp', hB⟩ := h.blks _ _ hf
     rw [hp] at hp'; cases hp'
     have hlen := hB.row_len
     rw [hlen] at hcond
     rcases hk with ⟨hn', hv, hz⟩ | ⟨hn', hv, g1, g2⟩
     ·obtain ⟨k1, k2⟩ := sl e j none 0 0 (skel_slice hs) hj (by omega) hv (by rw [← hz]; exact hcond)
      have hz1 : cutLo l = 0 := by omega
      have hz2 : cutLen 0 l hh = 0 := by omega
      refine key _ k1 ⟨⟨_, rfl, p, hp, by rw [hlen, hz]; omega, Or.inl ⟨hn', by simp [hz1, hz2], hz⟩⟩, rfl, rfl, rfl⟩
     ·obtain ⟨k1, k2⟩ := sl e j _ p.len p.cap (skel_slice hs) hj g1 hv hcond
      refine key _ k1 ⟨⟨_, rfl, p, hp, by rw [hlen]; exact k2, Or.inr ⟨hn', (if p.cap = cutLo l then ⟨p.blk, 0, none⟩ else ⟨p.blk, cutLo l * j.size, none⟩), ?_, g1, g2, ?_⟩⟩, rfl, rfl, rfl⟩
      ·rw [hlen]; split <;> simp [addr_add]
      ·by_cases hcl : p.cap = cutLo l
       ·exact .inl hcl.symm
       ·exact .inr (by rw [if_neg hcl, e1, hsz])
    ·cases hr
   ·cases hr
  ·cases hr
 ·rename_i e tt b lo' len hd
  rw [hd] at hs
  have hr0 := RM.run_bind' hr
  clear hr
  obtain ⟨i', h5, hr⟩ := hr0
  have hr0 := RM.run_bind' hr
  clear hr
  obtain ⟨u, h6, hr⟩ := hr0
  obtain ⟨hs', j, hj, e1, _⟩ := ti_spec hT h5
  have hsz := Nat.eq_of_beq_eq_true (run_guardR h6)
  unfold sliceR at hr
  cases hr
  obtain ⟨p, hp, hl', hk⟩ := hx
  rcases hk with ⟨hn', hv, hz⟩ | ⟨hn', aa, hv, g1, g2, g3⟩
  ·have hl0 : len = 0 := by omega
   subst hl0
   obtain ⟨k1, k2⟩ := sl e j none 0 0 (skel_slice hs) hj (by omega) hv hcond
   have hz1 : cutLo l = 0 := by omega
   have hz2 : cutLen 0 l hh = 0 := by omega
   exact key _ k1 ⟨⟨_, rfl, p, hp, by omega, Or.inl ⟨hn', by simp [hz1, hz2], hz⟩⟩, rfl, rfl, rfl⟩
  ·obtain ⟨k1, k2⟩ := sl e j (some aa) len (p.cap - lo') (skel_slice hs) hj (by omega) hv hcond
   refine key _ k1 ⟨⟨_, rfl, p, hp, by omega, Or.inr ⟨hn', (if p.cap - lo' = cutLo l then aa else aa.add (cutLo l * j.size)), ?_, g1, g2, ?_⟩⟩, rfl, rfl, rfl⟩
   ·rw [Nat.sub_sub]; split <;> simp
   ·by_cases hcl : p.cap - lo' = cutLo l
    ·exact .inl (by omega)
    ·refine .inr ?_
     rw [if_neg hcl]
     rcases g3 with g3 | rfl
     ·omega
     ·rw [addr_add, e1, ← hsz, Nat.add_mul]
 ·rename_i s hd
  rw [hd] at hs
  unfold sliceR at hr
  cases hr
  obtain ⟨_, g1, g2⟩ := hx
  simp only [List.cons.injEq, and_true] at g1
  obtain ⟨hb1, hb2⟩ := run_sliceBounds (P := P) (w := w) (isSlice := false) (len := (Ty.S s).length) (cap := (Ty.S s).length) hl hhi (Nat.le_refl _) hcond
  refine key (.string ⟨⟨cut (Ty.S s) l hh⟩⟩) ?_ ⟨⟨_, rfl, rfl, rfl, ?_⟩, rfl, rfl, rfl⟩
  ·have hb1' : (Instr.sliceBounds false (⟨⟨Ty.S s⟩⟩ : ByteArray).size (⟨⟨Ty.S s⟩⟩ : ByteArray).size (lo.map a.eval) (hi.map a.eval) none).run P w = _ := hb1
   simp only [Instr.sliceAt, Instr.slice, Sem.run_bind, run_underlying (skel_str hs), Result.andThen_ok, g1, hb1', Option.isSome_none, Bool.false_eq_true, if_false, Sem.run_pure, cut_str _ hcond]
  ·rw [show (Ty.S (cut (Ty.S s) l hh)).length = _ from cut_length hcond]
   omega
 ·cases hr
end Go.Vc
end

section
set_option linter.unusedVariables false
set_option linter.unusedSimpArgs false
namespace Go.Vc
open Go
variable {P : Program} {X : Ctx} {w0 : World} {foot : Foot} {base : Mem} {S : St} {E : Env} {a : Act} {w : World} {ctx : Tags}
def RowVals (F : Mem) (t : Ty) (xs : List t.den) (us : List Value) : Prop :=
 us.length = xs.length * t.size ∧ ∀ (i : Nat) (x : t.den), xs[i]? = some x → ∃ ws : List Value, Rep F t x ws ∧ ws.length = t.size ∧ ∀ (j : Nat) u, ws[j]? = some u → us[i * t.size + j]? = some u
theorem RowVals.nil {F : Mem} {t : Ty} : RowVals F t [] [] := ⟨by simp, fun i x hx => by simp at hx⟩
theorem RowVals.append {F : Mem} {t : Ty} {xs ys : List t.den} {us ws : List Value} (h : RowVals F t xs us) (k : RowVals F t ys ws) : RowVals F t (xs ++ ys) (us ++ ws) := by
 refine ⟨by simp [h.1, k.1, Nat.add_mul], fun i x hx => ?_⟩
 by_cases hi : i < xs.length
 ·rw [List.getElem?_append_left hi] at hx
  obtain ⟨vs, h1, h2, h3⟩ := h.2 i x hx
  refine ⟨vs, h1, h2, fun j u hu => ?_⟩
  have := h3 j u hu
  rw [List.getElem?_append_left (List.getElem?_eq_some_iff.1 this).1]
  exact this
 ·rw [List.getElem?_append_right (by omega)] at hx
  obtain ⟨vs, h1, h2, h3⟩ := k.2 _ x hx
  refine ⟨vs, h1, h2, fun j u hu => ?_⟩
  have := h3 j u hu
  have hm : xs.length * t.size ≤ i * t.size := Nat.mul_le_mul_right _ (by omega)
  rw [List.getElem?_append_right (by rw [h.1]; omega), h.1, ← this, Nat.sub_mul]
  congr 1
  omega
theorem RowVals.mono {F F' : Mem} (hF : F.le F') {t : Ty} {xs : List t.den} {us : List Value} (h : RowVals F t xs us) : RowVals F' t xs us :=
 ⟨h.1, fun i x hx => let ⟨ws, h1, h2⟩ := h.2 i x hx; ⟨ws, h1.mono hF, h2⟩⟩
theorem BRow.vals {p : Place} {fro : Bool} {e : Nat} {t : Ty} {xs : List t.den} {vs : Array Value} (hB : BRow E w p fro e t xs) (hv : w.heap[p.blk]? = some (.cells vs e (0, 0))) :
  RowVals E.F t xs (vs.toList.take (p.len * t.size)) ∧ vs.size = p.cap * t.size ∧ xs.length = p.len ∧ p.len ≤ p.cap ∧ p.cap ≤ maxLenI := by
 obtain ⟨h0, ⟨h1, h1'⟩, vs', h2, h3, h4, h5⟩ := hB
 rw [hv] at h2
 cases h2
 have hm : p.len * t.size ≤ p.cap * t.size := Nat.mul_le_mul_right _ h1'
 refine ⟨⟨by simp [h1]; omega, fun i x hx => ?_⟩, h3, h1, h1', h0⟩
 obtain ⟨us, k1, k2, k3⟩ := h5 i x hx
 refine ⟨us, k1, k2, fun j u hu => ?_⟩
 have hj := (List.getElem?_eq_some_iff.1 hu).1
 have hi := (List.getElem?_eq_some_iff.1 hx).1
 have hm : (i + 1) * t.size ≤ p.len * t.size := Nat.mul_le_mul_right _ (by omega)
 rw [Nat.succ_mul] at hm
 rw [List.getElem?_take_of_lt (by omega)]
 simpa using k3 j u hu
theorem BRow.mk' {p : Place} {e : Nat} {t : Ty} {xs : List t.den} {us rest : List Value} (hv : RowVals E.F t xs us) (hc : p.cap ≤ maxLenI) (hl : xs.length = p.len) (hlc : p.len ≤ p.cap) {vs : Array Value}
  (hw : w.heap[p.blk]? = some (.cells vs e (0, 0))) (hvs : vs.toList = us ++ rest) (hs : vs.size = p.cap * t.size) : BRow E w p false e t xs := by
 refine ⟨hc, ⟨hl, hlc⟩, vs, hw, hs, (fun h => by cases h), fun i x hx => ?_⟩
 obtain ⟨ws, h1, h2, h3⟩ := hv.2 i x hx
 refine ⟨ws, h1, h2, fun j u hu => ?_⟩
 have := h3 j u hu
 rw [← Array.getElem?_toList, hvs, List.getElem?_append_left (List.getElem?_eq_some_iff.1 this).1]
 exact this
theorem zeroD_sound (hT : TabOk P X.tab) {t : Nat} {j : TI} (hj : (ti X t).run S ctx = some j) {ty : Ty} {z : ty.den} (hr : (zeroD j ty).run S ctx = some z) :
  ∃ i, P.info? t = some i ∧ i.size = j.size ∧ i.bytes = j.bytes ∧ i.zero = some j.zero ∧ ty.size = j.size ∧ 0 < j.size ∧ j.zero.cells.size = j.size ∧ ∀ F, Rep F ty z j.zero.cells.toList := by
 unfold zeroD at hr
 have hr0 := RM.run_bind' hr
 clear hr
 obtain ⟨cs, h1, hr⟩ := hr0
 have hr0 := RM.run_bind' hr
 clear hr
 obtain ⟨u, h2, hr⟩ := hr0
 have hr0 := RM.run_bind' hr
 clear hr
 obtain ⟨y, h3, hr⟩ := hr0
 have hr0 := RM.run_bind' hr
 clear hr
 obtain ⟨u', h4, hr⟩ := hr0
 cases RM.run_pure' hr
 obtain ⟨_, i, hi, e1, e2, e3⟩ := ti_spec hT hj
 have hb := run_guardR h2
 simp only [Bool.and_eq_true] at hb
 have hlen := Nat.eq_of_beq_eq_true hb.1.1
 have h1 := run_ofOption h1
 have hrep := fun F => constCs_rep (E := ⟨F, fun _ => none⟩) h1
 have hl := (hrep (fun _ => none)).length
 refine ⟨i, hi, e1, e2, e3, Nat.eq_of_beq_eq_true hb.1.2, Nat.le_of_ble_eq_true hb.2, by simpa using hl.trans hlen, fun F => ?_⟩
 obtain ⟨y, fr⟩ := y
 have hfr : fr = [] := by have := run_guardR h4; simpa using this
 subst hfr
 exact reify_rep (E := ⟨F, fun _ => none⟩) (w := default) h3 (hrep F) (fun q hq => by cases hq)
theorem getElem_mod {z : Array Value} {n i : Nat} (h : i < n) (hz : 0 < z.size) : (madeCells z n)[i]? = z[i % z.size]? := by
 have hm : i % z.size < z.size := Nat.mod_lt _ hz
 simp [madeCells, h, hm]
theorem RowVals.made {F : Mem} {t : Ty} {x : t.den} {z : Array Value} (hz : Rep F t x z.toList) (h0 : 0 < t.size) (n m : Nat) (hnm : n ≤ m) :
  RowVals F t (List.replicate n x) ((madeCells z (m * t.size)).toList.take (n * t.size)) := by
 have hl := hz.length
 simp only [Array.length_toList] at hl
 have hnm' : n * t.size ≤ m * t.size := Nat.mul_le_mul_right _ hnm
 refine ⟨by simp only [List.length_take, Array.length_toList, size_madeCells, List.length_replicate]; omega, fun i y hy => ?_⟩
 have hi : i < n := by have := (List.getElem?_eq_some_iff.1 hy).1; simpa using this
 rw [List.getElem?_replicate, if_pos hi] at hy
 cases hy
 refine ⟨z.toList, hz, by simpa using hl, fun j u hu => ?_⟩
 have hj : j < t.size := by have := (List.getElem?_eq_some_iff.1 hu).1; simp at this; omega
 have hm : (i + 1) * t.size ≤ n * t.size := Nat.mul_le_mul_right _ (by omega)
 rw [Nat.succ_mul] at hm
 rw [List.getElem?_take_of_lt (by omega), Array.getElem?_toList, getElem_mod (by omega) (by omega), hl]
 rw [show (i * t.size + j) % t.size = j by rw [Nat.add_comm, Nat.add_mul_mod_self_right, Nat.mod_eq_of_lt hj]]
 simpa using hu
theorem new_row (h : HRel w0 foot base S.bl S.used E w) {d e : Nat} {t : Ty} {xs : List t.den} {us rest : List Value} {vs : Array Value} {cap : Nat} (hd : d ∉ S.used) (hv : RowVals E.F t xs us) (hc : cap ≤ maxLenI) (hlc : xs.length ≤ cap)
  (hvs : vs.toList = us ++ rest) (hs : vs.size = cap * t.size) :
  HRel w0 foot base (put S.bl d (.row false e t xs)) (d :: S.used) (E.new d ⟨false, w.heap.size, cap, xs.length⟩) (w.alloc (.cells vs e)) ∧ E.le (E.new d ⟨false, w.heap.size, cap, xs.length⟩) ∧
  CRep (E.new d ⟨false, w.heap.size, cap, xs.length⟩) (.row t d) (.slice (some ⟨w.heap.size, 0, none⟩) xs.length cap) := by
 have hnone : E.place d = none := by
  cases he : E.place d with
  | none => rfl
  | some q => exact absurd (h.used d q he) hd
 have hle := Env.new_le (p := ⟨false, w.heap.size, cap, xs.length⟩) hnone
 refine ⟨h.alloc hd (fun _ => rfl) (Or.inr ⟨rfl, ?_⟩), hle, ⟨_, Env.new_same, .inr ⟨rfl, rfl, hlc, hc⟩⟩⟩
 exact BRow.mk' (p := ⟨false, w.heap.size, cap, xs.length⟩) (hv.mono hle.F) hc rfl hlc alloc_same hvs hs
theorem chunks_sound (w : World) {t : Ty} : ∀ {n : Nat} {cs : List C} {xs : List t.den} {us : List Value}, (chunksR t n cs).run S ctx = some xs → CReps E cs us → RowVals E.F t xs us ∧ xs.length = n
 | 0, cs, xs, us, h, hv => by
  unfold chunksR at h
  split at h
  ·cases h
   have hv : us = [] := hv
   subst hv
   exact ⟨.nil, rfl⟩
  ·cases h
 | n + 1, cs, xs, us, h, hv => by
  unfold chunksR at h
  obtain ⟨y, h1, h⟩ := RM.run_bind' h
  obtain ⟨u, h2, h⟩ := RM.run_bind' h
  obtain ⟨r, h3, h⟩ := RM.run_bind' h
  cases RM.run_pure' h
  have hf : y.2 = [] := List.isEmpty_iff.1 (run_guardR h2)
  have hy := reify_rep (x := y.1) (fr := y.2) (E := E) (w := w) h1 (hv.take t.size) (by rw [hf]; exact fun q hq => by cases hq)
  obtain ⟨k1, k2⟩ := chunks_sound w h3 (hv.drop t.size)
  refine ⟨?_, by simp [k2]⟩
  have := RowVals.append (xs := [y.1]) (us := us.take t.size) ⟨by simpa using hy.length, fun i x hx => by
   cases i with
   | zero =>
    have hx : y.1 = x := by simpa using hx
    subst hx
    exact ⟨_, hy, hy.length, fun j u hu => by simpa using hu⟩
   | succ i => simp at hx⟩ k1
  rwa [List.take_append_drop] at this
theorem allocA_ok (hT : TabOk P X.tab) (h : SRel w0 foot base S E a w) {o : Oper} {t d : Nat} (ho : o.op = .alloc t) {r : Res}
  (hr : (do
   let i ← ti X t
   match i.d with
   | .array n e => (do
    let j ← ti X e
    let ty ← RM.ofOption j.ty
    let cs ← RM.ofOption (constCs i.zero.cells.toList)
    guardR (Nat.blt 0 n && Nat.ble n 16777216)
    let xs ← chunksR ty n cs
    .ret { val := some (.one (.rptr ty d 0 0)), blks := [(d, .row false t ty xs)], new := [d] })
   | _ => (do
    let cs ← RM.ofOption (constCs i.zero.cells.toList)
    .ret { val := some (.one (.ptr d 0)), blks := [(d, .cells cs)], new := [d] }) : RM Res).run S ctx = some r)
  (hn : ∀ i ∈ r.new, i ∉ S.used) : OpOk P w0 foot base S E a w o r := by
 have hr0 := RM.run_bind' hr
 clear hr
 obtain ⟨i, h1, hr⟩ := hr0
 split at hr
 ·rename_i n e hd
  obtain ⟨hs, j, hj, e1, e2, e3⟩ := ti_spec hT h1
  have hr0 := RM.run_bind' hr
  clear hr
  obtain ⟨j', h2, hr⟩ := hr0
  have hr0 := RM.run_bind' hr
  clear hr
  obtain ⟨ty, h3, hr⟩ := hr0
  have hr0 := RM.run_bind' hr
  clear hr
  obtain ⟨cs, h4, hr⟩ := hr0
  have hr0 := RM.run_bind' hr
  clear hr
  obtain ⟨u, h5, hr⟩ := hr0
  have hr0 := RM.run_bind' hr
  clear hr
  obtain ⟨xs, h6, hr⟩ := hr0
  cases hr
  have h5 := run_guardR h5
  simp only [Bool.and_eq_true] at h5
  have hn0 : 0 < n := Nat.le_of_ble_eq_true h5.1
  have hn1 : n ≤ 16777216 := Nat.le_of_ble_eq_true h5.2
  obtain ⟨k1, k2⟩ := chunks_sound (E := E) w h6 (constCs_rep (run_ofOption h4))
  have hsz : i.zero.cells.size = n * ty.size := by have := k1.1; rw [k2] at this; simpa using this
  obtain ⟨q1, q2, q3⟩ := new_row h.toHRel (e := t) (cap := n) (hn d (by simp)) k1 (by unfold maxLenI; omega) (by omega) (vs := i.zero.cells) (rest := []) (by simp) hsz
  obtain ⟨p, hp, _⟩ := q3
  have hp' : p = ⟨false, w.heap.size, n, xs.length⟩ := by
   have := Env.new_same (E := E) (id := d) (p := ⟨false, w.heap.size, n, xs.length⟩)
   rw [this] at hp
   cases hp
   rfl
  refine OpOk.value (v := .pointer (some ⟨w.heap.size, 0, none⟩)) (w' := w.alloc (.cells i.zero.cells t)) ?_ ⟨q2, q1, ?_⟩
  ·simp [execOp, ho, Instr.alloc, run_zeroValue' hj e3, newVar, newRow]
  ·refine ⟨_, Env.new_same, rfl, ?_, ?_⟩
   ·show 0 < xs.length
    omega
   ·simp
 ·exact alloc_ok hT h ho h1 hr hn
theorem makeSlice_ok (hT : TabOk P X.tab) (h : SRel w0 foot base S E a w) (hc : TagsHold a ctx) {o : Oper} {t d : Nat} {l c : Operand} (ho : o.op = .makeSlice t l c) {r : Res}
  (hr : (do
   let i ← ti X t
   match i.d with
   | .slice e => (do
    let j ← ti X e
    let ty ← RM.ofOption j.ty
    let n ← asI (← ev l)
    let m ← asI (← ev c)
    let z ← zeroD j ty
    .ret { val := some (.one (.row ty d)), blks := [(d, .row false e ty (List.replicate n.toNat z))], new := [d], conds := [0 ≤ n ∧ n ≤ m, roomFor m.toNat j.bytes ∧ m ≤ maxLenI] })
   | _ => .fail : RM Res).run S ctx = some r) (hn : ∀ i ∈ r.new, i ∉ S.used) (hcond : ∀ c ∈ r.conds, c) : OpOk P w0 foot base S E a w o r := by
 have hr0 := RM.run_bind' hr
 clear hr
 obtain ⟨i, h1, hr⟩ := hr0
 obtain ⟨hs, _⟩ := ti_spec hT h1
 split at hr
 ·rename_i e hd
  rw [hd] at hs
  have hr0 := RM.run_bind' hr
  clear hr
  obtain ⟨j, h2, hr⟩ := hr0
  have hr0 := RM.run_bind' hr
  clear hr
  obtain ⟨ty, h3, hr⟩ := hr0
  have hr0 := RM.run_bind' hr
  clear hr
  obtain ⟨s1, h4, hr⟩ := hr0
  have hr0 := RM.run_bind' hr
  clear hr
  obtain ⟨n, h5, hr⟩ := hr0
  have hr0 := RM.run_bind' hr
  clear hr
  obtain ⟨s2, h6, hr⟩ := hr0
  have hr0 := RM.run_bind' hr
  clear hr
  obtain ⟨m, h7, hr⟩ := hr0
  have hr0 := RM.run_bind' hr
  clear hr
  obtain ⟨z, h8, hr⟩ := hr0
  cases hr
  obtain ⟨i', g1, g2, g3, g4, g5, g6, g7, g8⟩ := zeroD_sound hT h2 h8
  obtain ⟨kl, el, _⟩ := asI_rep (ev_rep h hc h4) h5
  obtain ⟨kc, ec, _⟩ := asI_rep (ev_rep h hc h6) h7
  have c1 := hcond (0 ≤ n ∧ n ≤ m) (by simp)
  have c2 := hcond (roomFor m.toNat j.bytes ∧ m ≤ maxLenI) (by simp)
  have hb : (i'.bytes : Int) * m ≤ 281474976710656 := by
   have h1 := c2.1
   unfold roomFor at h1
   rw [Nat.mul_add] at h1
   have : ((m.toNat * j.bytes : Nat) : Int) = m * (j.bytes : Int) := by
    rw [Int.natCast_mul, Int.toNat_of_nonneg (by omega)]
   rw [g3, Int.mul_comm, ← this]
   omega
  have hmk := run_make (P := P) w t e i' j.zero (skel_slice hs) g1 g4 kl kc n m c1.1 c1.2 hb (by have := c2.2; unfold maxLenI at this; omega)
  rw [g2, ← g5] at hmk
  obtain ⟨k1, k2, k3⟩ := new_row h.toHRel (e := e) (cap := m.toNat) (hn d (by simp)) (RowVals.made (g8 E.F) (by omega) n.toNat m.toNat (by omega)) (by have := c2.2; omega) (by simp; omega)
   (vs := madeCells j.zero.cells (m.toNat * ty.size)) (rest := (madeCells j.zero.cells (m.toNat * ty.size)).toList.drop (n.toNat * ty.size)) (List.take_append_drop _ _).symm (size_madeCells _ _)
  rw [List.length_replicate] at k1 k2 k3
  refine OpOk.value (v := _) (w' := _) ?_ ⟨k2, k1, k3⟩
  simp only [execOp, ho, el, ec, Sem.run_bind, hmk, Result.andThen_ok]
  rfl
 ·cases hr
theorem src_sound (h : HRel w0 foot base S.bl S.used E w) {t : Ty} (h0 : 0 < t.size) {c : C} {v : Value} (hv : CRep E c v) {ys : List t.den} (hr : (srcR t c).run S ctx = some ys) :
  (v = .slice none 0 0 ∧ ys = []) ∨ ∃ ad cap news, v = .slice (some ad) ys.length cap ∧ RowVals E.F t ys news ∧ ∀ (j : Nat) u, news[j]? = some u → w.cell? (ad.add j) = some u := by
 unfold srcR at hr
 split at hr
 ·rename_i t' xs
  obtain ⟨e, rfl⟩ := Ty.as_some (run_ofOption hr)
  cases e
  obtain ⟨_, aa, cap, g1, g2, g3, g4, g5⟩ := hv
  simp only [List.cons.injEq, and_true] at g1
  cases aa with
  | none =>
   have := g4 rfl
   have hx : Ty.L xs = [] := List.eq_nil_of_length_eq_zero (by omega)
   exact .inl ⟨by rw [g1, hx, this]; rfl, hx⟩
  | some p =>
   refine .inr ⟨p, cap, ?_⟩
   by_cases hx : Ty.L xs = []
   ·refine ⟨[], g1, ?_, fun j u hu => by simp at hu⟩
    show RowVals _ _ (Ty.L xs) _
    rw [hx]
    exact .nil
   ·have hpos : 0 < (Ty.L xs).length := List.length_pos_iff.2 hx
    obtain ⟨hsp, us0, m1, m2, m3⟩ := g5 p rfl 0 _ (List.getElem?_eq_getElem hpos)
    obtain ⟨b, off, spot⟩ := p
    simp only at hsp
    subst hsp
    obtain ⟨cs, ee, mm, hF, _⟩ := m3 0 us0[0] (List.getElem?_eq_getElem (by omega))
    have get : ∀ (i : Nat) x, (Ty.L xs)[i]? = some x → ∃ ws : List Value, Rep E.F _ x ws ∧ ws.length = Ty.size _ ∧ ∀ (j : Nat) u, ws[j]? = some u → cs[off + (i * Ty.size _ + j)]? = some u := fun i x hx => by
     obtain ⟨_, ws, n1, n2, n3⟩ := g5 _ rfl i x hx
     refine ⟨ws, n1, n2, fun j u hu => ?_⟩
     obtain ⟨cs', ee', mm', hF', hc⟩ := n3 j u hu
     rw [hF] at hF'
     cases hF'
     exact hc
    refine ⟨(cs.toList.drop off).take ((Ty.L xs).length * t.size), g1, ⟨?_, fun i x hx => ?_⟩, fun j u hu => ?_⟩
    ·obtain ⟨ws, n1, n2, n3⟩ := get ((Ty.L xs).length - 1) _ (List.getElem?_eq_getElem (by omega))
     have hlast := n3 (t.size - 1) ws[t.size - 1] (List.getElem?_eq_getElem (by omega))
     have hlt := (Array.getElem?_eq_some_iff.1 hlast).1
     have hm : ((Ty.L xs).length - 1) * t.size + t.size = (Ty.L xs).length * t.size := by
      rw [← Nat.succ_mul]; congr 1; omega
     show _ = (Ty.L xs).length * t.size
     simp only [List.length_take, List.length_drop, Array.length_toList]
     omega
    ·obtain ⟨ws, n1, n2, n3⟩ := get i x hx
     refine ⟨ws, n1, n2, fun j u hu => ?_⟩
     have hj := (List.getElem?_eq_some_iff.1 hu).1
     have hi : i < (Ty.L xs).length := (List.getElem?_eq_some_iff.1 hx).1
     have hm : (i + 1) * t.size ≤ (Ty.L xs).length * t.size := Nat.mul_le_mul_right _ (by omega)
     rw [Nat.succ_mul] at hm
     rw [List.getElem?_take_of_lt (by omega), List.getElem?_drop, Array.getElem?_toList]
     exact n3 j u hu
    ·have hj : j < (Ty.L xs).length * t.size := by
      have := (List.getElem?_eq_some_iff.1 hu).1
      simp at this
      omega
     rw [List.getElem?_take_of_lt hj, List.getElem?_drop, Array.getElem?_toList] at hu
     rw [addr_add, cell_of_heap (h.frz _ _ hF)]
     exact hu
 ·rename_i tt b
  simp only [RM.run] at hr
  split at hr
  ·rename_i B hf
   split at hr
   ·rename_i fro e t' xs
    split at hr
    ·rename_i htt
     obtain ⟨ee, rfl⟩ := Ty.as_some (run_ofOption hr)
     cases ee
     obtain ⟨p, hp, hk⟩ := hv
     obtain ⟨p', hp', hB⟩ := h.blks _ _ hf
     rw [hp] at hp'; cases hp'
     rcases hk with ⟨hn', hv, hz⟩ | ⟨hn', hv, g1, g2⟩
     ·have hx : xs = [] := List.eq_nil_of_length_eq_zero (by rw [hB.row_len, hz])
      exact .inl ⟨hv, hx⟩
     ·rcases hB with ⟨hn'', _⟩ | ⟨_, hB⟩
      ·rw [hn'] at hn''; cases hn''
      ·obtain ⟨_, _, vs, hw, _⟩ := id hB
       obtain ⟨k1, k2, k3, k4, k5⟩ := hB.vals hw
       refine .inr ⟨_, _, _, by rw [hv]; congr 1; exact k3.symm, k1, fun j u hu => ?_⟩
       have hj := (List.getElem?_eq_some_iff.1 hu).1
       simp only [List.length_take] at hj
       rw [List.getElem?_take_of_lt (by omega), Array.getElem?_toList] at hu
       rw [addr_add, cell_of_heap hw]
       simpa using hu
    ·cases hr
   ·cases hr
  ·cases hr
 ·rename_i tt b lo len
  simp only [RM.run] at hr
  split at hr
  ·rename_i B hf
   split at hr
   ·rename_i fro e t' xs
    split at hr
    ·rename_i htt
     have htt := Ty.beq_eq htt
     subst htt
     obtain ⟨ee, rfl⟩ := Ty.as_some (run_ofOption hr)
     cases ee
     obtain ⟨p, hp, hl, hk⟩ := hv
     obtain ⟨p', hp', hB⟩ := h.blks _ _ hf
     rw [hp] at hp'; cases hp'
     have hlen := hB.row_len
     have hyl : ((xs.drop lo).take len).length = len := by simp [hlen]; omega
     rcases hk with ⟨hn', hv, hz⟩ | ⟨hn', aa, hv, g1, g2, g3⟩
     ·exact .inl ⟨hv, List.eq_nil_of_length_eq_zero (hyl.trans (by omega))⟩
     ·rcases hB with ⟨hn'', _⟩ | ⟨_, hB⟩
      ·rw [hn'] at hn''; cases hn''
      ·obtain ⟨_, _, vs, hw, _⟩ := id hB
       obtain ⟨k1, k2, k3, k4, k5⟩ := hB.vals hw
       rcases g3 with g3 | rfl
       ·have hl0 : len = 0 := by omega
        subst hl0
        exact .inr ⟨aa, _, [], hv, by simp only [List.take_zero]; exact .nil, fun j u hu => by simp at hu⟩
       ·have hm1 : (lo + len) * t.size ≤ p.len * t.size := Nat.mul_le_mul_right _ hl
        have hm2 : p.len * t.size ≤ p.cap * t.size := Nat.mul_le_mul_right _ k4
        rw [Nat.add_mul] at hm1
        refine .inr ⟨_, _, (vs.toList.drop (lo * t.size)).take (len * t.size), by rw [hv]; congr 1; exact hyl.symm, ⟨?_, fun i x hx => ?_⟩, fun j u hu => ?_⟩
        ·show _ = ((xs.drop lo).take len).length * t.size
         rw [hyl]
         simp only [List.length_take, List.length_drop, Array.length_toList]
         rw [k2]
         omega
        ·have hx2 : ((xs.drop lo).take len)[i]? = some x := hx
         have hi : i < len := by
          have := (List.getElem?_eq_some_iff.1 hx2).1
          omega
         have hx' : xs[lo + i]? = some x := by
          rw [List.getElem?_take_of_lt hi, List.getElem?_drop] at hx2
          exact hx2
         obtain ⟨ws, n1, n2, n3⟩ := k1.2 _ x hx'
         refine ⟨ws, n1, n2, fun j u hu => ?_⟩
         have hj := (List.getElem?_eq_some_iff.1 hu).1
         have hm3 : (i + 1) * t.size ≤ len * t.size := Nat.mul_le_mul_right _ (by omega)
         rw [Nat.succ_mul] at hm3
         have := n3 j u hu
         rw [Nat.add_mul] at this
         rw [List.getElem?_take_of_lt (by omega)] at this
         rw [List.getElem?_take_of_lt (by omega), List.getElem?_drop, ← Nat.add_assoc]
         exact this
        ·have hj := (List.getElem?_eq_some_iff.1 hu).1
         simp only [List.length_take] at hj
         rw [List.getElem?_take_of_lt (by omega), List.getElem?_drop, Array.getElem?_toList] at hu
         rw [addr_add, cell_of_heap hw]
         exact hu
    ·cases hr
   ·cases hr
  ·cases hr
 ·cases hr
  exact .inl ⟨hv, rfl⟩
 ·cases hr
end Go.Vc
end

section
set_option linter.unusedVariables false
set_option linter.unusedSimpArgs false
namespace Go.Vc
open Go
variable {P : Program} {X : Ctx} {w0 : World} {foot : Foot} {base : Mem} {S : St} {E : Env} {a : Act} {w : World} {ctx : Tags}
theorem find_rem {bl : List (Nat × Blk)} {b i : Nat} {B : Blk} (h : find (rem bl b) i = some B) : find bl i = some B ∧ b ≠ i := find_rem_some h
theorem HRel.drop {bl : List (Nat × Blk)} {used : List Nat} (h : HRel w0 foot base bl used E w) (b : Nat) : HRel w0 foot base (rem bl b) used E w :=
 h.congr (fun id B hf => (find_rem hf).1) (fun _ hi => hi)
theorem HRel.attach {bl : List (Nat × Blk)} {used : List Nat} (h : HRel w0 foot base bl used E w) {d g : Nat} {p : Place} {B : Blk} {o : Obj} (hd : d ∉ used) (hp : p.nil = false) (hb : p.blk = g) (hg : g < w.heap.size)
  (hown : w0.heap.size ≤ g ∨ foot g) (hF : E.F g = none) (hno : ∀ i B' q, find bl i = some B' → E.place i = some q → q.nil = false → q.blk ≠ g)
  (hB : BRep (E.new d p) (setBlk w g o) p B) : HRel w0 foot base (put bl d B) (d :: used) (E.new d p) (setBlk w g o) := by
 have hnone : E.place d = none := by
  cases he : E.place d with
  | none => rfl
  | some q => exact absurd (h.used d q he) hd
 have hle := Env.new_le (p := p) hnone
 have hbl : ∀ i B', i ≠ d → find (put bl d B) i = some B' → find bl i = some B' := fun i B' hi hf => by rwa [find_put_other _ _ _ _ (Ne.symm hi)] at hf
 refine ⟨⟨h.keep.os, h.keep.tape, h.keep.output, Nat.le_trans h.keep.size (by simp [setBlk]), fun k hk hfk => (setBlk_other fun e => ?_).trans (h.keep.block k hk hfk)⟩, fun b o' hb' => ?_, h.src, fun i B' hf => ?_, fun i B' q hf hq hn => ?_, fun i j B' B'' q q' hf hf' hq hq' hn hn' hij => ?_, fun i q hq => ?_⟩
 ·subst e
  rcases hown with h1 | h1
  ·omega
  ·exact hfk h1
 ·rw [setBlk_other]
  ·exact h.frz b o' hb'
  ·rintro rfl
   have : E.F b = some o' := hb'
   rw [hF] at this
   cases this
 ·by_cases hi : i = d
  ·subst hi
   rw [find_put_same] at hf
   cases hf
   exact ⟨p, Env.new_same, hB⟩
  ·obtain ⟨q, hq, k⟩ := h.blks i B' (hbl i B' hi hf)
   exact ⟨q, hle.place _ _ hq, (k.mono hle).world fun hn => setBlk_other (hno i B' q (hbl i B' hi hf) hq hn)⟩
 ·by_cases hi : i = d
  ·subst hi
   rw [Env.new_same] at hq
   cases hq
   rw [hb]
   exact ⟨hown, fun _ => hF⟩
  ·rw [Env.new_other hi] at hq
   exact h.own i B' q (hbl i B' hi hf) hq hn
 ·by_cases hi : i = d
  ·have hj : j ≠ d := fun e => hij (hi.trans e.symm)
   rw [Env.new_other hj] at hq'
   have := hno j B'' q' (hbl j B'' hj hf') hq' hn'
   subst hi
   rw [Env.new_same] at hq
   cases hq
   rw [hb]
   exact Ne.symm this
  ·by_cases hj : j = d
   ·rw [Env.new_other hi] at hq
    have := hno i B' q (hbl i B' hi hf) hq hn
    subst hj
    rw [Env.new_same] at hq'
    cases hq'
    rw [hb]
    exact this
   ·rw [Env.new_other hi] at hq
    rw [Env.new_other hj] at hq'
    exact h.inj i j B' B'' q q' (hbl i B' hi hf) (hbl j B'' hj hf') hq hq' hn hn' hij
 ·by_cases hi : i = d
  ·exact hi ▸ List.mem_cons_self
  ·rw [Env.new_other hi] at hq
   exact List.mem_cons_of_mem _ (h.used i q hq)
theorem roomFor_bytes {n b : Nat} (h : roomFor n b) : n * b ≤ 140737488355328 ∧ n ≤ 140737488355328 := by
 unfold roomFor at h
 rw [Nat.mul_add] at h
 omega
theorem run_append_none_nil {t e ty : Nat} {j : TypeInfo} (ht : P.underlying t = some (.slice e)) (hi : P.info? e = some j) {b : Option Addr} {n c : Nat} (hnc : n ≤ c) (hb : b = none → n = 0 ∧ c = 0) :
  (Builtin.append_ #[t, t] ty #[.slice b n c, .slice none 0 0]).run P w = .ok (.slice b n c) w := by
 cases b with
 | none => obtain ⟨rfl, rfl⟩ := hb rfl; simp [Builtin.append_, run_underlying ht, run_sizeOf' hi, Builtin.lenOf, Builtin.firstCells]
 | some a => simp [Builtin.append_, run_underlying ht, run_sizeOf' hi, Builtin.lenOf, Builtin.firstCells, hnc, storeCells]
theorem run_append_nil_empty {t e ty : Nat} {j : TypeInfo} (ht : P.underlying t = some (.slice e)) (hi : P.info? e = some j) {a : Addr} {c : Nat} :
  (Builtin.append_ #[t, t] ty #[.slice none 0 0, .slice (some a) 0 c]).run P w = .ok (.slice none 0 0) w := by
 simp [Builtin.append_, run_underlying ht, run_sizeOf' hi, Builtin.lenOf, Builtin.firstCells, loadCells, loadCellsFrom]
theorem size_zeroCells' (z : Array Value) (n : Nat) : (Builtin.zeroCells z n).size = n * z.size := by simp [Builtin.zeroCells]
theorem grownCap_bounds (w : World) (n old : Nat) (e : Nat) (h : n ≤ maxLenI) : n ≤ grownCap w n old e ∧ grownCap w n old e ≤ maxLenI := by
 have h1 := grownCap_ge w n old e
 have h2 := grownCap_le_maxLen w n old e (by simp only [maxLen]; unfold maxLenI at h; omega)
 refine ⟨h1, ?_⟩
 simp only [maxLen] at h2
 unfold maxLenI
 omega
theorem append_ok (hT : TabOk P X.tab) (h : SRel w0 foot base S E a w) (hc : TagsHold a ctx) {o : Oper} {s x : Operand} {t : Nat} {d : Nat} {args : Array Operand} {ats : Array Nat} (ho : o.op = .call { callee := .builtin .append, args := args, argTypes := ats })
  (hargs : args.toList = [s, x]) (hats : ats.toList = [t, t]) {r : Res}
  (hr : (do
   let i ← ti X t
   match i.d with
   | .slice e => (do
    let j ← ti X e
    let ty ← RM.ofOption j.ty
    let _ ← zeroD j ty
    let c ← evC s
    appendR d e j ty c (← evC x))
   | _ => .fail : RM Res).run S ctx = some r) (hn : ∀ i ∈ r.new, i ∉ S.used) (hcond : ∀ c ∈ r.conds, c) : OpOk P w0 foot base S E a w o r := by
 obtain rfl : args = #[s, x] := by apply Array.ext'; simpa using hargs
 obtain rfl : ats = #[t, t] := by apply Array.ext'; simpa using hats
 have hr0 := RM.run_bind' hr
 clear hr
 obtain ⟨i, h1, hr⟩ := hr0
 obtain ⟨hs, _⟩ := ti_spec hT h1
 split at hr
 ·rename_i e hd
  rw [hd] at hs
  have hu := skel_slice hs
  have hr0 := RM.run_bind' hr
  clear hr
  obtain ⟨j, h2, hr⟩ := hr0
  have hr0 := RM.run_bind' hr
  clear hr
  obtain ⟨ty, h3, hr⟩ := hr0
  have hr0 := RM.run_bind' hr
  clear hr
  obtain ⟨z, h4, hr⟩ := hr0
  have hr0 := RM.run_bind' hr
  clear hr
  obtain ⟨c, h5, hr⟩ := hr0
  have hr0 := RM.run_bind' hr
  clear hr
  obtain ⟨c', h6, hr⟩ := hr0
  obtain ⟨j', g1, g2, g3, g4, g5, g6, g7, g8⟩ := zeroD_sound hT h2 h4
  have hsv := evC_rep h hc h5
  have hxv := evC_rep h hc h6
  unfold appendR at hr
  have hr0 := RM.run_bind' hr
  clear hr
  obtain ⟨ys, h7, hr⟩ := hr0
  have hsrc := src_sound h.toHRel (by omega) hxv h7
  have run : ∀ v w', (Builtin.append_ #[t, t] o.type #[a.eval s, a.eval x]).run P w = .ok v w' → (execOp a.eval o).run P w = .ok (.value v) w' := fun v w' hv => by
   simp [execOp, ho, resolve, invoke, builtin, hv]
  have fresh : ∀ {xs : List ty.den} {us : List Value} {v : Value} {S' : St} {cap : Nat} {vs : Array Value} {rest : List Value}, S'.used = S.used → HRel w0 foot base S'.bl S'.used E w.drew → d ∉ S.used → RowVals E.F ty xs us → cap ≤ maxLenI → xs.length ≤ cap →
    vs.toList = us ++ rest → vs.size = cap * ty.size →
    HRel w0 foot base (put S'.bl d (.row false e ty xs)) (d :: S'.used) (E.new d ⟨false, w.heap.size, cap, xs.length⟩) (w.drew.alloc (.cells vs e)) ∧ E.le (E.new d ⟨false, w.heap.size, cap, xs.length⟩) ∧
    CRep (E.new d ⟨false, w.heap.size, cap, xs.length⟩) (.row ty d) (.slice (some ⟨w.heap.size, 0, none⟩) xs.length cap) := fun he hh hd hv hc hl hvs hsz => by
   exact new_row (S := _) (w := w.drew) hh (by rw [he]; exact hd) hv hc hl hvs hsz
  split at hr
  ·cases hr
   have hdn : d ∉ S.used := hn d (by simp)
   have hnone : E.place d = none := by
    cases he : E.place d with
    | none => rfl
    | some q => exact absurd (h.used d q he) hdn
   have hroom := roomFor_bytes (hcond _ (List.mem_singleton.2 rfl))
   have hsv : a.eval s = .slice none 0 0 := hsv
   have nilcase : ys = [] → (Builtin.append_ #[t, t] o.type #[a.eval s, a.eval x]).run P w = .ok (.slice none 0 0) w → OpOk P w0 foot base S E a w o { val := some (.one (.row ty d)), blks := [(d, .row false e ty ys)], new := [d], conds := [roomFor ys.length j.bytes] } := fun hy hrun => by
    refine OpOk.value (run _ _ hrun) ⟨Env.new_le (p := ⟨true, 0, 0, 0⟩) hnone, h.toHRel.nilrow hdn rfl (Or.inl ⟨rfl, hy, rfl⟩), ⟨_, Env.new_same, .inl ⟨rfl, rfl, rfl⟩⟩⟩
   rcases hsrc with ⟨hxe, hy⟩ | ⟨ad, cap, news, hxe, hnv, hcell⟩
   ·refine nilcase hy ?_
    rw [hsv, hxe]
    exact run_append_none_nil hu g1 (Nat.le_refl _) (fun _ => ⟨rfl, rfl⟩)
   ·by_cases hy : ys = []
    ·refine nilcase hy ?_
     rw [hsv, hxe, hy]
     exact run_append_nil_empty hu g1
    ·have hpos : 0 < ys.length := List.length_pos_iff.2 hy
     have hrun := run_append_nil (P := P) w t o.type e j' j.zero hu g1 g4 ad ys.length cap news (by rw [hnv.1, g5, g2]) hcell hpos (by omega) (by rw [g3]; omega)
     rw [← hsv, ← hxe] at hrun
     obtain ⟨b1, b2⟩ := grownCap_bounds w ys.length 0 e (by unfold maxLenI; omega)
     obtain ⟨k1, k2, k3⟩ := fresh (S' := S) (v := .nilFunc) rfl (h.toHRel.drew _) hdn hnv b2 b1 (vs := news.toArray ++ Builtin.zeroCells j.zero.cells (grownCap w ys.length 0 e - ys.length)) (by simp; rfl)
      (by simp only [Array.size_append, List.size_toArray, hnv.1, size_zeroCells', g7, ← g5, ← Nat.add_mul]; congr 1; omega)
     exact OpOk.value (run _ _ hrun) ⟨k2, k1, k3⟩
  ·rename_i tt b
   simp only [RM.run] at hr
   split at hr
   ·rename_i B hf
    split at hr
    ·rename_i e' t' xs
     split at hr
     ·rename_i hb
      simp only [Bool.and_eq_true] at hb
      have he := Nat.eq_of_beq_eq_true hb.2
      subst he
      have hr0 := RM.run_bind' hr
      clear hr
      obtain ⟨zs, h8, hr⟩ := hr0
      cases hr
      obtain ⟨ee, rfl⟩ := Ty.as_some (run_ofOption h8)
      cases ee
      have hdn : d ∉ S.used := hn d (by simp)
      have hnone : E.place d = none := by
       cases he : E.place d with
       | none => rfl
       | some q => exact absurd (h.used d q he) hdn
      have hroom := roomFor_bytes (hcond (roomFor (xs.length + ys.length) j.bytes) (List.mem_singleton.2 rfl))
      obtain ⟨p, hp, hk⟩ := hsv
      obtain ⟨p', hp', hB⟩ := h.blks _ _ hf
      rw [hp] at hp'; cases hp'
      have hdrop := h.toHRel.drop b
      rcases hk with ⟨hn', hv, hz⟩ | ⟨hn', hv, q1, q2⟩
      ·-- nil so far
       have hx : xs = [] := List.eq_nil_of_length_eq_zero (by rw [hB.row_len, hz])
       subst hx
       have nilcase : ys = [] → (Builtin.append_ #[t, t] o.type #[a.eval s, a.eval x]).run P w = .ok (.slice none 0 0) w → OpOk P w0 foot base S E a w o { val := some (.one (.row ty d)), blks := [(d, .row false e ty ([] ++ ys))], del := [b], new := [d], conds := [roomFor (0 + ys.length) j.bytes] } := fun hy hrun => by
        refine OpOk.value (run _ _ hrun) ⟨Env.new_le (p := ⟨true, 0, 0, 0⟩) hnone, hdrop.nilrow hdn rfl (Or.inl ⟨rfl, hy, rfl⟩), ⟨_, Env.new_same, .inl ⟨rfl, rfl, rfl⟩⟩⟩
       rcases hsrc with ⟨hxe, hy⟩ | ⟨ad, cap, news, hxe, hnv, hcell⟩
       ·refine nilcase hy ?_
        rw [hv, hxe]
        exact run_append_none_nil hu g1 (Nat.le_refl _) (fun _ => ⟨rfl, rfl⟩)
       ·by_cases hy : ys = []
        ·refine nilcase hy ?_
         rw [hv, hxe, hy]
         exact run_append_nil_empty hu g1
        ·have hpos : 0 < ys.length := List.length_pos_iff.2 hy
         simp only [List.length_nil, Nat.zero_add] at hroom
         have hrun := run_append_nil (P := P) w t o.type e j' j.zero hu g1 g4 ad ys.length cap news (by rw [hnv.1, g5, g2]) hcell hpos (by omega) (by rw [g3]; omega)
         rw [← hv, ← hxe] at hrun
         obtain ⟨b1, b2⟩ := grownCap_bounds w ys.length 0 e (by unfold maxLenI; omega)
         obtain ⟨k1, k2, k3⟩ := fresh (S' := { S with bl := rem S.bl b }) (v := .nilFunc) rfl (hdrop.drew _) hdn hnv b2 b1 (vs := news.toArray ++ Builtin.zeroCells j.zero.cells (grownCap w ys.length 0 e - ys.length)) (by simp; rfl)
          (by simp only [Array.size_append, List.size_toArray, hnv.1, size_zeroCells', g7, ← g5, ← Nat.add_mul]; congr 1; omega)
         exact OpOk.value (run _ _ hrun) ⟨k2, k1, k3⟩
      ·rcases hB with ⟨hn'', _⟩ | ⟨_, hB⟩
       ·rw [hn'] at hn''; cases hn''
       ·obtain ⟨_, _, cur, hw, _⟩ := id hB
        obtain ⟨k1, k2, k3, k4, k5⟩ := hB.vals hw
        have hmul : p.len * ty.size ≤ p.cap * ty.size := Nat.mul_le_mul_right _ k4
        have own := h.own b _ p hf hp hn'
        have hnews : ∃ news, RowVals E.F ty ys news ∧ ((a.eval x = .slice none 0 0 ∧ news = []) ∨ ∃ ad cap, a.eval x = .slice (some ad) ys.length cap ∧ ∀ (j : Nat) u, news[j]? = some u → w.cell? (ad.add j) = some u) := by
         rcases hsrc with ⟨hxe, hy⟩ | ⟨ad, cap, news, hxe, hnv, hcell⟩
         ·exact ⟨[], by rw [hy]; exact .nil, .inl ⟨hxe, rfl⟩⟩
         ·exact ⟨news, hnv, .inr ⟨ad, cap, hxe, hcell⟩⟩
        obtain ⟨news, hnv, hx⟩ := hnews
        have hnl := hnv.1
        by_cases hfit : p.len + ys.length ≤ p.cap
        ·-- in place
         have hmul2 : (p.len + ys.length) * ty.size ≤ p.cap * ty.size := Nat.mul_le_mul_right _ hfit
         rw [Nat.add_mul] at hmul2
         have hone : ∀ u ∈ news, u.oneCell' = true := fun u hu => by
          rcases hx with ⟨_, rfl⟩ | ⟨ad, cap, hxe, hcell⟩
          ·cases hu
          ·obtain ⟨n, hnlt, rfl⟩ := List.mem_iff_getElem.1 hu
           have hn0 : n < ys.length * ty.size := by rw [← hnl]; exact hnlt
           have hi : n / ty.size < ys.length := Nat.div_lt_of_lt_mul (by rw [Nat.mul_comm]; exact hn0)
           obtain ⟨ws, r1, r2, r3⟩ := hnv.2 (n / ty.size) _ (List.getElem?_eq_getElem hi)
           have hm := Nat.mod_lt n (show ty.size > 0 by omega)
           have := r3 (n % ty.size) ws[n % ty.size] (List.getElem?_eq_getElem (by omega))
           rw [Nat.mul_comm, Nat.div_add_mod, List.getElem?_eq_getElem hnlt] at this
           rw [Option.some.inj this]
           exact (CReps_flat (E := ⟨E.F, fun _ => none⟩) r1).oneCell _ (List.getElem_mem _)
         have hrun : (Builtin.append_ #[t, t] o.type #[a.eval s, a.eval x]).run P w = .ok (.slice (some ⟨p.blk, 0, none⟩) (p.len + ys.length) p.cap) (setBlk w p.blk (.cells (cur.toList.take (p.len * ty.size) ++ news ++ cur.toList.drop (p.len * ty.size + news.length)).toArray e (0, 0))) := by
          rw [hv]
          rcases hx with ⟨hxe, rfl⟩ | ⟨ad, cap, hxe, hcell⟩
          ·have hy0 : ys.length = 0 := by
            have : ys.length * ty.size = 0 := by rw [← hnl]; rfl
            rcases Nat.mul_eq_zero.1 this with h | h
            ·exact h
            ·omega
           rw [hxe, run_append_none_nil hu g1 k4 (fun h => by cases h), hy0]
           simp only [List.append_nil, List.length_nil, Nat.add_zero, List.take_append_drop, Array.toArray_toList]
           congr 1
           rw [← setRow_eq hw, setRow_self w p.blk cur e (0, 0) hw]
          ·have := run_append_room (P := P) w t o.type e j' hu g1 p.blk p.len p.cap cur hw ad ys.length cap news (by rw [hnl, g5, g2]) hcell hone hfit (by rw [g2, ← g5, hnl, k2]; omega)
           rw [hxe, this, setRow_eq hw, g2, ← g5]
         have hlen : (xs ++ ys).length = p.len + ys.length := by simp [k3]
         have hvals := k1.append hnv
         have hne : ∀ i B' q, find (rem S.bl b) i = some B' → E.place i = some q → q.nil = false → q.blk ≠ p.blk := fun i B' q hf' hq hqn => by
          obtain ⟨hf1, hf2⟩ := find_rem hf'
          exact h.inj i b B' _ q p hf1 hf hq hp hqn hn' (Ne.symm hf2)
         have hatt := hdrop.attach (p := ⟨false, p.blk, p.cap, p.len + ys.length⟩) (B := .row false e ty (xs ++ ys)) (o := .cells (cur.toList.take (p.len * ty.size) ++ news ++ cur.toList.drop (p.len * ty.size + news.length)).toArray e (0, 0)) hdn rfl rfl (heap_lt hw) own.1 (own.2 rfl) hne
          (Or.inr ⟨rfl, BRow.mk' (p := ⟨false, p.blk, p.cap, p.len + ys.length⟩) (hvals.mono (Env.new_le hnone).F) k5 hlen hfit (setBlk_same (heap_lt hw)) rfl (by
           simp only [List.size_toArray, List.length_append, List.length_take, List.length_drop, Array.length_toList]
           rw [k2, hnl]
           omega)⟩)
         exact OpOk.value (run _ _ hrun) ⟨Env.new_le hnone, hatt, ⟨_, Env.new_same, .inr ⟨rfl, rfl, hfit, k5⟩⟩⟩
        ·-- a new array
         rcases hx with ⟨hxe, hne⟩ | ⟨ad, cap, hxe, hcell⟩
         ·subst hne
          have : ys.length * ty.size = 0 := by rw [← hnl]; rfl
          rcases Nat.mul_eq_zero.1 this with h | h <;> omega
         ·have hrun := run_append_grow (P := P) w t o.type e j' j.zero hu g1 g4 ⟨p.blk, 0, none⟩ p.len p.cap (cur.toList.take (p.len * ty.size)) (by rw [k1.1, k3, g5, g2]) (fun jj u hu => by
            rw [addr_add, cell_of_heap hw]
            have hjj := (List.getElem?_eq_some_iff.1 hu).1
            simp only [List.length_take] at hjj
            rw [List.getElem?_take_of_lt (by omega), Array.getElem?_toList] at hu
            simpa using hu) ad ys.length cap news (by rw [hnl, g5, g2]) hcell (by omega) (by rw [k3] at hroom; omega) (growslice_fits (by omega) (by rw [g3, ← k3]; exact hroom.1))
          rw [← hv, ← hxe] at hrun
          obtain ⟨b1, b2⟩ := grownCap_bounds w (p.len + ys.length) p.cap e (by unfold maxLenI; rw [k3] at hroom; omega)
          have hlen : (xs ++ ys).length = p.len + ys.length := by simp [k3]
          obtain ⟨m1, m2, m3⟩ := fresh (S' := { S with bl := rem S.bl b }) (v := .nilFunc) (xs := xs ++ ys) rfl (hdrop.drew _) hdn (k1.append hnv) b2 (by rw [hlen]; exact b1)
           (vs := (cur.toList.take (p.len * ty.size)).toArray ++ news.toArray ++ Builtin.zeroCells j.zero.cells (grownCap w (p.len + ys.length) p.cap e - (p.len + ys.length))) (by simp; rfl)
           (by simp only [Array.size_append, List.size_toArray, hnl, k1.1, k3, size_zeroCells', g7, ← g5, ← Nat.add_mul]; congr 1; omega)
          rw [hlen] at m1 m2 m3
          exact OpOk.value (run _ _ hrun) ⟨m2, m1, m3⟩
     ·cases hr
    ·cases hr
   ·cases hr
  ·cases hr
 ·cases hr
theorem len_ok (hT : TabOk P X.tab) (h : SRel w0 foot base S E a w) (hc : TagsHold a ctx) {o : Oper} {x : Operand} {t : Nat} {args : Array Operand} {ats : Array Nat} (ho : o.op = .call { callee := .builtin .len, args := args, argTypes := ats })
  (hargs : args.toList = [x]) (hats : ats.toList = [t]) {r : Res}
  (hr : (do
   let i ← ti X t
   let c ← evC x
   match i.d, c with
   | .str, .dat .str _ => lenR c
   | .slice _, .dat (.list _) _ => lenR c
   | .slice _, .row _ _ => lenR c
   | .slice _, .sub _ _ _ _ => lenR c
   | .slice _, .nilsl => lenR c
   | _, _ => .fail : RM Res).run S ctx = some r) : OpOk P w0 foot base S E a w o r := by
 obtain rfl : args = #[x] := by apply Array.ext'; simpa using hargs
 obtain rfl : ats = #[t] := by apply Array.ext'; simpa using hats
 have hr0 := RM.run_bind' hr
 clear hr
 obtain ⟨i, h1, hr⟩ := hr0
 have hr0 := RM.run_bind' hr
 clear hr
 obtain ⟨c, h2, hr⟩ := hr0
 obtain ⟨hs, _⟩ := ti_spec hT h1
 have hx := evC_rep h hc h2
 have inr : ∀ n : Nat, n ≤ maxLenI → InR .i64 (n : Int) := fun n hn => by
  have h1 : IntKind.i64.min = -9223372036854775808 := by decide
  have h2 : IntKind.i64.max = 9223372036854775807 := by decide
  unfold InR
  rw [h1, h2]
  unfold maxLenI at hn
  omega
 have key : ∀ n : Nat, n ≤ maxLenI → (Builtin.len_ #[t] o.type #[a.eval x]).run P w = .ok (.int .i64 n) w → r = { val := some (.one (.dat (.int .i64) (n : Int))) } → OpOk P w0 foot base S E a w o r := fun n hn hrun he => by
  rw [he]
  refine OpOk.value (v := .int .i64 n) (w' := w) ?_ (After.pure h.toHRel ⟨rfl, rfl, inr n hn⟩)
  simp [execOp, ho, resolve, invoke, builtin, hrun]
 have sl : ∀ e b n c, P.underlying t = some (.slice e) → a.eval x = .slice b n c → (Builtin.len_ #[t] o.type #[a.eval x]).run P w = .ok (.int .i64 n) w := fun e b n c hu hv => by
  simp [Builtin.len_, run_underlying hu, hv, goInt]
 split at hr
 ·rename_i s hd
  rw [hd] at hs
  unfold lenR at hr
  obtain ⟨_, g1, g2⟩ := hx
  simp only [List.cons.injEq, and_true] at g1
  refine key _ g2 ?_ (pureC_spec hr)
  simp [Builtin.len_, run_underlying (skel_str hs), g1, goInt, str_size]
 ·rename_i e tt xs hd
  rw [hd] at hs
  unfold lenR at hr
  obtain ⟨_, aa, cap, g1, g2, g3, _⟩ := hx
  simp only [List.cons.injEq, and_true] at g1
  exact key _ (Nat.le_trans g2 g3) (sl e _ _ _ (skel_slice hs) g1) (pureC_spec hr)
 ·rename_i e tt b hd
  rw [hd] at hs
  unfold lenR at hr
  simp only [RM.run] at hr
  split at hr
  ·rename_i B hf
   split at hr
   ·rename_i fro e' t' xs
    split at hr
    ·obtain ⟨p, hp, hk⟩ := hx
     obtain ⟨p', hp', hB⟩ := h.blks _ _ hf
     rw [hp] at hp'; cases hp'
     have hlen := hB.row_len
     rcases hk with ⟨_, hv, hz⟩ | ⟨_, hv, q1, q2⟩
     ·exact key xs.length (by rw [hlen, hz]; simp [maxLenI]) (by rw [hlen, hz]; exact sl e _ _ _ (skel_slice hs) hv) (pureC_spec hr)
     ·exact key xs.length (by omega) (by rw [hlen]; exact sl e _ _ _ (skel_slice hs) hv) (pureC_spec hr)
    ·cases hr
   ·cases hr
  ·cases hr
 ·rename_i e tt b lo len hd
  rw [hd] at hs
  unfold lenR at hr
  obtain ⟨p, hp, hl, hk⟩ := hx
  rcases hk with ⟨_, hv, hz⟩ | ⟨_, aa, hv, q1, q2, _⟩
  ·have : len = 0 := by omega
   subst this
   exact key 0 (by simp [maxLenI]) (sl e _ _ _ (skel_slice hs) hv) (pureC_spec hr)
  ·exact key len (by omega) (sl e _ _ _ (skel_slice hs) hv) (pureC_spec hr)
 ·rename_i e hd
  rw [hd] at hs
  unfold lenR at hr
  exact key 0 (by simp [maxLenI]) (sl e _ _ _ (skel_slice hs) hx) (pureC_spec hr)
 ·cases hr
theorem minMax_ok (h : SRel w0 foot base S E a w) (hc : TagsHold a ctx) {o : Oper} {args : Array Operand} {ats : Array TypeId} {big : Bool} {x y : Operand} (ho : o.op = .call { callee := .builtin (match big with | true => .max | false => .min), args := args, argTypes := ats })
  (ha : args.toList = [x, y]) {r : Res} (hr : (do minMax big (← ev x) (← ev y) : RM Res).run S ctx = some r) : OpOk P w0 foot base S E a w o r := by
 have hr0 := RM.run_bind' hr
 clear hr
 obtain ⟨s1, h1, hr⟩ := hr0
 have hr0 := RM.run_bind' hr
 clear hr
 obtain ⟨s2, h2, hr⟩ := hr0
 have hx := ev_rep h hc h1
 have hy := ev_rep h hc h2
 have hargs : args.map a.eval = #[a.eval x, a.eval y] := by
  obtain ⟨l⟩ := args
  simp only at ha
  subst ha
  simp
 unfold minMax at hr
 split at hr
 ·rename_i j m k n
  split at hr
  ·rename_i hk
   have := kindBeq_eq hk
   subst this
   obtain ⟨_, x1, x2⟩ := hx
   obtain ⟨_, y1, y2⟩ := hy
   simp only [List.cons.injEq, and_true] at x1 y1
   cases big with
   | true =>
    refine OpOk.value (v := .int j (max (Ty.I m) (Ty.I n))) (w' := w) ?_ ((Reckons.pureC hr ⟨rfl, rfl, ?_⟩).after h.toHRel)
    ·simp [execOp, ho, resolve, invoke, builtin, hargs, x1, y1, Go.Lib.run_max_ints]
    ·rcases Int.max_def (Ty.I m) (Ty.I n) ▸ (by split <;> simp : (if Ty.I m ≤ Ty.I n then Ty.I n else Ty.I m) = Ty.I n ∨ (if Ty.I m ≤ Ty.I n then Ty.I n else Ty.I m) = Ty.I m) with e | e
     ·rw [e]; exact y2
     ·rw [e]; exact x2
   | false =>
    refine OpOk.value (v := .int j (min (Ty.I m) (Ty.I n))) (w' := w) ?_ ((Reckons.pureC hr ⟨rfl, rfl, ?_⟩).after h.toHRel)
    ·simp [execOp, ho, resolve, invoke, builtin, hargs, x1, y1, Go.Lib.run_min_ints]
    ·rcases Int.min_def (Ty.I m) (Ty.I n) ▸ (by split <;> simp : (if Ty.I m ≤ Ty.I n then Ty.I m else Ty.I n) = Ty.I m ∨ (if Ty.I m ≤ Ty.I n then Ty.I m else Ty.I n) = Ty.I n) with e | e
     ·rw [e]; exact x2
     ·rw [e]; exact y2
  ·cases hr
 ·cases hr
end Go.Vc
end

section
set_option linter.unusedVariables false
set_option linter.unusedSimpArgs false
namespace Go.Vc
open Go
variable {P : Program} {X : Ctx} {w0 : World} {foot : Foot} {base : Mem} {S : St} {E : Env} {a : Act} {w : World} {ctx : Tags}
def KRep (F : Mem) (t : Ty) (x : t.den) (v : Value) : Prop := ∃ us, Rep F t x us ∧ v = t.valOf us
theorem scal_rep {F : Mem} : ∀ {t : Ty} {x : t.den} {us : List Value}, t.scal = true → Rep F t x us → ∃ u, us = [u]
 | .int _, _, _, _, h => ⟨_, h.1⟩
 | .bool, _, _, _, h => ⟨_, h⟩
 | .str, _, _, _, h => ⟨_, h.1⟩
theorem scal_valOf {t : Ty} (h : t.scal = true) (u : Value) : t.valOf [u] = u := by
 cases t <;> first | rfl | cases h
theorem scalTD_spec {t : Nat} {b : Ty} (h : scalTD (skel P t) b = true) : b.scal = true ∧ (match skel P t with | .struct _ => false | .array _ _ => false | .map _ _ => true | .other => false | _ => true) = true ∧
  ∃ d, P.underlying t = some d ∧ ∀ (F : Mem) (w : World) (dd : Nat) (x y : b.den) (u v : Value), Rep F b x [u] → Rep F b y [v] →
   MapKept.IsKey d u ∧ Instr.sameNow d u v = some (b.keq x y) ∧ (Op.equalIn (dd + 1) t u v).run P w = .ok (b.keq x y) w := by
 cases hs : skel P t with
 | int j =>
  rw [hs] at h
  cases b with
  | int k =>
   have e := kindBeq_eq (show kindBeq j k = true from h)
   subst e
   refine ⟨rfl, rfl, _, skel_int hs, fun F w dd x y u v hu hv => ?_⟩
   obtain ⟨hu, _⟩ := hu
   obtain ⟨hv, _⟩ := hv
   simp only [List.cons.injEq, and_true] at hu hv
   subst hu hv
   exact ⟨rfl, by simp [Instr.sameNow]; rfl, run_equalIn_int w dd t _ j _ _ (skel_int hs)⟩
  | _ => cases h
 | bool =>
  rw [hs] at h
  cases b with
  | bool =>
   refine ⟨rfl, rfl, _, skel_bool hs, fun F w dd x y u v hu hv => ?_⟩
   simp only [Rep, List.cons.injEq, and_true] at hu hv
   subst hu hv
   exact ⟨trivial, rfl, run_equalIn_bool w dd t _ _ (skel_bool hs)⟩
  | _ => cases h
 | str =>
  rw [hs] at h
  cases b with
  | str =>
   refine ⟨rfl, rfl, _, skel_str hs, fun F w dd x y u v hu hv => ?_⟩
   obtain ⟨hu, _⟩ := hu
   obtain ⟨hv, _⟩ := hv
   simp only [List.cons.injEq, and_true] at hu hv
   subst hu hv
   refine ⟨trivial, ?_, by rw [run_equalIn_string w dd t _ _ (skel_str hs), str_toList, str_toList]; rfl⟩
   simp only [Instr.sameNow, Ty.keq]
   congr 1
   rw [Bool.eq_iff_iff, MapKept.bytes_beq, beq_iff_eq]
   constructor
   ·intro h; cases h; rfl
   ·intro h; rw [h]
  | _ => cases h
 | slice e => rw [hs] at h; cases b <;> cases h
 | struct fs => rw [hs] at h; cases b <;> cases h
 | plain => rw [hs] at h; cases b <;> cases h
 | pnt => rw [hs] at h; cases b <;> cases h
 | array n e => rw [hs] at h; cases b <;> cases h
 | map k e => rw [hs] at h; cases b <;> cases h
 | other => rw [hs] at h; cases b <;> cases h
theorem keyFs_scals : ∀ {fs : List (Nat × Nat × Nat)} {t : Ty} {o : Nat} {u : Unit}, (keyFs X fs t o).run S ctx = some u → (∀ {t : Nat} {i : TI}, (ti X t).run S ctx = some i → skel P t = i.d) → t.scal = true ∨ t.scals = true
 | [], t, o, u, h, _ => by
  unfold keyFs at h
  split at h
  ·exact .inr rfl
  ·cases h
 | (off, sz, tf) :: fs, t, o, u, h, hd => by
  unfold keyFs at h
  split at h
  ·obtain ⟨i, h1, h⟩ := RM.run_bind' h
   obtain ⟨_, h2, h⟩ := RM.run_bind' h
   have h2 := run_guardR h2
   simp only [Bool.and_eq_true] at h2
   rw [← hd h1] at h2
   simp only [Ty.scals, Bool.and_eq_true, Bool.or_eq_true]
   exact .inr ⟨(scalTD_spec h2.2).1, keyFs_scals h hd⟩
  ·obtain ⟨i, h1, h⟩ := RM.run_bind' h
   have h2 := run_guardR h
   simp only [Bool.and_eq_true] at h2
   rw [← hd h1] at h2
   exact .inl (scalTD_spec h2.2.2).1
theorem keyFs_sound (hT : TabOk P X.tab) {F : Mem} (w : World) : ∀ {gs : List Field} {t : Ty} {o : Nat} {u : Unit}, (keyFs X (gs.map fun f => (f.offset, P.cellsOf f.type, f.type)) t o).run S ctx = some u →
  (gs.all fun f => f.name != "_") = true → ∀ {x y : t.den} {us ws pre pre' : List Value}, Rep F t x us → Rep F t y ws → pre.length = o → pre'.length = o →
  (∀ d, (Op.eqFields (d + 1) (pre ++ us).toArray (pre' ++ ws).toArray gs).run P w = .ok (t.keq x y) w) ∧
  ∀ (em : Bool) (n : Nat), (forIn gs PUnit.unit fun f r => (do
   if f.name ≠ "_" then Instr.checkKey em (n + 1) f.type (← part f.type (pre ++ us).toArray f.offset)
   pure (ForInStep.yield PUnit.unit) : Sem (ForInStep PUnit))).run P w = .ok PUnit.unit w
 | [], t, o, u, h, hn, x, y, us, ws, pre, pre', hx, hy, hp, hp' => by
  unfold keyFs at h
  simp only [List.map_nil] at h
  split at h
  ·exact ⟨fun d => by simp [Op.eqFields, Ty.keq], fun em n => by simp⟩
  ·cases h
 | g :: gs, t, o, u, h, hn, x, y, us, ws, pre, pre', hx, hy, hp, hp' => by
  unfold keyFs at h
  simp only [List.map_cons] at h
  simp only [List.all_cons, Bool.and_eq_true, bne_iff_ne] at hn
  split at h
  ·rename_i b c
   obtain ⟨i, h1, h⟩ := RM.run_bind' h
   obtain ⟨_, h2, h⟩ := RM.run_bind' h
   have h2 := run_guardR h2
   simp only [Bool.and_eq_true] at h2
   obtain ⟨hs, _⟩ := ti_spec hT h1
   have ho := Nat.eq_of_beq_eq_true h2.1
   rw [← hs] at h2
   obtain ⟨q1, q2, d0, q3, q4⟩ := scalTD_spec h2.2
   obtain ⟨us1, us2, rfl, k1, k2⟩ := hx
   obtain ⟨ws1, ws2, rfl, m1, m2⟩ := hy
   obtain ⟨u1, rfl⟩ := scal_rep q1 k1
   obtain ⟨w1, rfl⟩ := scal_rep q1 m1
   have ih := keyFs_sound hT w h (by simpa using hn.2) k2 m2 (pre := pre ++ [u1]) (pre' := pre' ++ [w1]) (by simp [hp]) (by simp [hp'])
   simp only [List.append_assoc] at ih
   have g1 : (pre ++ ([u1] ++ us2)).toArray[g.offset]? = some u1 := by
    rw [ho, ← hp]; simp
   have g2 : (pre' ++ ([w1] ++ ws2)).toArray[g.offset]? = some w1 := by
    rw [ho, ← hp']; simp
   have r1 := run_part_scalar (P := P) (w := w) q2 g1
   have r2 := run_part_scalar (P := P) (w := w) q2 g2
   refine ⟨fun d => ?_, fun em n => ?_⟩
   ·have e1 := (q4 F w d _ _ _ _ k1 m1).2.2
    simp only [Op.eqFields, if_pos hn.1, Sem.run_bind, r1, r2, Result.andThen_ok, e1, Ty.keq]
    cases b.keq x.1 y.1 with
    | true => simpa using ih.1 d
    | false => simp
   ·have e1 := MapKept.run_checkKey (w := w) q3 (q4 F w 0 _ _ _ _ k1 k1).1 em n
    simp only [List.forIn_cons, Sem.run_bind, if_pos hn.1, r1, Result.andThen_ok, e1, Sem.run_pure]
    exact ih.2 em n
  ·obtain ⟨i, h1, h⟩ := RM.run_bind' h
   have h2 := run_guardR h
   simp only [Bool.and_eq_true] at h2
   obtain ⟨hs, _⟩ := ti_spec hT h1
   have ho := Nat.eq_of_beq_eq_true h2.1
   have hgs : gs = [] := by
    have := h2.2.1
    cases gs with
    | nil => rfl
    | cons a l => simp at this
   subst hgs
   rw [← hs] at h2
   obtain ⟨q1, q2, d0, q3, q4⟩ := scalTD_spec h2.2.2
   obtain ⟨u1, rfl⟩ := scal_rep q1 hx
   obtain ⟨w1, rfl⟩ := scal_rep q1 hy
   have g1 : (pre ++ [u1]).toArray[g.offset]? = some u1 := by
    rw [ho, ← hp]; simp
   have g2 : (pre' ++ [w1]).toArray[g.offset]? = some w1 := by
    rw [ho, ← hp']; simp
   have r1 := run_part_scalar (P := P) (w := w) q2 g1
   have r2 := run_part_scalar (P := P) (w := w) q2 g2
   refine ⟨fun d => ?_, fun em n => ?_⟩
   ·have e1 := (q4 F w d _ _ _ _ hx hy).2.2
    simp only [Op.eqFields, if_pos hn.1, Sem.run_bind, r1, r2, Result.andThen_ok, e1]
    cases Ty.keq _ x y <;> simp
   ·have e1 := MapKept.run_checkKey (w := w) q3 (q4 F w 0 _ _ _ _ hx hx).1 em n
    simp only [List.forIn_cons, Sem.run_bind, if_pos hn.1, r1, Result.andThen_ok, e1, Sem.run_pure]
    simp
inductive KeysAt (F : Mem) (b : Ty) {β : Type} : List (b.den × β) → List MapEntry → Prop
 | nil : KeysAt F b [] []
 | cons {y : b.den × β} {e : MapEntry} {m : List (b.den × β)} {l : List MapEntry} (h : KRep F b y.1 e.key) (k : KeysAt F b m l) : KeysAt F b (y :: m) (e :: l)
structure KeyLaw (P : Program) (kt : Nat) (b : Ty) : Prop where
 key : b.isKey = true
 check : ∀ {F : Mem} (w : World) (em : Bool) {x : b.den} {v : Value}, KRep F b x v → (Instr.checkKey em 10000 kt v).run P w = .ok () w
 stays : ∀ {F : Mem} (w : World) {x : b.den} {u v : Value}, KRep F b x u → KRep F b x v → (Instr.keyThatStays u v).run P w = .ok v w
 find : ∀ {F : Mem} (w : World) {β : Type} {m : List (b.den × β)} {l : List MapEntry} {x : b.den} {v : Value}, KRep F b x v → KeysAt F b m l →
  ((mget b m x = none ∧ (Instr.findKey kt v l).run P w = .ok none w) ∨ ∃ e, (mget b m x).isSome = true ∧ l[midx b m x]? = some e ∧ (Instr.findKey kt v l).run P w = .ok (some (midx b m x, e.val)) w)
theorem scal_unique {F : Mem} : ∀ {t : Ty} {x : t.den} {us ws : List Value}, t.scal = true → Rep F t x us → Rep F t x ws → us = ws
 | .int _, _, _, _, _, h, k => by rw [h.1, k.1]
 | .bool, _, _, _, _, h, k => by rw [show _ = _ from h, show _ = _ from k]
 | .str, _, _, _, _, h, k => by rw [h.1, k.1]
theorem scals_unique {F : Mem} : ∀ {t : Ty} {x : t.den} {us ws : List Value}, t.scals = true → Rep F t x us → Rep F t x ws → us = ws
 | .unit, _, _, _, _, h, k => by rw [show _ = _ from h, show _ = _ from k]
 | .pair a b, _, _, _, ht, h, k => by
  simp only [Ty.scals, Bool.and_eq_true, Bool.or_eq_true] at ht
  obtain ⟨_, _, rfl, h1, h2⟩ := h
  obtain ⟨_, _, rfl, k1, k2⟩ := k
  rw [scal_unique ht.1 h1 k1]
  rcases ht.2 with ht2 | ht2
  ·rw [scal_unique ht2 h2 k2]
  ·rw [scals_unique ht2 h2 k2]
theorem scal_same {F : Mem} : ∀ {t : Ty} {x : t.den} {u : Value}, t.scal = true → Rep F t x [u] → ∀ n, Instr.sameBits n u u = true
 | .int _, _, _, _, h, n => by
  obtain ⟨h, _⟩ := h; simp only [List.cons.injEq, and_true] at h; subst h
  cases n <;> simp [Instr.sameBits]
 | .bool, _, _, _, h, n => by
  simp only [Rep, List.cons.injEq, and_true] at h; subst h
  cases n <;> simp [Instr.sameBits]
 | .str, _, _, _, h, n => by
  obtain ⟨h, _⟩ := h; simp only [List.cons.injEq, and_true] at h; subst h
  have : ∀ s : ByteArray, (s == s) = true := fun s => (MapKept.bytes_beq s s).2 rfl
  cases n <;> simp [Instr.sameBits, this]
theorem scals_same {F : Mem} : ∀ {t : Ty} {x : t.den} {us : List Value}, t.scals = true → Rep F t x us → ∀ n, ∀ u ∈ us, Instr.sameBits n u u = true
 | .unit, _, _, _, h, n, u, hu => by rw [show _ = _ from h] at hu; cases hu
 | .pair a b, _, _, ht, h, n, u, hu => by
  simp only [Ty.scals, Bool.and_eq_true, Bool.or_eq_true] at ht
  obtain ⟨_, _, rfl, h1, h2⟩ := h
  obtain ⟨u1, rfl⟩ := scal_rep ht.1 h1
  rcases List.mem_append.1 hu with hu | hu
  ·rw [List.mem_singleton.1 hu]; exact scal_same ht.1 h1 n
  ·rcases ht.2 with ht2 | ht2
   ·obtain ⟨u2, rfl⟩ := scal_rep ht2 h2
    rw [List.mem_singleton.1 hu]; exact scal_same ht2 h2 n
   ·exact scals_same ht2 h2 n u hu
theorem run_stays {u : Value} (h : Instr.sameBits 10000 u u = true) : (Instr.keyThatStays u u).run P w = .ok u w := by
 simp [Instr.keyThatStays, h]
theorem find_list {b : Ty} {F : Mem} (f : Value → List MapEntry → Nat → Option (Option (Nat × Value))) {x : b.den} {v : Value} (h0 : ∀ i, f v [] i = some none)
  (h1 : ∀ (y : b.den) (e : MapEntry) (l : List MapEntry) (i : Nat), KRep F b y e.key → f v (e :: l) i = bif b.keq x y then some (some (i, e.val)) else f v l (i + 1)) {β : Type} :
  ∀ {m : List (b.den × β)} {l : List MapEntry} (i : Nat), KeysAt F b m l →
   ((mget b m x = none ∧ f v l i = some none) ∨ ∃ e, (mget b m x).isSome = true ∧ l[midx b m x]? = some e ∧ f v l i = some (some (i + midx b m x, e.val)))
 | _, _, i, .nil => .inl ⟨rfl, h0 i⟩
 | y :: m, e :: l, i, .cons hh ht => by
  rw [h1 y.1 e l i hh]
  simp only [mget, midx]
  cases b.keq x y.1 with
  | true => exact .inr ⟨e, rfl, rfl, rfl⟩
  | false =>
   rcases find_list f h0 h1 (i + 1) ht with ⟨k1, k2⟩ | ⟨e', k1, k2, k3⟩
   ·exact .inl ⟨k1, k2⟩
   ·refine .inr ⟨e', k1, by simpa using k2, ?_⟩
    simp only [cond_false]
    rw [k3]
    simp; omega
theorem keyTy_law (hT : TabOk P X.tab) {kt : Nat} {b : Ty} {u : Unit} (h : (keyTy X kt b).run S ctx = some u) : KeyLaw P kt b := by
 unfold keyTy at h
 obtain ⟨i, h1, h⟩ := RM.run_bind' h
 obtain ⟨hs, _⟩ := ti_spec hT h1
 split at h
 ·rename_i fs hd
  rw [hd] at hs
  obtain ⟨gs, hu, rfl⟩ := skel_struct hs
  obtain ⟨u', h2, h⟩ := RM.run_bind' h
  have heq : plainEq P kt = true := by
   have h1 := run_ofOption h1
   obtain ⟨hm, rfl⟩ := tabOf_mem h1
   rw [map_eq_mem hT.eqs i hm]
   exact run_guardR h2
  unfold plainEq at heq
  simp only [Bool.and_eq_true, Bool.not_eq_true', hu] at heq
  obtain ⟨_, h2', h⟩ := RM.run_bind' h
  have hagg := run_guardR h2'
  have hsc : b.scals = true := (keyFs_scals (P := P) h fun hi => (ti_spec hT hi).1).resolve_left fun hs => by cases b <;> first | exact absurd hagg Bool.false_ne_true | exact absurd hs Bool.false_ne_true
  have hval : ∀ us, b.valOf us = .agg us.toArray := fun us => by unfold Ty.valOf; rw [hagg]
  have equal : ∀ (F : Mem) (w : World) (x y : b.den) (v k : Value), KRep F b x v → KRep F b y k → (Op.equal kt v k).run P w = .ok (b.keq x y) w := fun F w x y v k hv hk => by
   obtain ⟨us, hus, rfl⟩ := hv
   obtain ⟨ws, hws, rfl⟩ := hk
   have := (keyFs_sound hT w h (by simpa using heq.2) hus hws (pre := []) (pre' := []) rfl rfl).1 9998
   rw [hval, hval]
   unfold Op.equal
   have hgs : P.fieldsOf kt = gs := by simp [Program.fieldsOf, hu]
   rw [show Op.maxDepth = 9999 + 1 from rfl, run_equalIn_struct w 9999 kt us.toArray ws.toArray (by rw [hgs]; exact hu) heq.1.2, hgs]
   exact this
  refine ⟨by simp [Ty.isKey, hsc], fun {F} w em x v hv => ?_, fun {F} w x u v hu' hv => ?_, fun {F} w β m l x v hv hl => ?_⟩
  ·obtain ⟨us, hus, rfl⟩ := hv
   have := (keyFs_sound hT w h (by simpa using heq.2) hus hus (pre := []) (pre' := []) rfl rfl).2 em 9998
   rw [hval, show (10000 : Nat) = 9999 + 1 from rfl, Instr.checkKey]
   simp only [Sem.run_bind, run_underlying hu, Result.andThen_ok]
   rw [← Array.forIn_toList]
   simp only [List.nil_append] at this
   simp at this
   simp [this]
  ·obtain ⟨us, hus, rfl⟩ := hu'
   obtain ⟨ws, hws, rfl⟩ := hv
   rw [scals_unique hsc hus hws]
   refine run_stays ?_
   rw [hval, show (10000 : Nat) = 9999 + 1 from rfl, Instr.sameBits]
   simp only [beq_self_eq_true, Bool.true_and, List.all_eq_true]
   intro p hp
   have : ∀ (l : List Value) (p : Value × Value), p ∈ l.zip l → p.1 = p.2 ∧ p.1 ∈ l := by
    intro l
    induction l with
    | nil => intro p hp; cases hp
    | cons z l ih =>
     intro p hp
     simp only [List.zip_cons_cons, List.mem_cons] at hp
     rcases hp with rfl | hp
     ·exact ⟨rfl, List.mem_cons_self⟩
     ·exact ⟨(ih p hp).1, List.mem_cons_of_mem _ (ih p hp).2⟩
   obtain ⟨p1, p2⟩ := p
   obtain ⟨e1, e2⟩ := this _ _ hp
   simp only at e1 e2
   subst e1
   exact scals_same hsc hws 9999 p1 e2
  ·have hwide : (match P.underlying kt with | some (.array _ _) | some (.struct _) => true | _ => false) = true := by rw [hu]
   rw [run_findKey_eq w hwide]
   have key : ∀ (m : List (b.den × β)) (l : List MapEntry) (i : Nat), KeysAt F b m l →
     ((mget b m x = none ∧ (Instr.findAsking kt v l i).run P w = .ok none w) ∨ ∃ e, (mget b m x).isSome = true ∧ l[midx b m x]? = some e ∧ (Instr.findAsking kt v l i).run P w = .ok (some (i + midx b m x, e.val)) w) := by
    intro m
    induction m with
    | nil =>
     intro l i hl
     cases hl
     exact .inl ⟨rfl, by simp [Instr.findAsking]⟩
    | cons y m ih =>
     intro l i hl
     cases hl with
     | cons hh ht =>
      rename_i e l
      have he := equal F w x y.1 v e.key hv hh
      simp only [mget, midx, Instr.findAsking, Sem.run_bind, he, Result.andThen_ok]
      cases b.keq x y.1 with
      | true => exact .inr ⟨e, rfl, rfl, by simp⟩
      | false =>
       rcases ih l (i + 1) ht with ⟨k1, k2⟩ | ⟨e', k1, k2, k3⟩
       ·exact .inl ⟨k1, by simpa using k2⟩
       ·refine .inr ⟨e', k1, by simpa using k2, ?_⟩
        simp only [cond_false, Bool.false_eq_true, if_false]
        rw [k3]
        simp; omega
   simpa using key m l 0 hl
 ·have h := run_guardR h
  rw [← hs] at h
  obtain ⟨q1, q2, d, q3, q4⟩ := scalTD_spec h
  have one : ∀ {F : Mem} {x : b.den} {v : Value}, KRep F b x v → Rep F b x [v] := fun {F x v} hv => by
   obtain ⟨us, hus, rfl⟩ := hv
   obtain ⟨u, rfl⟩ := scal_rep q1 hus
   rw [scal_valOf q1]
   exact hus
  refine ⟨by simp [Ty.isKey, q1], fun {F} w em x v hv => ?_, fun {F} w x u v hu' hv => ?_, fun {F} w β m l x v hv hl => ?_⟩
  ·exact MapKept.run_checkKey q3 (q4 F w 0 x x v v (one hv) (one hv)).1 em 9999
  ·have := scal_unique q1 (one hu') (one hv)
   simp only [List.cons.injEq, and_true] at this
   subst this
   exact run_stays (scal_same q1 (one hu') _)
  ·rcases find_list (b := b) (F := F) (x := x) (v := v) (fun v l i => Instr.findNow d v l i) (fun i => rfl) (fun y e l i he => by
    have := (q4 F w 0 x y v e.key (one hv) (one he)).2.1
    simp only [Instr.findNow, this]
    cases b.keq x y <;> rfl) 0 hl with ⟨k1, k2⟩ | ⟨e, k1, k2, k3⟩
   ·exact .inl ⟨k1, MapKept.run_findKey q3 k2⟩
   ·refine .inr ⟨e, k1, k2, ?_⟩
    have := MapKept.run_findKey (w := w) q3 k3
    simpa using this
end Go.Vc
end
