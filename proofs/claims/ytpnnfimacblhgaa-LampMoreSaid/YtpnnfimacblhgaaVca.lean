/-
  The base of a small verification-condition generator: pure data types, symbolic values, how they lie in memory, and the basic facts about them. No program is named here.
-/
import Derived.Calls
import Derived.Orders
import Derived.Laws.Sem
import Derived.Laws.World
import Derived.Laws.Cells
import Derived.Laws.CopyRow
import Derived.Below
namespace Go.Vc
open Go

/-! ### Pure data -/

/-- The types of pure data: numbers, truths, texts, slices, structs as pairs; places that nobody changes (never nil, or perhaps nil); function values with what they have caught. -/
inductive Ty where
  | int (k : IntKind)
  | bool
  | str
  | list (t : Ty)
  | unit
  | pair (a b : Ty)
  | ref (t : Ty)
  | ptr (t : Ty)
  | clo (k : Nat) (t : Ty)

@[reducible] def Ty.den (t : Ty) : Type := Ty.rec (motive := fun _ => Type) (fun _ => Int) Bool (List UInt8) (fun _ d => List d) Unit (fun _ _ a b => a × b) (fun _ d => d) (fun _ d => Option d) (fun _ _ d => d) t

/-- A slice's elements. -/
@[reducible] def Ty.L {t : Ty} (xs : (Ty.list t).den) : List t.den := xs
@[reducible] def Ty.I {k : IntKind} (n : (Ty.int k).den) : Int := n
@[reducible] def Ty.B (b : Ty.bool.den) : Bool := b
@[reducible] def Ty.S (s : Ty.str.den) : List UInt8 := s

def Ty.size : Ty → Nat
  | .int _ | .bool | .str | .list _ | .ref _ | .ptr _ | .clo _ _ => 1
  | .unit => 0
  | .pair a b => a.size + b.size

def Ty.dflt : (t : Ty) → t.den
  | .int _ => (0 : Int)
  | .bool => false
  | .str => ([] : List UInt8)
  | .list _ => []
  | .unit => ()
  | .pair a b => (a.dflt, b.dflt)
  | .ref t => t.dflt
  | .ptr _ => none
  | .clo _ t => t.dflt

def Ty.isAgg : Ty → Bool
  | .unit | .pair _ _ => true
  | _ => false

def kindBeq : IntKind → IntKind → Bool
  | .i8, .i8 | .i16, .i16 | .i32, .i32 | .i64, .i64 | .u8, .u8 | .u16, .u16 | .u32, .u32 | .u64, .u64 => true
  | _, _ => false

theorem kindBeq_eq {a b : IntKind} (h : kindBeq a b = true) : a = b := by
  cases a <;> cases b <;> simp [kindBeq] at h <;> rfl

def Ty.beq : Ty → Ty → Bool
  | .int j, .int k => kindBeq j k
  | .bool, .bool => true
  | .str, .str => true
  | .list a, .list b => a.beq b
  | .unit, .unit => true
  | .pair a b, .pair c d => a.beq c && b.beq d
  | .ref a, .ref b => a.beq b
  | .ptr a, .ptr b => a.beq b
  | .clo j a, .clo k b => Nat.beq j k && a.beq b
  | _, _ => false

theorem Ty.beq_eq : ∀ {a b : Ty}, a.beq b = true → a = b
  | .int j, .int k, h => by rw [kindBeq_eq h]
  | .bool, .bool, _ => rfl
  | .str, .str, _ => rfl
  | .list a, .list b, h => by rw [Ty.beq_eq (a := a) (b := b) h]
  | .unit, .unit, _ => rfl
  | .pair a b, .pair c d, h => by
    simp only [Ty.beq, Bool.and_eq_true] at h
    rw [Ty.beq_eq h.1, Ty.beq_eq h.2]
  | .ref a, .ref b, h => by rw [Ty.beq_eq (a := a) (b := b) h]
  | .ptr a, .ptr b, h => by rw [Ty.beq_eq (a := a) (b := b) h]
  | .clo j a, .clo k b, h => by
    simp only [Ty.beq, Bool.and_eq_true] at h
    rw [Nat.eq_of_beq_eq_true h.1, Ty.beq_eq h.2]

theorem kindBeq_refl (a : IntKind) : kindBeq a a = true := by cases a <;> rfl

theorem Ty.beq_refl : ∀ (a : Ty), a.beq a = true
  | .int j => kindBeq_refl j
  | .bool | .str | .unit => rfl
  | .list a => Ty.beq_refl a
  | .pair a b => by simp [Ty.beq, Ty.beq_refl a, Ty.beq_refl b]
  | .ref a => Ty.beq_refl a
  | .ptr a => Ty.beq_refl a
  | .clo k a => by simp [Ty.beq, Ty.beq_refl a]

/-- A datum of one type as a datum of the same type, spelt otherwise. -/
def Ty.as {a : Ty} (b : Ty) (x : a.den) : Option b.den :=
  match h : a.beq b with
  | true => some (Ty.beq_eq h ▸ x)
  | false => none

theorem Ty.as_self {a : Ty} (x : a.den) : Ty.as a x = some x := by
  unfold Ty.as
  split
  · rfl
  · rename_i h; rw [Ty.beq_refl] at h; cases h

theorem Ty.as_some {a b : Ty} {x : a.den} {y : b.den} (h : Ty.as b x = some y) : ∃ e : a = b, y = e ▸ x := by
  unfold Ty.as at h
  split at h
  · rename_i hb
    exact ⟨Ty.beq_eq hb, (Option.some.inj h).symm⟩
  · cases h

def InR (k : IntKind) (n : Int) : Prop := k.min ≤ n ∧ n ≤ k.max

def maxLenI : Nat := 9223372036854775807

/-- Facts that hold of every datum that lies in memory. -/
def Ty.wf : (t : Ty) → t.den → Prop
  | .int k, n => InR k n
  | .bool, _ => True
  | .str, s => (Ty.S s).length ≤ maxLenI
  | .list t, xs => (Ty.L xs).length ≤ maxLenI ∧ ∀ x ∈ Ty.L xs, t.wf x
  | .unit, _ => True
  | .pair a b, x => a.wf x.1 ∧ b.wf x.2
  | .ref t, x => t.wf x
  | .ptr t, x => ∀ y, x = some y → t.wf y
  | .clo _ t, x => t.wf x

/-! ### Symbolic values -/

/-- What one cell holds. 'row': a slice over an array of the call's own; 'sub': a part of such a slice; 'ptr': a place in a variable of the call's own; 'rptr': a place in an array of the call's own; 'elt': a place in a slice that is only read; 'mclo': a function value that has caught variables of the call's own. -/
inductive C where
  | dat (t : Ty) (x : t.den)
  | row (t : Ty) (b : Nat)
  | sub (t : Ty) (b lo len : Nat)
  | ptr (b o : Nat)
  | rptr (t : Ty) (b i o : Nat)
  | elt (t : Ty) (xs : List t.den) (i o : Nat)
  | nilsl
  | nilptr
  | nilfn
  | mclo (k : Nat) (bs : List Nat)

inductive SV where
  | one (c : C)
  | agg (cs : List C)
  | tup (vs : List (Bool × List C))

inductive Blk where
  | cells (cs : List C)
  | row (fro : Bool) (e : Nat) (t : Ty) (xs : List t.den)
  | fcells (t : Ty) (x : t.den)

def flat : (t : Ty) → t.den → List C
  | .int k, n => [.dat (.int k) n]
  | .bool, b => [.dat .bool b]
  | .str, s => [.dat .str s]
  | .list t, xs => [.dat (.list t) xs]
  | .unit, _ => []
  | .pair a b, x => flat a x.1 ++ flat b x.2
  | .ref t, x => [.elt t [x] 0 0]
  | .ptr t, x => [.dat (.ptr t) x]
  | .clo k t, x => [.dat (.clo k t) x]

theorem flat_length : ∀ (t : Ty) (x : t.den), (flat t x).length = t.size
  | .int _, _ | .bool, _ | .str, _ | .list _, _ | .unit, _ | .ref _, _ | .ptr _, _ | .clo _ _, _ => rfl
  | .pair a b, x => by simp [flat, Ty.size, flat_length a x.1, flat_length b x.2]

/-! ### Memory -/

abbrev Mem := Nat → Option Obj

def Mem.cell (F : Mem) (b o : Nat) (u : Value) : Prop := ∃ c e m, F b = some (.cells c e m) ∧ c[o]? = some u

def Mem.le (F F' : Mem) : Prop := ∀ b o, F b = some o → F' b = some o

theorem Mem.le.refl (F : Mem) : F.le F := fun _ _ h => h
theorem Mem.le.trans {F G H : Mem} (h : F.le G) (k : G.le H) : F.le H := fun b o e => k b o (h b o e)
theorem Mem.cell.mono {F F' : Mem} (h : F.le F') {b o : Nat} {u : Value} (k : F.cell b o u) : F'.cell b o u :=
  let ⟨c, e, m, h1, h2⟩ := k; ⟨c, e, m, h _ _ h1, h2⟩

/-- How a datum lies in a list of cells, over memory that nobody changes. -/
def Rep (F : Mem) : (t : Ty) → t.den → List Value → Prop
  | .int k, n, vs => vs = [.int k n] ∧ InR k n
  | .bool, b, vs => vs = [.bool b]
  | .str, s, vs => vs = [.string ⟨⟨Ty.S s⟩⟩] ∧ (Ty.S s).length ≤ maxLenI
  | .list t, xs, vs => ∃ a cap, vs = [.slice a ((Ty.L xs).length) cap] ∧ (Ty.L xs).length ≤ cap ∧ cap ≤ maxLenI ∧
      (a = none → cap = 0) ∧ (∀ p : Addr, a = some p → ∀ (i : Nat) (x : t.den), (Ty.L xs)[i]? = some x →
        p.spot = none ∧ ∃ us : List Value, Rep F t x us ∧ us.length = t.size ∧ ∀ (j : Nat) u, us[j]? = some u → F.cell p.block (p.off + (i * t.size + j)) u)
  | .unit, _, vs => vs = []
  | .pair a b, x, vs => ∃ us ws, vs = us ++ ws ∧ Rep F a x.1 us ∧ Rep F b x.2 ws
  | .ref t, x, vs => ∃ b off, vs = [.pointer (some ⟨b, off, none⟩)] ∧ ∃ us : List Value, Rep F t x us ∧ us.length = t.size ∧ ∀ (j : Nat) u, us[j]? = some u → F.cell b (off + j) u
  | .ptr t, x, vs => (x = none ∧ vs = [.pointer none]) ∨ ∃ y, x = some y ∧ ∃ b off, vs = [.pointer (some ⟨b, off, none⟩)] ∧ ∃ us : List Value, Rep F t y us ∧ us.length = t.size ∧ ∀ (j : Nat) u, us[j]? = some u → F.cell b (off + j) u
  | .clo k t, x, vs => ∃ ws, vs = [.func (.func k) #[] ws] ∧ Rep F t x ws.toList

theorem Rep.length {F : Mem} : ∀ {t : Ty} {x : t.den} {vs : List Value}, Rep F t x vs → vs.length = t.size
  | .int _, _, _, h => by rw [h.1]; rfl
  | .bool, _, _, h => by rw [show _ = _ from h]; rfl
  | .str, _, _, h => by rw [h.1]; rfl
  | .list _, _, _, h => by obtain ⟨_, _, h, _⟩ := h; rw [h]; rfl
  | .unit, _, _, h => by rw [show _ = _ from h]; rfl
  | .pair _ _, _, _, h => by obtain ⟨_, _, rfl, h1, h2⟩ := h; simp [Ty.size, h1.length, h2.length]
  | .ref _, _, _, h => by obtain ⟨_, _, h, _⟩ := h; rw [h]; rfl
  | .ptr _, _, _, h => by
    rcases h with ⟨_, h⟩ | ⟨_, _, _, _, h, _⟩
    · rw [h]; rfl
    · rw [h]; rfl
  | .clo _ _, _, _, h => by obtain ⟨_, h, _⟩ := h; rw [h]; rfl

theorem Rep.mono {F F' : Mem} (hF : F.le F') : ∀ {t : Ty} {x : t.den} {vs : List Value}, Rep F t x vs → Rep F' t x vs
  | .int _, _, _, h => h
  | .bool, _, _, h => h
  | .str, _, _, h => h
  | .list t, xs, _, h => by
    obtain ⟨a, cap, h0, h1, h2, h3, h4⟩ := h
    refine ⟨a, cap, h0, h1, h2, h3, fun p hp i x hx => ?_⟩
    obtain ⟨hs, us, k1, k2, k3⟩ := h4 p hp i x hx
    exact ⟨hs, us, Rep.mono hF k1, k2, fun j u hu => (k3 j u hu).mono hF⟩
  | .unit, _, _, h => h
  | .pair _ _, _, _, h => by
    obtain ⟨us, ws, h0, h1, h2⟩ := h
    exact ⟨us, ws, h0, Rep.mono hF h1, Rep.mono hF h2⟩
  | .ref _, _, _, h => by
    obtain ⟨b, off, h0, us, k1, k2, k3⟩ := h
    exact ⟨b, off, h0, us, Rep.mono hF k1, k2, fun j u hu => (k3 j u hu).mono hF⟩
  | .ptr _, _, _, h => by
    rcases h with h | ⟨y, hy, b, off, h0, us, k1, k2, k3⟩
    · exact .inl h
    · exact .inr ⟨y, hy, b, off, h0, us, Rep.mono hF k1, k2, fun j u hu => (k3 j u hu).mono hF⟩
  | .clo _ _, _, _, h => by
    obtain ⟨ws, h0, h1⟩ := h
    exact ⟨ws, h0, Rep.mono hF h1⟩

theorem Rep.wf {F : Mem} : ∀ {t : Ty} {x : t.den} {vs : List Value}, Rep F t x vs → t.wf x
  | .int _, _, _, h => h.2
  | .bool, _, _, _ => trivial
  | .str, _, _, h => h.2
  | .list t, xs, _, h => by
    obtain ⟨a, cap, h0, h1, h2, h3, h4⟩ := h
    refine ⟨Nat.le_trans h1 h2, fun x hx => ?_⟩
    obtain ⟨i, hi, rfl⟩ := List.mem_iff_getElem.1 hx
    cases a with
    | none => have := h3 rfl; subst this; exact absurd hi (by have : (Ty.L xs).length = 0 := by omega
                                                              omega)
    | some p =>
      obtain ⟨_, us, k1, _⟩ := h4 p rfl i _ (List.getElem?_eq_getElem hi)
      exact Rep.wf k1
  | .unit, _, _, _ => trivial
  | .pair _ _, _, _, h => by
    obtain ⟨us, ws, h0, h1, h2⟩ := h
    exact ⟨Rep.wf h1, Rep.wf h2⟩
  | .ref t, x, _, h => by
    obtain ⟨_, _, _, us, k1, _⟩ := h
    exact Rep.wf (t := t) k1
  | .ptr t, x, _, h => by
    rcases h with ⟨h, _⟩ | ⟨y, hy, _, _, _, us, k1, _⟩
    · subst h; intro y hy; cases hy
    · subst hy
      intro z hz
      cases hz
      exact Rep.wf (t := t) k1
  | .clo _ t, x, _, h => by
    obtain ⟨_, _, k1⟩ := h
    exact Rep.wf (t := t) k1

/-! ### Where the symbolic blocks lie -/

structure Place where
  nil : Bool
  blk : Nat
  cap : Nat
  len : Nat

structure Env where
  F : Mem
  place : Nat → Option Place

structure Env.le (E E' : Env) : Prop where
  F : E.F.le E'.F
  place : ∀ b p, E.place b = some p → E'.place b = some p

theorem Env.le.refl (E : Env) : E.le E := ⟨.refl _, fun _ _ h => h⟩
theorem Env.le.trans {E E' E'' : Env} (h : E.le E') (k : E'.le E'') : E.le E'' := ⟨h.F.trans k.F, fun b p e => k.place b p (h.place b p e)⟩

/-- How a symbolic cell reads as a value. -/
def CRep (E : Env) : C → Value → Prop
  | .dat t x, v => t.isAgg = false ∧ Rep E.F t x [v]
  | .row _ b, v => ∃ p, E.place b = some p ∧
      ((p.nil = true ∧ v = .slice none 0 0 ∧ p.len = 0) ∨ (p.nil = false ∧ v = .slice (some ⟨p.blk, 0, none⟩) p.len p.cap ∧ p.len ≤ p.cap ∧ p.cap ≤ maxLenI))
  | .sub t b lo len, v => ∃ p, E.place b = some p ∧ lo + len ≤ p.len ∧
      ((p.nil = true ∧ v = .slice none 0 0 ∧ p.len = 0) ∨
       (p.nil = false ∧ ∃ a : Addr, v = .slice (some a) len (p.cap - lo) ∧ p.len ≤ p.cap ∧ p.cap ≤ maxLenI ∧ (lo = p.cap ∨ a = ⟨p.blk, lo * t.size, none⟩)))
  | .ptr b o, v => ∃ p, E.place b = some p ∧ p.nil = false ∧ v = .pointer (some ⟨p.blk, o, none⟩)
  | .rptr t b i o, v => ∃ p, E.place b = some p ∧ p.nil = false ∧ i < p.len ∧ v = .pointer (some ⟨p.blk, i * t.size + o, none⟩)
  | .elt t xs i o, v => i < xs.length ∧ ∃ b off, v = .pointer (some ⟨b, off + (i * t.size + o), none⟩) ∧
      ∀ (i : Nat) (x : t.den), xs[i]? = some x →
        ∃ us : List Value, Rep E.F t x us ∧ us.length = t.size ∧ ∀ (j : Nat) u, us[j]? = some u → E.F.cell b (off + (i * t.size + j)) u
  | .nilsl, v => v = .slice none 0 0
  | .nilptr, v => v = .pointer none
  | .nilfn, v => v = .nilFunc
  | .mclo k bs, v => ∃ ps : List Place, ps.length = bs.length ∧ (∀ (i : Nat) b, bs[i]? = some b → ∃ p, ps[i]? = some p ∧ E.place b = some p ∧ p.nil = false) ∧ v = .func (.func k) #[] (ps.map fun p => Value.pointer (some ⟨p.blk, 0, none⟩)).toArray

theorem CRep.mono {E E' : Env} (h : E.le E') {c : C} {v : Value} (k : CRep E c v) : CRep E' c v := by
  cases c with
  | dat t x => exact ⟨k.1, k.2.mono h.F⟩
  | row t b => obtain ⟨p, hp, k⟩ := k; exact ⟨p, h.place _ _ hp, k⟩
  | sub t b lo len => obtain ⟨p, hp, k⟩ := k; exact ⟨p, h.place _ _ hp, k⟩
  | ptr b o => obtain ⟨p, hp, k⟩ := k; exact ⟨p, h.place _ _ hp, k⟩
  | rptr t b i o => obtain ⟨p, hp, k⟩ := k; exact ⟨p, h.place _ _ hp, k⟩
  | elt t xs i o =>
    obtain ⟨hi, b, off, hv, k⟩ := k
    refine ⟨hi, b, off, hv, fun i x hx => ?_⟩
    obtain ⟨us, k1, k2, k3⟩ := k i x hx
    exact ⟨us, k1.mono h.F, k2, fun j u hu => (k3 j u hu).mono h.F⟩
  | nilsl => exact k
  | nilptr => exact k
  | nilfn => exact k
  | mclo k' bs =>
    obtain ⟨ps, h1, h2, h3⟩ := k
    exact ⟨ps, h1, fun i b hb => let ⟨p, g1, g2, g3⟩ := h2 i b hb; ⟨p, g1, h.place _ _ g2, g3⟩, h3⟩

/-- One value is no struct and no tuple. -/
theorem CRep.oneCell {E : Env} {c : C} {v : Value} (k : CRep E c v) : v.oneCell' = true := by
  cases c with
  | dat t x =>
    obtain ⟨ha, k⟩ := k
    cases t with
    | int _ => obtain ⟨k, _⟩ := k; simp at k; subst k; rfl
    | bool => have k : _ = _ := k; simp at k; subst k; rfl
    | str => obtain ⟨k, _⟩ := k; simp at k; subst k; rfl
    | list t => obtain ⟨_, _, k, _⟩ := k; simp at k; subst k; rfl
    | unit => simp [Ty.isAgg] at ha
    | pair a b => simp [Ty.isAgg] at ha
    | ref t => obtain ⟨_, _, k, _⟩ := k; simp at k; subst k; rfl
    | ptr t =>
      rcases k with ⟨_, k⟩ | ⟨_, _, _, _, k, _⟩
      · simp at k; subst k; rfl
      · simp at k; subst k; rfl
    | clo k' t => obtain ⟨_, k, _⟩ := k; simp at k; subst k; rfl
  | row t b =>
    obtain ⟨p, _, ⟨_, k, _⟩ | ⟨_, k, _⟩⟩ := k
    · rw [k]; rfl
    · rw [k]; rfl
  | sub t b lo len =>
    obtain ⟨p, _, _, ⟨_, k, _⟩ | ⟨_, a, k, _⟩⟩ := k
    · rw [k]; rfl
    · rw [k]; rfl
  | ptr b o => obtain ⟨p, _, _, k⟩ := k; rw [k]; rfl
  | rptr t b i o => obtain ⟨p, _, _, _, k⟩ := k; rw [k]; rfl
  | elt t xs i o => obtain ⟨_, b, off, k, _⟩ := k; rw [k]; rfl
  | nilsl => rw [show v = _ from k]; rfl
  | nilptr => rw [show v = _ from k]; rfl
  | nilfn => rw [show v = _ from k]; rfl
  | mclo _ _ => obtain ⟨_, _, _, k⟩ := k; rw [k]; rfl

theorem Value.cells_one {v : Value} (h : v.oneCell' = true) : v.cells = #[v] := by
  cases v <;> simp [Value.oneCell', Value.cells] at *

def CReps (E : Env) : List C → List Value → Prop
  | [], vs => vs = []
  | c :: cs, vs => ∃ v us, vs = v :: us ∧ CRep E c v ∧ CReps E cs us

theorem CReps.mono {E E' : Env} (h : E.le E') : ∀ {cs : List C} {vs : List Value}, CReps E cs vs → CReps E' cs vs
  | [], _, k => k
  | _ :: _, _, ⟨v, us, hv, k1, k2⟩ => ⟨v, us, hv, k1.mono h, CReps.mono h k2⟩

theorem CReps.length {E : Env} : ∀ {cs : List C} {vs : List Value}, CReps E cs vs → vs.length = cs.length
  | [], _, k => by rw [show _ = _ from k]; rfl
  | _ :: _, _, ⟨v, us, hv, _, k2⟩ => by rw [hv]; simp [CReps.length k2]

theorem CReps.oneCell {E : Env} : ∀ {cs : List C} {vs : List Value}, CReps E cs vs → ∀ v ∈ vs, v.oneCell' = true
  | [], _, k => by rw [show _ = _ from k]; simp
  | _ :: _, _, ⟨v, us, hv, k1, k2⟩ => by
    subst hv
    intro u hu
    rcases List.mem_cons.1 hu with rfl | hu
    · exact k1.oneCell
    · exact CReps.oneCell k2 u hu

theorem CReps.append {E : Env} : ∀ {cs ds : List C} {vs us : List Value}, CReps E cs vs → CReps E ds us → CReps E (cs ++ ds) (vs ++ us)
  | [], _, _, _, k, l => by rw [show _ = _ from k]; exact l
  | _ :: _, _, _, _, ⟨v, ws, hv, k1, k2⟩, l => ⟨v, ws ++ _, by rw [hv]; rfl, k1, CReps.append k2 l⟩

theorem CReps.split {E : Env} : ∀ {cs ds : List C} {vs : List Value}, CReps E (cs ++ ds) vs → ∃ us ws, vs = us ++ ws ∧ CReps E cs us ∧ CReps E ds ws
  | [], _, vs, k => ⟨[], vs, rfl, rfl, k⟩
  | _ :: _, _, _, ⟨v, us, hv, k1, k2⟩ => by
    obtain ⟨us', ws, h, l1, l2⟩ := CReps.split k2
    exact ⟨v :: us', ws, by rw [hv, h]; rfl, ⟨v, us', rfl, k1, l1⟩, l2⟩

theorem CReps.get {E : Env} : ∀ {cs : List C} {vs : List Value}, CReps E cs vs → ∀ (i : Nat) c, cs[i]? = some c → ∃ v, vs[i]? = some v ∧ CRep E c v
  | [], _, _, i, c, h => by simp at h
  | _ :: _, _, ⟨v, us, hv, k1, k2⟩, 0, c, h => by subst hv; simp at h; subst h; exact ⟨v, rfl, k1⟩
  | _ :: _, _, ⟨v, us, hv, k1, k2⟩, i + 1, c, h => by subst hv; simpa using CReps.get k2 i c (by simpa using h)

theorem CReps.take {E : Env} : ∀ {cs : List C} {vs : List Value}, CReps E cs vs → ∀ (n : Nat), CReps E (cs.take n) (vs.take n)
  | [], _, k, n => by rw [show _ = _ from k]; simp [CReps]
  | _ :: _, _, _, 0 => rfl
  | _ :: _, _, ⟨v, us, hv, k1, k2⟩, n + 1 => by subst hv; exact ⟨v, us.take n, rfl, k1, CReps.take k2 n⟩

theorem CReps.drop {E : Env} : ∀ {cs : List C} {vs : List Value}, CReps E cs vs → ∀ (n : Nat), CReps E (cs.drop n) (vs.drop n)
  | [], _, k, n => by rw [show _ = _ from k]; simp [CReps]
  | _ :: _, _, k, 0 => k
  | _ :: _, _, ⟨v, us, hv, _, k2⟩, n + 1 => by subst hv; exact CReps.drop k2 n

/-- A datum's cells, symbolically and in memory. -/
theorem CReps_flat {E : Env} : ∀ {t : Ty} {x : t.den} {vs : List Value}, Rep E.F t x vs → CReps E (flat t x) vs
  | .int _, _, _, h => ⟨_, [], h.1, ⟨rfl, rfl, h.2⟩, rfl⟩
  | .bool, _, _, h => ⟨_, [], h, ⟨rfl, rfl⟩, rfl⟩
  | .str, _, _, h => ⟨_, [], h.1, ⟨rfl, rfl, h.2⟩, rfl⟩
  | .list _, _, _, h => by
    have h' := h
    obtain ⟨a, cap, h0, h1⟩ := h
    exact ⟨_, [], h0, ⟨rfl, a, cap, rfl, h1⟩, rfl⟩
  | .unit, _, _, h => h
  | .pair _ _, _, _, h => by
    obtain ⟨us, ws, rfl, h1, h2⟩ := h
    exact CReps.append (CReps_flat h1) (CReps_flat h2)
  | .ref t, x, _, h => by
    obtain ⟨b, off, rfl, us, k1, k2, k3⟩ := h
    refine ⟨_, [], rfl, ⟨by simp, b, off, by simp, fun i y hy => ?_⟩, rfl⟩
    cases i with
    | zero =>
      have hy : x = y := by simpa using hy
      subst hy
      exact ⟨us, k1, k2, fun j u hu => by simpa using k3 j u hu⟩
    | succ i => simp at hy
  | .ptr t, x, vs, h => by
    have h' := h
    rcases h with ⟨_, h⟩ | ⟨_, _, _, _, h, _⟩
    · subst h; exact ⟨_, [], rfl, ⟨rfl, h'⟩, rfl⟩
    · subst h; exact ⟨_, [], rfl, ⟨rfl, h'⟩, rfl⟩
  | .clo k t, x, vs, h => by
    have h' := h
    obtain ⟨_, h, _⟩ := h
    subst h
    exact ⟨_, [], rfl, ⟨rfl, h'⟩, rfl⟩

def SRep (E : Env) : SV → Value → Prop
  | .one c, v => CRep E c v
  | .agg cs, v => ∃ vs, v = .agg vs ∧ CReps E cs vs.toList
  | .tup l, v => ∃ vs, v = .tuple vs ∧ go l vs.toList
where
  go : List (Bool × List C) → List Value → Prop
    | [], vs => vs = []
    | (g, cs) :: l, vs => ∃ v us, vs = v :: us ∧ (match g with | true => ∃ ws, v = .agg ws ∧ CReps E cs ws.toList | false => ∃ c, cs = [c] ∧ CRep E c v) ∧ go l us

theorem SRep.go_mono {E E' : Env} (h : E.le E') : ∀ {l : List (Bool × List C)} {vs : List Value}, SRep.go E l vs → SRep.go E' l vs
  | [], _, k => k
  | (g, cs) :: l, _, k => by
    obtain ⟨v, us, hv, k1, k2⟩ := k
    refine ⟨v, us, hv, ?_, SRep.go_mono h k2⟩
    cases g with
    | true => obtain ⟨ws, hw, k1⟩ := k1; exact ⟨ws, hw, k1.mono h⟩
    | false => obtain ⟨c, hc, k1⟩ := k1; exact ⟨c, hc, k1.mono h⟩

theorem SRep.mono {E E' : Env} (h : E.le E') {s : SV} {v : Value} (k : SRep E s v) : SRep E' s v := by
  cases s with
  | one c => exact CRep.mono h k
  | agg cs => obtain ⟨vs, hv, k⟩ := k; exact ⟨vs, hv, k.mono h⟩
  | tup l => obtain ⟨vs, hv, k⟩ := k; exact ⟨vs, hv, SRep.go_mono h k⟩

/-- How a block of the call's own lies in memory. -/
def BRow (E : Env) (w : World) (p : Place) (fro : Bool) (e : Nat) (t : Ty) (xs : List t.den) : Prop :=
  p.cap ≤ maxLenI ∧ (xs.length = p.len ∧ p.len ≤ p.cap) ∧ ∃ vs, w.heap[p.blk]? = some (.cells vs e (0, 0)) ∧ vs.size = p.cap * t.size ∧ (fro = true → E.F p.blk = some (.cells vs e (0, 0))) ∧
    ∀ (i : Nat) (x : t.den), xs[i]? = some x → ∃ us : List Value, Rep E.F t x us ∧ us.length = t.size ∧ ∀ (j : Nat) u, us[j]? = some u → vs[i * t.size + j]? = some u

def BRep (E : Env) (w : World) (p : Place) : Blk → Prop
  | .cells cs => p.nil = false ∧ ∃ vs e, w.heap[p.blk]? = some (.cells vs e (0, 0)) ∧ CReps E cs vs.toList
  | .row fro e t xs => (p.nil = true ∧ xs = [] ∧ p.len = 0) ∨ (p.nil = false ∧ BRow E w p fro e t xs)
  | .fcells t x => p.nil = false ∧ ∃ vs e, w.heap[p.blk]? = some (.cells vs e (0, 0)) ∧ E.F p.blk = some (.cells vs e (0, 0)) ∧ Rep E.F t x vs.toList

theorem BRow.mono {E E' : Env} (h : E.le E') {w : World} {p : Place} {fro : Bool} {e : Nat} {t : Ty} {xs : List t.den} (k : BRow E w p fro e t xs) : BRow E' w p fro e t xs := by
  obtain ⟨h0, h1, vs, h2, h3, h4, h5⟩ := k
  refine ⟨h0, h1, vs, h2, h3, fun hf => h.F _ _ (h4 hf), fun i x hx => ?_⟩
  obtain ⟨us, k1, k2⟩ := h5 i x hx
  exact ⟨us, k1.mono h.F, k2⟩

theorem BRep.mono {E E' : Env} (h : E.le E') {w : World} {p : Place} {B : Blk} (k : BRep E w p B) : BRep E' w p B := by
  cases B with
  | cells cs => obtain ⟨h0, vs, e, h1, h2⟩ := k; exact ⟨h0, vs, e, h1, h2.mono h⟩
  | row fro e t xs => exact k.imp id fun k => ⟨k.1, k.2.mono h⟩
  | fcells t x => obtain ⟨h0, vs, e, h1, h2, h3⟩ := k; exact ⟨h0, vs, e, h1, h.F _ _ h2, h3.mono h.F⟩

theorem BRep.world {E : Env} {w w' : World} {p : Place} {B : Blk} (k : BRep E w p B) (h : p.nil = false → w'.heap[p.blk]? = w.heap[p.blk]?) : BRep E w' p B := by
  cases B with
  | cells cs => obtain ⟨h0, vs, e, h1, h2⟩ := k; exact ⟨h0, vs, e, by rw [h h0]; exact h1, h2⟩
  | row fro e t xs =>
    rcases k with k | ⟨hn, h0, h1, vs, h2, h3⟩
    · exact .inl k
    · exact .inr ⟨hn, h0, h1, vs, by rw [h hn]; exact h2, h3⟩
  | fcells t x => obtain ⟨h0, vs, e, h1, h2⟩ := k; exact ⟨h0, vs, e, by rw [h h0]; exact h1, h2⟩

end Go.Vc
