/-
  Owned data: variables and slices of the caller's own that a function is handed and may change; how they lie in memory, and how they are opened into blocks and read back.
-/
import Derived.Test.YtpnnfimacblhgaaVcs
set_option linter.unusedVariables false
set_option linter.unusedSimpArgs false
namespace Go.Vc
open Go

variable {P : Program} {X : Ctx} {w0 : World} {foot : Foot} {base : Mem} {S T : St} {E : Env} {a : Act} {w : World} {ctx : Tags}

/-- 'dat': data that nobody changes; 'row': a slice of one's own; 'cells': a place of a variable of one's own ('fix': it stays that place); 'mclo': a function value over such variables; 'gone' (of an argument): the caller has it no more. -/
inductive OTy where
  | dat (t : Ty)
  | row (e : Nat) (t : Ty)
  | cells (fix : Bool) (o : OTy)
  | mclo (k : Nat) (o : OTy)
  | unit
  | pair (a b : OTy)
  | gone (o : OTy)

@[reducible] def OTy.den (o : OTy) : Type := OTy.rec (motive := fun _ => Type) (fun t => t.den) (fun _ t => List t.den) (fun _ _ d => d) (fun _ _ d => d) Unit (fun _ _ a b => a × b) (fun _ d => d) o

def OTy.size : OTy → Nat
  | .dat t => t.size
  | .row _ _ | .cells _ _ | .mclo _ _ => 1
  | .unit => 0
  | .pair a b => a.size + b.size
  | .gone o => o.size

def OTy.isAgg : OTy → Bool
  | .dat t => t.isAgg
  | .unit | .pair _ _ => true
  | .gone o => o.isAgg
  | _ => false

def OTy.wf : (o : OTy) → o.den → Prop
  | .dat t, x => t.wf x
  | .row _ t, xs => xs.length ≤ maxLenI ∧ ∀ x ∈ xs, t.wf x
  | .cells _ o, x => o.wf x
  | .mclo _ o, x => o.wf x
  | .unit, _ => True
  | .pair a b, x => a.wf x.1 ∧ b.wf x.2
  | .gone o, x => o.wf x

/-- Places, as a tree. -/
inductive PT where
  | nil
  | row (p : Place)
  | cells (p : Place) (q : PT)
  | pair (a b : PT)

def PT.list : PT → List Place
  | .nil => []
  | .row p => [p]
  | .cells p q => p :: q.list
  | .pair a b => a.list ++ b.list

/-- Block numbers, as a tree. -/
inductive IT where
  | nil
  | row (n : Option Nat)
  | cells (n : Nat) (t : IT)
  | pair (a b : IT)

def IT.ids : IT → List Nat
  | .nil => []
  | .row none => []
  | .row (some n) => [n]
  | .cells n t => n :: t.ids
  | .pair a b => a.ids ++ b.ids

def nilPlace : Place := ⟨true, 0, 0, 0⟩

def ITAt (E : Env) : IT → PT → Prop
  | .nil, .nil => True
  | .row none, .row p => p = nilPlace
  | .row (some n), .row p => E.place n = some p
  | .cells n t, .cells p q => E.place n = some p ∧ ITAt E t q
  | .pair a b, .pair p q => ITAt E a p ∧ ITAt E b q
  | _, _ => False

theorem ITAt.mono {E E' : Env} (h : E.le E') : ∀ {t : IT} {q : PT}, ITAt E t q → ITAt E' t q
  | .nil, .nil, _ => trivial
  | .row none, .row p, k => k
  | .row (some n), .row p, k => h.place _ _ k
  | .cells n t, .cells p q, k => ⟨h.place _ _ k.1, k.2.mono h⟩
  | .pair a b, .pair p q, k => ⟨k.1.mono h, k.2.mono h⟩

def rowVal (p : Place) (v : Value) : Prop :=
  (p.nil = true ∧ v = .slice none 0 0 ∧ p.len = 0) ∨ (p.nil = false ∧ v = .slice (some ⟨p.blk, 0, none⟩) p.len p.cap ∧ p.len ≤ p.cap ∧ p.cap ≤ maxLenI)

/-- How owned data lie in memory. -/
def ORep (F : Mem) (w : World) : (o : OTy) → o.den → List Value → PT → Prop
  | .dat t, x, vs, pl => pl = .nil ∧ Rep F t x vs
  | .row e t, xs, vs, pl => ∃ p v, pl = .row p ∧ vs = [v] ∧ rowVal p v ∧ BRep ⟨F, fun _ => none⟩ w p (.row false e t xs)
  | .cells _ o, x, vs, pl => ∃ p q us e, pl = .cells p q ∧ p.nil = false ∧ vs = [.pointer (some ⟨p.blk, 0, none⟩)] ∧ w.heap[p.blk]? = some (.cells us e (0, 0)) ∧ ORep F w o x us.toList q
  | .mclo k o, x, vs, pl => ∃ ws, vs = [.func (.func k) #[] ws] ∧ ORep F w o x ws.toList pl
  | .unit, _, vs, pl => vs = [] ∧ pl = .nil
  | .pair a b, x, vs, pl => ∃ us ws p q, vs = us ++ ws ∧ pl = .pair p q ∧ ORep F w a x.1 us p ∧ ORep F w b x.2 ws q
  | .gone o, x, vs, pl => ORep F w o x vs pl

theorem ORep.length {F : Mem} : ∀ {o : OTy} {x : o.den} {vs : List Value} {pl : PT}, ORep F w o x vs pl → vs.length = o.size
  | .dat _, _, _, _, h => h.2.length
  | .row _ _, _, _, _, h => by obtain ⟨_, _, _, h, _⟩ := h; rw [h]; rfl
  | .cells _ _, _, _, _, h => by obtain ⟨_, _, _, _, _, _, h, _⟩ := h; rw [h]; rfl
  | .mclo _ _, _, _, _, h => by obtain ⟨_, h, _⟩ := h; rw [h]; rfl
  | .unit, _, _, _, h => by rw [h.1]; rfl
  | .pair _ _, _, _, _, h => by obtain ⟨_, _, _, _, h, _, h1, h2⟩ := h; rw [h]; simp [OTy.size, h1.length, h2.length]
  | .gone o, _, _, _, h => ORep.length (o := o) h

theorem BRep.row_wf {p : Place} {fro : Bool} {e : Nat} {t : Ty} {xs : List t.den} (h : BRep E w p (.row fro e t xs)) : xs.length ≤ maxLenI ∧ ∀ x ∈ xs, t.wf x := by
  rcases h with ⟨_, rfl, _⟩ | ⟨_, h0, ⟨h1, h2⟩, vs, h3, h4, h5, h6⟩
  · exact ⟨by simp, fun x hx => by cases hx⟩
  · refine ⟨by omega, fun x hx => ?_⟩
    obtain ⟨i, hi, rfl⟩ := List.mem_iff_getElem.1 hx
    obtain ⟨us, k1, _⟩ := h6 i _ (List.getElem?_eq_getElem hi)
    exact k1.wf

theorem ORep.wf {F : Mem} : ∀ {o : OTy} {x : o.den} {vs : List Value} {pl : PT}, ORep F w o x vs pl → o.wf x
  | .dat _, _, _, _, h => h.2.wf
  | .row _ _, _, _, _, h => by obtain ⟨_, _, _, _, _, h⟩ := h; exact h.row_wf
  | .cells _ o, _, _, _, h => by obtain ⟨_, _, _, _, _, _, _, _, h⟩ := h; exact ORep.wf (o := o) h
  | .mclo _ o, _, _, _, h => by obtain ⟨_, _, h⟩ := h; exact ORep.wf (o := o) h
  | .unit, _, _, _, _ => trivial
  | .pair _ _, _, _, _, h => by obtain ⟨_, _, _, _, _, _, h1, h2⟩ := h; exact ⟨h1.wf, h2.wf⟩
  | .gone o, _, _, _, h => ORep.wf (o := o) h

theorem ORep.mono {F F' : Mem} (hF : F.le F') : ∀ {o : OTy} {x : o.den} {vs : List Value} {pl : PT}, ORep F w o x vs pl → ORep F' w o x vs pl
  | .dat _, _, _, _, h => ⟨h.1, h.2.mono hF⟩
  | .row _ _, _, _, _, h => by
    obtain ⟨p, v, h1, h2, h3, h4⟩ := h
    exact ⟨p, v, h1, h2, h3, BRep.mono (E := ⟨F, fun _ => none⟩) (E' := ⟨F', fun _ => none⟩) ⟨hF, fun _ _ h => h⟩ h4⟩
  | .cells _ o, _, _, _, h => by
    obtain ⟨p, q, us, e, h1, h2, h3, h4, h5⟩ := h
    exact ⟨p, q, us, e, h1, h2, h3, h4, ORep.mono hF (o := o) h5⟩
  | .mclo _ o, _, _, _, h => by obtain ⟨ws, h1, h2⟩ := h; exact ⟨ws, h1, ORep.mono hF (o := o) h2⟩
  | .unit, _, _, _, h => h
  | .pair _ _, _, _, _, h => by obtain ⟨us, ws, p, q, h1, h2, h3, h4⟩ := h; exact ⟨us, ws, p, q, h1, h2, h3.mono hF, h4.mono hF⟩
  | .gone o, _, _, _, h => ORep.mono hF (o := o) h

/-- What of the places stays: all that is 'fix', down to what is not; 'top': of an argument, its own place, too. -/
def OFix : (o : OTy) → Bool → PT → PT → Prop
  | .row _ _, top, p, p' => top = true → p' = p
  | .cells fix o, top, .cells p q, .cells p' q' => ((fix || top) = true → p' = p ∧ OFix o false q q')
  | .mclo _ o, _, q, q' => OFix o false q q'
  | .pair a b, _, .pair p q, .pair p' q' => OFix a false p p' ∧ OFix b false q q'
  | _, _, _, _ => True

/-! ### Opening: blocks for owned data -/

def bptrs : List C → List Nat
  | [] => []
  | .ptr b _ :: cs => b :: bptrs cs
  | _ :: cs => 0 :: bptrs cs

/-- Cells, blocks, and how many numbers are used, from 'n' on. -/
def oOpen : (o : OTy) → o.den → Nat → List C × List (Nat × Blk) × IT × Nat
  | .dat t, x, n => (flat t x, [], .nil, n)
  | .row e t, xs, n => ([.row t n], [(n, .row false e t xs)], .row (some n), n + 1)
  | .cells _ o, x, n => let r := oOpen o x (n + 1); ([.ptr n 0], (n, .cells r.1) :: r.2.1, .cells n r.2.2.1, r.2.2.2)
  | .mclo k o, x, n => let r := oOpen o x n; ([.mclo k (bptrs r.1)], r.2)
  | .unit, _, n => ([], [], .nil, n)
  | .pair a b, x, n =>
    let r := oOpen a x.1 n
    let s := oOpen b x.2 r.2.2.2
    (r.1 ++ s.1, r.2.1 ++ s.2.1, .pair r.2.2.1 s.2.2.1, s.2.2.2)
  | .gone o, x, n => oOpen o x n

/-- Numbers from some to some other, in their order. -/
theorem oOpen_ids : ∀ (o : OTy) (x : o.den) (n : Nat), n ≤ (oOpen o x n).2.2.2 ∧ (∀ i ∈ (oOpen o x n).2.2.1.ids, n ≤ i ∧ i < (oOpen o x n).2.2.2) ∧ (oOpen o x n).2.2.1.ids.Nodup ∧ (oOpen o x n).2.1.map (·.1) = (oOpen o x n).2.2.1.ids
  | .dat t, x, n => ⟨Nat.le_refl _, fun i hi => (by cases hi), List.nodup_nil, rfl⟩
  | .row e t, xs, n => ⟨Nat.le_succ _, fun i hi => by simp [oOpen, IT.ids] at hi; subst hi; exact ⟨Nat.le_refl _, Nat.lt_succ_self _⟩, by simp [oOpen, IT.ids], rfl⟩
  | .cells _ o, x, n => by
    obtain ⟨h1, h2, h3, h4⟩ := oOpen_ids o x (n + 1)
    refine ⟨by simp only [oOpen]; omega, fun i hi => ?_, ?_, ?_⟩
    · simp only [oOpen, IT.ids, List.mem_cons] at hi ⊢
      rcases hi with rfl | hi
      · omega
      · have := h2 i hi; omega
    · simp only [oOpen, IT.ids, List.nodup_cons]
      exact ⟨fun hi => by have := h2 n hi; omega, h3⟩
    · simp only [oOpen, IT.ids, List.map_cons, h4]
  | .mclo k o, x, n => oOpen_ids o x n
  | .unit, _, n => ⟨Nat.le_refl _, fun i hi => (by cases hi), List.nodup_nil, rfl⟩
  | .pair a b, x, n => by
    obtain ⟨h1, h2, h3, h4⟩ := oOpen_ids a x.1 n
    obtain ⟨k1, k2, k3, k4⟩ := oOpen_ids b x.2 (oOpen a x.1 n).2.2.2
    refine ⟨by simp only [oOpen]; omega, fun i hi => ?_, ?_, ?_⟩
    · simp only [oOpen, IT.ids, List.mem_append] at hi ⊢
      rcases hi with hi | hi
      · have := h2 i hi; omega
      · have := k2 i hi; omega
    · simp only [oOpen, IT.ids]
      refine List.nodup_append.2 ⟨h3, k3, fun i hi j hj e => ?_⟩
      have := h2 i hi
      have := k2 j hj
      omega
    · simp only [oOpen, IT.ids, List.map_append, h4, k4]
  | .gone o, x, n => oOpen_ids o x n

theorem CReps.ptrs {E : Env} : ∀ {cs : List C} {vs : List Value}, CReps E cs vs → (∀ c ∈ cs, ∃ b, c = .ptr b 0) →
    ∃ ps : List Place, ps.length = (bptrs cs).length ∧ (∀ (i : Nat) b, (bptrs cs)[i]? = some b → ∃ p, ps[i]? = some p ∧ E.place b = some p ∧ p.nil = false) ∧ vs = ps.map fun p => Value.pointer (some ⟨p.blk, 0, none⟩)
  | [], vs, h, _ => by have h : _ = _ := h; exact ⟨[], rfl, fun i b hb => by simp [bptrs] at hb, h⟩
  | c :: cs, vs, h, hc => by
    obtain ⟨b, rfl⟩ := hc c List.mem_cons_self
    obtain ⟨v, us, rfl, ⟨p, hp, hn, rfl⟩, k⟩ := h
    obtain ⟨ps, g1, g2, rfl⟩ := CReps.ptrs k (fun c hc' => hc c (List.mem_cons_of_mem _ hc'))
    refine ⟨p :: ps, by simp [bptrs, g1], fun i b' hb => ?_, rfl⟩
    cases i with
    | zero => simp [bptrs] at hb; subst hb; exact ⟨p, rfl, hp, hn⟩
    | succ i => simpa using g2 i b' (by simpa [bptrs] using hb)

/-- Are all cells of it places? (what a function value catches) -/
def OTy.allPtr : OTy → Bool
  | .cells _ _ => true
  | .unit => true
  | .pair a b => a.allPtr && b.allPtr
  | _ => false

/-- Function values catch variables alone. -/
def OTy.ok : OTy → Bool
  | .dat _ | .row _ _ | .unit => true
  | .cells _ o => o.ok
  | .mclo _ o => o.allPtr && o.ok
  | .pair a b => a.ok && b.ok
  | .gone o => o.ok

theorem oOpen_ptrs : ∀ {o : OTy} {x : o.den} {n : Nat}, o.allPtr = true → ∀ c ∈ (oOpen o x n).1, ∃ b, c = .ptr b 0
  | .cells _ _, _, n, _, c, hc => by simp [oOpen] at hc; exact ⟨n, hc⟩
  | .unit, _, _, _, c, hc => by cases hc
  | .pair a b, x, n, h, c, hc => by
    simp only [OTy.allPtr, Bool.and_eq_true] at h
    simp only [oOpen, List.mem_append] at hc
    rcases hc with hc | hc
    · exact oOpen_ptrs h.1 c hc
    · exact oOpen_ptrs h.2 c hc
  | .dat _, _, _, h, _, _ => by cases h
  | .row _ _, _, _, h, _, _ => by cases h
  | .mclo _ _, _, _, h, _, _ => by cases h
  | .gone _, _, _, h, _, _ => by cases h

/-- Opened data in memory: the cells, and the blocks. -/
theorem oOpen_rep {F : Mem} (hEF : E.F = F) : ∀ {o : OTy} {x : o.den} {vs : List Value} {pl : PT} {n : Nat}, o.ok = true → ORep F w o x vs pl → ITAt E (oOpen o x n).2.2.1 pl →
    CReps E (oOpen o x n).1 vs ∧ ∀ m B, (m, B) ∈ (oOpen o x n).2.1 → ∃ p, E.place m = some p ∧ BRep E w p B ∧ p ∈ pl.list ∧ B.mut = true
  | .dat t, x, vs, pl, n, _, h, _ => ⟨CReps_flat (by rw [hEF]; exact h.2), fun m B hm => by cases hm⟩
  | .row e t, xs, vs, pl, n, _, h, hi => by
    obtain ⟨p, v, rfl, rfl, hv, hB⟩ := h
    refine ⟨⟨v, [], rfl, ⟨p, hi, hv⟩, rfl⟩, fun m B hm => ?_⟩
    simp [oOpen] at hm
    obtain ⟨rfl, rfl⟩ := hm
    exact ⟨p, hi, hB.mono ⟨by rw [hEF]; exact .refl _, fun _ _ h => by cases h⟩, by simp [PT.list], rfl⟩
  | .cells fx o, x, vs, pl, n, hk, h, hi => by
    obtain ⟨p, q, us, e, rfl, hn, rfl, hw, h⟩ := h
    obtain ⟨hp, hi⟩ := hi
    obtain ⟨k1, k2⟩ := oOpen_rep hEF (o := o) (n := n + 1) hk h hi
    refine ⟨⟨_, [], rfl, ⟨p, hp, hn, rfl⟩, rfl⟩, fun m B hm => ?_⟩
    simp only [oOpen, List.mem_cons] at hm
    rcases hm with hm | hm
    · cases hm
      exact ⟨p, hp, ⟨hn, us, e, hw, k1⟩, by simp [PT.list], rfl⟩
    · obtain ⟨p', g1, g2, g3, g4⟩ := k2 m B hm
      exact ⟨p', g1, g2, by simp [PT.list, g3], g4⟩
  | .mclo k o, x, vs, pl, n, hk, h, hi => by
    obtain ⟨ws, rfl, h⟩ := h
    simp only [OTy.ok, Bool.and_eq_true] at hk
    obtain ⟨k1, k2⟩ := oOpen_rep hEF (o := o) (n := n) hk.2 h hi
    obtain ⟨ps, g1, g2, g3⟩ := k1.ptrs (oOpen_ptrs hk.1)
    refine ⟨⟨_, [], rfl, ⟨ps, g1, g2, ?_⟩, rfl⟩, k2⟩
    rw [← g3]
  | .unit, _, vs, pl, n, _, h, _ => ⟨h.1, fun m B hm => by cases hm⟩
  | .pair a b, x, vs, pl, n, hk, h, hi => by
    obtain ⟨us, ws, p, q, rfl, rfl, h1, h2⟩ := h
    simp only [OTy.ok, Bool.and_eq_true] at hk
    obtain ⟨k1, k2⟩ := oOpen_rep hEF (n := n) hk.1 h1 hi.1
    obtain ⟨g1, g2⟩ := oOpen_rep hEF (n := (oOpen a x.1 n).2.2.2) hk.2 h2 hi.2
    refine ⟨k1.append g1, fun m B hm => ?_⟩
    simp only [oOpen, List.mem_append] at hm
    rcases hm with hm | hm
    · obtain ⟨p', e1, e2, e3, e4⟩ := k2 m B hm
      exact ⟨p', e1, e2, by simp [PT.list, e3], e4⟩
    · obtain ⟨p', e1, e2, e3, e4⟩ := g2 m B hm
      exact ⟨p', e1, e2, by simp [PT.list, e3], e4⟩
  | .gone o, x, vs, pl, n, hk, h, hi => oOpen_rep hEF (o := o) (n := n) hk h hi

/-! ### Reading back -/

def oClose : (o : OTy) → List C → RM (o.den × Fro × IT)
  | .dat t, cs => do
    let x ← reify t cs
    return (x.1, x.2, .nil)
  | .row e t, cs => (match cs with
    | [.row tt b] => .blk b fun
      | .row false e' t' xs => (match tt.beq t' && Nat.beq e e' with
        | true => do
          let zs ← RM.ofOption (Ty.as (a := .list t') (.list t) (lit xs))
          return (Ty.L zs, [], .row (some b))
        | false => .fail)
      | _ => .fail
    | [.nilsl] => .ret ([], [], .row none)
    | _ => .fail)
  | .cells _ o, cs => (match cs with
    | [.ptr b off] => (match Nat.beq off 0 with
      | true => .blk b fun
        | .cells ds => do
          let r ← oClose o ds
          return (r.1, r.2.1, .cells b r.2.2)
        | _ => .fail
      | false => .fail)
    | _ => .fail)
  | .mclo k o, cs => (match cs with
    | [.mclo k' bs] => (match Nat.beq k k' with
      | true => oClose o (bs.map fun b => .ptr b 0)
      | false => .fail)
    | _ => .fail)
  | .unit, cs => (match cs with
    | [] => .ret ((), [], .nil)
    | _ => .fail)
  | .pair a b, cs => do
    let x ← oClose a (cs.take a.size)
    let y ← oClose b (cs.drop a.size)
    guardR (froApart x.2.1 y.2.1)
    return ((x.1, y.1), x.2.1 ++ y.2.1, .pair x.2.2 y.2.2)
  | .gone o, cs => oClose o cs

theorem ptrs_creps {E : Env} : ∀ {bs : List Nat} {ps : List Place}, ps.length = bs.length → (∀ (i : Nat) b, bs[i]? = some b → ∃ p, ps[i]? = some p ∧ E.place b = some p ∧ p.nil = false) →
    CReps E (bs.map fun b => .ptr b 0) (ps.map fun p => Value.pointer (some ⟨p.blk, 0, none⟩))
  | [], [], _, _ => rfl
  | b :: bs, p :: ps, hl, h => by
    obtain ⟨q, h1, h2, h3⟩ := h 0 b rfl
    simp at h1
    subst h1
    exact ⟨_, _, rfl, ⟨p, h2, h3, rfl⟩, ptrs_creps (by simpa using hl) fun i b' hb => h (i + 1) b' (by simpa using hb)⟩
  | [], _ :: _, h, _ => by simp at h
  | _ :: _, [], h, _ => by simp at h

/-- What reading back tells. -/
structure Closed (S : St) (o : OTy) (cs : List C) (x : o.den) (fr : Fro) (it : IT) : Prop where
  fro : FroOk S.bl fr
  own : ∀ n ∈ it.ids, ∃ B, find S.bl n = some B ∧ B.mut = true
  rep : ∀ (E : Env) (w : World) (vs : List Value), CReps E cs vs → Frozen S.bl E w fr → (∀ n ∈ it.ids, ∀ B, find S.bl n = some B → ∃ p, E.place n = some p ∧ BRep E w p B) → ∃ pl, ITAt E it pl ∧ ORep E.F w o x vs pl

theorem oClose_spec : ∀ {o : OTy} {cs : List C} {x : o.den} {fr : Fro} {it : IT}, (oClose o cs).run S ctx = some (x, fr, it) → Closed S o cs x fr it
  | .dat t, cs, x, fr, it, hr => by
    unfold oClose at hr
    obtain ⟨⟨y, f⟩, h1, hr⟩ := RM.run_bind' hr
    cases RM.run_pure' hr
    exact ⟨reify_froOk h1, fun n hn => (by cases hn), fun E w vs hv hf _ => ⟨.nil, trivial, rfl, reify_rep h1 hv hf⟩⟩
  | .row e t, cs, x, fr, it, hr => by
    unfold oClose at hr
    split at hr
    · rename_i tt b
      simp only [RM.run] at hr
      split at hr
      · rename_i B hB
        split at hr
        · rename_i e' t' xs
          split at hr
          · rename_i hb
            simp only [Bool.and_eq_true] at hb
            have he := Nat.eq_of_beq_eq_true hb.2
            subst he
            obtain ⟨zs, h1, hr⟩ := RM.run_bind' hr
            cases RM.run_pure' hr
            obtain ⟨ee, rfl⟩ := Ty.as_some (run_ofOption h1)
            cases ee
            refine ⟨.nil, fun n hn => ?_, fun E w vs hv hf hblk => ?_⟩
            · simp [IT.ids] at hn; subst hn; exact ⟨_, hB, rfl⟩
            · obtain ⟨v, rfl, hv1⟩ := one_reps hv
              obtain ⟨p, hp, hk⟩ := hv1
              obtain ⟨p', hp', hBr⟩ := hblk b (by simp [IT.ids]) _ hB
              rw [hp] at hp'
              cases hp'
              exact ⟨.row p, hp, p, v, rfl, rfl, hk, hBr⟩
          · cases hr
        · cases hr
      · cases hr
    · cases hr
      refine ⟨.nil, fun n hn => (by cases hn), fun E w vs hv hf _ => ?_⟩
      obtain ⟨v, rfl, hv1⟩ := one_reps hv
      have hv2 : v = .slice none 0 0 := hv1
      exact ⟨.row nilPlace, rfl, nilPlace, v, rfl, rfl, .inl ⟨rfl, hv2, rfl⟩, .inl ⟨rfl, rfl, rfl⟩⟩
    · cases hr
  | .cells fx o, cs, x, fr, it, hr => by
    unfold oClose at hr
    split at hr
    · rename_i b off
      split at hr
      · rename_i ho
        have ho := Nat.eq_of_beq_eq_true ho
        subst ho
        simp only [RM.run] at hr
        split at hr
        · rename_i B hB
          split at hr
          · rename_i ds
            obtain ⟨⟨y, f, t⟩, h1, hr⟩ := RM.run_bind' hr
            cases RM.run_pure' hr
            obtain ⟨k1, k2, k3⟩ := oClose_spec (o := o) h1
            refine ⟨k1, fun n hn => ?_, fun E w vs hv hf hblk => ?_⟩
            · simp only [IT.ids, List.mem_cons] at hn
              rcases hn with rfl | hn
              · exact ⟨_, hB, rfl⟩
              · exact k2 n hn
            · obtain ⟨v, rfl, p, hp, hn, rfl⟩ := one_reps hv
              obtain ⟨p', hp', _, us, e, hw, hcs⟩ := hblk b (by simp [IT.ids]) _ hB
              rw [hp] at hp'
              cases hp'
              obtain ⟨q, g1, g2⟩ := k3 E w us.toList hcs hf fun n hn => hblk n (by simp [IT.ids, hn])
              exact ⟨.cells p q, ⟨hp, g1⟩, p, q, us, e, rfl, hn, rfl, hw, g2⟩
          · cases hr
        · cases hr
      · cases hr
    · cases hr
  | .mclo k o, cs, x, fr, it, hr => by
    unfold oClose at hr
    split at hr
    · rename_i k' bs
      split at hr
      · rename_i hk
        have hk := Nat.eq_of_beq_eq_true hk
        subst hk
        obtain ⟨k1, k2, k3⟩ := oClose_spec (o := o) hr
        refine ⟨k1, k2, fun E w vs hv hf hblk => ?_⟩
        obtain ⟨v, rfl, ps, g1, g2, rfl⟩ := one_reps hv
        obtain ⟨pl, m1, m2⟩ := k3 E w _ (ptrs_creps g1 g2) hf hblk
        exact ⟨pl, m1, _, rfl, m2⟩
      · cases hr
    · cases hr
  | .unit, cs, x, fr, it, hr => by
    unfold oClose at hr
    split at hr
    · cases hr
      exact ⟨.nil, fun n hn => (by cases hn), fun E w vs hv _ _ => ⟨.nil, trivial, hv, rfl⟩⟩
    · cases hr
  | .pair a b, cs, x, fr, it, hr => by
    unfold oClose at hr
    obtain ⟨⟨y, f, t⟩, h1, hr⟩ := RM.run_bind' hr
    obtain ⟨⟨z, g, u⟩, h2, hr⟩ := RM.run_bind' hr
    obtain ⟨_, h3, hr⟩ := RM.run_bind' hr
    cases RM.run_pure' hr
    obtain ⟨k1, k2, k3⟩ := oClose_spec h1
    obtain ⟨l1, l2, l3⟩ := oClose_spec h2
    refine ⟨k1.append l1 (run_guardR h3), fun n hn => ?_, fun E w vs hv hf hblk => ?_⟩
    · simp only [IT.ids, List.mem_append] at hn
      rcases hn with hn | hn
      · exact k2 n hn
      · exact l2 n hn
    · obtain ⟨p, m1, m2⟩ := k3 E w _ (hv.take a.size) hf.left fun n hn => hblk n (by simp [IT.ids, hn])
      obtain ⟨q, n1, n2⟩ := l3 E w _ (hv.drop a.size) hf.right fun n hn => hblk n (by simp [IT.ids, hn])
      exact ⟨.pair p q, ⟨m1, n1⟩, _, _, p, q, (List.take_append_drop _ _).symm, rfl, m2, n2⟩
  | .gone o, cs, x, fr, it, hr => by
    obtain ⟨h1, h2, h3⟩ := oClose_spec (o := o) hr
    exact ⟨h1, h2, h3⟩

end Go.Vc
