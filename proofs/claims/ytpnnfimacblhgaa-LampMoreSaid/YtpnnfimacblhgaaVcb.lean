/-
  The symbolic state (slots and blocks), reading it with a record of what was read, and how a state stands to the machine's own.
-/
import Derived.Test.YtpnnfimacblhgaaVca
set_option linter.unusedVariables false
set_option linter.unusedSimpArgs false
namespace Go.Vc
open Go

def find {α : Type} : List (Nat × α) → Nat → Option α
  | [], _ => none
  | (m, a) :: l, n => match Nat.beq m n with
    | true => some a
    | false => find l n

def rem {α : Type} : List (Nat × α) → Nat → List (Nat × α)
  | [], _ => []
  | (m, a) :: l, n => match Nat.beq m n with
    | true => rem l n
    | false => (m, a) :: rem l n

def put {α : Type} (l : List (Nat × α)) (n : Nat) (a : α) : List (Nat × α) := (n, a) :: rem l n

def has : List Nat → Nat → Bool
  | [], _ => false
  | m :: l, n => match Nat.beq m n with
    | true => true
    | false => has l n

theorem has_mem : ∀ {l : List Nat} {n : Nat}, has l n = true ↔ n ∈ l
  | [], n => by simp [has]
  | m :: l, n => by
    unfold has
    split
    · rename_i h; simp [Nat.eq_of_beq_eq_true h]
    · rename_i h
      have : m ≠ n := fun e => by subst e; simp at h
      rw [has_mem (l := l)]
      simp [this.symm]

theorem find_rem_same {α : Type} : ∀ (l : List (Nat × α)) (n : Nat), find (rem l n) n = none
  | [], _ => rfl
  | (m, a) :: l, n => by
    unfold rem
    split
    · exact find_rem_same l n
    · rename_i h; unfold find; rw [h]; exact find_rem_same l n

theorem find_rem_other {α : Type} : ∀ (l : List (Nat × α)) (n k : Nat), n ≠ k → find (rem l n) k = find l k
  | [], _, _, _ => rfl
  | (m, a) :: l, n, k, h => by
    unfold rem
    split
    · rename_i hb
      have e := Nat.eq_of_beq_eq_true hb
      subst e
      rw [find_rem_other l m k h, find]
      split
      · rename_i hk; exact absurd (Nat.eq_of_beq_eq_true hk) h
      · rfl
    · simp only [find]; rw [find_rem_other l n k h]

theorem find_rem_some {α : Type} {l : List (Nat × α)} {n k : Nat} {a : α} (h : find (rem l n) k = some a) : find l k = some a ∧ n ≠ k := by
  by_cases e : n = k
  · subst e; rw [find_rem_same] at h; cases h
  · rw [find_rem_other _ _ _ e] at h; exact ⟨h, e⟩

theorem find_put_same {α : Type} (l : List (Nat × α)) (n : Nat) (a : α) : find (put l n a) n = some a := by
  simp [put, find]

theorem find_put_other {α : Type} (l : List (Nat × α)) (n k : Nat) (a : α) (h : n ≠ k) : find (put l n a) k = find l k := by
  simp only [put, find]
  split
  · rename_i hk; exact absurd (Nat.eq_of_beq_eq_true hk) h
  · exact find_rem_other l n k h

abbrev Tags := List (Nat × Bool)

structure St where
  sl : List (Nat × (Tags × SV))
  bl : List (Nat × Blk)
  used : List Nat
  n : Nat
  pin : List Nat := []

def natsEq : List Nat → List Nat → Bool
  | [], [] => true
  | m :: l, n :: k => Nat.beq m n && natsEq l k
  | _, _ => false

theorem natsEq_eq : ∀ {l k : List Nat}, natsEq l k = true → l = k
  | [], [], _ => rfl
  | m :: l, n :: k, h => by
    simp only [natsEq, Bool.and_eq_true] at h
    rw [Nat.eq_of_beq_eq_true h.1, natsEq_eq h.2]
  | [], _ :: _, h => by cases h
  | _ :: _, [], h => by cases h

/-! ### Reading a state -/

inductive Loc where
  | slot (n : Nat)
  | blk (n : Nat)

def Loc.beq : Loc → Loc → Bool
  | .slot a, .slot b => Nat.beq a b
  | .blk a, .blk b => Nat.beq a b
  | _, _ => false

theorem Loc.beq_eq {a b : Loc} (h : a.beq b = true) : a = b := by
  cases a <;> cases b <;> simp [Loc.beq] at h <;> simp_all

theorem Loc.beq_refl (a : Loc) : a.beq a = true := by cases a <;> simp [Loc.beq]

/-- A reader: slots (with tags beyond the context's that are allowed) and blocks. -/
inductive RM (α : Type) where
  | ret (a : α)
  | fail
  | slot (ex : Tags) (n : Nat) (k : SV → RM α)
  | blk (n : Nat) (k : Blk → RM α)

def RM.bind {α β : Type} : RM α → (α → RM β) → RM β
  | .ret a, f => f a
  | .fail, _ => .fail
  | .slot ex n k, f => .slot ex n fun v => (k v).bind f
  | .blk n k, f => .blk n fun v => (k v).bind f

instance : Monad RM where
  pure := RM.ret
  bind := RM.bind

def tagIn : Tags → Nat × Bool → Bool
  | [], _ => false
  | (m, b) :: l, t => match Nat.beq m t.1 && (b == t.2) with
    | true => true
    | false => tagIn l t

def tagsIn (l : Tags) : Tags → Bool
  | [] => true
  | t :: ts => match tagIn l t with
    | true => tagsIn l ts
    | false => false

def RM.run {α : Type} (S : St) (ctx : Tags) : RM α → Option α
  | .ret a => some a
  | .fail => none
  | .slot ex n k => match find S.sl n with
    | some (tags, v) => (match tagsIn (ex ++ ctx) tags with
      | true => (k v).run S ctx
      | false => none)
    | none => none
  | .blk n k => match find S.bl n with
    | some B => (k B).run S ctx
    | none => none

def RM.reads {α : Type} (S : St) (ctx : Tags) : RM α → List Loc
  | .ret _ => []
  | .fail => []
  | .slot _ n k => .slot n :: (match find S.sl n with
    | some (_, v) => (k v).reads S ctx
    | none => [])
  | .blk n k => .blk n :: (match find S.bl n with
    | some B => (k B).reads S ctx
    | none => [])

/-- Two states agree at a place. -/
def Agree (S S' : St) : Loc → Prop
  | .slot n => find S'.sl n = find S.sl n
  | .blk n => find S'.bl n = find S.bl n

theorem RM.run_agree {α : Type} {S S' : St} {ctx : Tags} : ∀ {m : RM α}, (∀ l ∈ m.reads S ctx, Agree S S' l) → m.run S' ctx = m.run S ctx
  | .ret _, _ => rfl
  | .fail, _ => rfl
  | .slot ex n k, h => by
    have h0 : find S'.sl n = find S.sl n := h (.slot n) (by simp [RM.reads])
    simp only [RM.run, h0]
    cases hf : find S.sl n with
    | none => rfl
    | some x =>
      obtain ⟨tags, v⟩ := x
      simp only
      split
      · refine RM.run_agree fun l hl => h l ?_
        simp only [RM.reads, hf]
        exact List.mem_cons_of_mem _ hl
      · rfl
  | .blk n k, h => by
    have h0 : find S'.bl n = find S.bl n := h (.blk n) (by simp [RM.reads])
    simp only [RM.run, h0]
    cases hf : find S.bl n with
    | none => rfl
    | some B =>
      refine RM.run_agree fun l hl => h l ?_
      simp only [RM.reads, hf]
      exact List.mem_cons_of_mem _ hl

theorem RM.reads_agree {α : Type} {S S' : St} {ctx : Tags} : ∀ {m : RM α}, (∀ l ∈ m.reads S ctx, Agree S S' l) → m.reads S' ctx = m.reads S ctx
  | .ret _, _ => rfl
  | .fail, _ => rfl
  | .slot ex n k, h => by
    have h0 : find S'.sl n = find S.sl n := h (.slot n) (by simp [RM.reads])
    simp only [RM.reads, h0]
    cases hf : find S.sl n with
    | none => rfl
    | some x =>
      obtain ⟨tags, v⟩ := x
      simp only
      rw [RM.reads_agree fun l hl => h l (by simp only [RM.reads, hf]; exact List.mem_cons_of_mem _ hl)]
  | .blk n k, h => by
    have h0 : find S'.bl n = find S.bl n := h (.blk n) (by simp [RM.reads])
    simp only [RM.reads, h0]
    cases hf : find S.bl n with
    | none => rfl
    | some B =>
      simp only
      rw [RM.reads_agree fun l hl => h l (by simp only [RM.reads, hf]; exact List.mem_cons_of_mem _ hl)]

theorem RM.run_bind {α β : Type} {S : St} {ctx : Tags} : ∀ {m : RM α} {f : α → RM β} {b : β}, (m.bind f).run S ctx = some b → ∃ a, m.run S ctx = some a ∧ (f a).run S ctx = some b
  | .ret a, f, b, h => ⟨a, rfl, h⟩
  | .fail, f, b, h => by cases h
  | .slot ex n k, f, b, h => by
    simp only [RM.bind, RM.run] at h ⊢
    split at h
    · split at h
      · obtain ⟨a, h1, h2⟩ := RM.run_bind h
        exact ⟨a, h1, h2⟩
      · cases h
    · cases h
  | .blk n k, f, b, h => by
    simp only [RM.bind, RM.run] at h ⊢
    split at h
    · exact RM.run_bind h
    · cases h

theorem RM.run_bind' {α β : Type} {S : St} {ctx : Tags} {m : RM α} {f : α → RM β} {b : β} (h : (m >>= f).run S ctx = some b) : ∃ a, m.run S ctx = some a ∧ (f a).run S ctx = some b := RM.run_bind h

theorem RM.run_pure' {α : Type} {S : St} {ctx : Tags} {a b : α} (h : (pure a : RM α).run S ctx = some b) : a = b := Option.some.inj h

theorem tagIn_mem : ∀ {l : Tags} {t : Nat × Bool}, tagIn l t = true → t ∈ l
  | [], _, h => by cases h
  | (m, b) :: l, t, h => by
    unfold tagIn at h
    split at h
    · rename_i hb
      simp only [Bool.and_eq_true, beq_iff_eq] at hb
      have := Nat.eq_of_beq_eq_true hb.1
      obtain ⟨t1, t2⟩ := t
      simp only at this hb
      rw [← this, ← hb.2]
      exact List.mem_cons_self
    · exact List.mem_cons_of_mem _ (tagIn_mem h)

theorem tagsIn_mem {l : Tags} : ∀ {ts : Tags}, tagsIn l ts = true → ∀ t ∈ ts, t ∈ l
  | [], _, t, ht => by cases ht
  | t' :: ts, h, t, ht => by
    unfold tagsIn at h
    split at h
    · rename_i hb
      rcases List.mem_cons.1 ht with rfl | ht
      · exact tagIn_mem hb
      · exact tagsIn_mem h t ht
    · cases h

/-! ### A state and the machine's own -/

def TagsHold (a : Act) (ts : Tags) : Prop := ∀ t ∈ ts, a.tmps[t.1]? = some (.bool t.2)

/-- What the caller's variables are that a function may change, and which blocks keep their places. -/
structure Foot where
  at_ : Nat → Prop
  pin : Nat → Option Place := fun _ => none

instance : CoeFun Foot (fun _ => Nat → Prop) := ⟨Foot.at_⟩

def noFoot : Foot := ⟨fun _ => False, fun _ => none⟩

/-- What a call may change, and what it may not. -/
structure Keep (foot : Nat → Prop) (w w' : World) : Prop where
  os : w'.os = w.os
  tape : w'.tape = w.tape
  output : w'.output = w.output
  size : w.heap.size ≤ w'.heap.size
  block : ∀ k, k < w.heap.size → ¬ foot k → w'.heap[k]? = w.heap[k]?

theorem Keep.refl (foot : Nat → Prop) (w : World) : Keep foot w w := ⟨rfl, rfl, rfl, Nat.le_refl _, fun _ _ _ => rfl⟩
theorem Keep.trans {foot : Nat → Prop} {a b c : World} (h : Keep foot a b) (k : Keep foot b c) : Keep foot a c :=
  ⟨k.os.trans h.os, k.tape.trans h.tape, k.output.trans h.output, Nat.le_trans h.size k.size, fun i hi hf => (k.block i (Nat.lt_of_lt_of_le hi h.size) hf).trans (h.block i hi hf)⟩

def Blk.mut : Blk → Bool
  | .cells _ => true
  | .row fro _ _ _ => !fro
  | .fcells _ _ => false

/-- The heap's part. -/
structure HRel (w0 : World) (foot : Foot) (base : Mem) (bl : List (Nat × Blk)) (used : List Nat) (E : Env) (w : World) : Prop where
  keep : Keep foot.at_ w0 w
  frz : ∀ b o, E.F b = some o → w.heap[b]? = some o
  src : ∀ b o, E.F b = some o → base b = some o ∨ w0.heap.size ≤ b ∨ foot b
  blks : ∀ id B, find bl id = some B → ∃ p, E.place id = some p ∧ BRep E w p B
  own : ∀ id B p, find bl id = some B → E.place id = some p → p.nil = false → (w0.heap.size ≤ p.blk ∨ foot p.blk) ∧ (B.mut = true → E.F p.blk = none)
  inj : ∀ id id' B B' p p', find bl id = some B → find bl id' = some B' → E.place id = some p → E.place id' = some p' → p.nil = false → p'.nil = false → id ≠ id' → p.blk ≠ p'.blk
  used : ∀ id p, E.place id = some p → id ∈ used

structure SRel (w0 : World) (foot : Foot) (base : Mem) (S : St) (E : Env) (a : Act) (w : World) : Prop extends HRel w0 foot base S.bl S.used E w where
  slots : ∀ n ts v, find S.sl n = some (ts, v) → TagsHold a ts → SRep E v (a.tmps.getD n undef)
  size : a.tmps.size = S.n
  defers : a.defers = []
  pins : ∀ n p, foot.pin n = some p → n ∈ S.pin ∧ E.place n = some p

theorem HRel.congr {w0 : World} {foot : Foot} {base : Mem} {bl bl' : List (Nat × Blk)} {used used' : List Nat} {E : Env} {w : World}
    (h : HRel w0 foot base bl used E w) (hb : ∀ id B, find bl' id = some B → find bl id = some B) (hu : ∀ i, i ∈ used → i ∈ used') : HRel w0 foot base bl' used' E w :=
  ⟨h.keep, h.frz, h.src, fun id B hf => h.blks id B (hb _ _ hf), fun id B p hf => h.own id B p (hb _ _ hf), fun id id' B B' p p' hf hf' => h.inj id id' B B' p p' (hb _ _ hf) (hb _ _ hf'), fun id p hp => hu _ (h.used id p hp)⟩

/-- A draw changes nothing. -/
theorem HRel.drew {w0 : World} {foot : Foot} {base : Mem} {bl : List (Nat × Blk)} {used : List Nat} {E : Env} {w : World} (h : HRel w0 foot base bl used E w) (n : Nat) :
    HRel w0 foot base bl used E { w with drawn := n } :=
  ⟨⟨h.keep.os, h.keep.tape, h.keep.output, h.keep.size, h.keep.block⟩, h.frz, h.src, fun id B hf => by
    obtain ⟨p, hp, hB⟩ := h.blks id B hf
    exact ⟨p, hp, hB.world fun _ => rfl⟩, h.own, h.inj, h.used⟩

/-- A block number that holds something is a number of the heap's. -/
theorem heap_lt {w : World} {b : Nat} {o : Obj} (h : w.heap[b]? = some o) : b < w.heap.size := by
  rcases Nat.lt_or_ge b w.heap.size with h' | h'
  · exact h'
  · rw [Array.getElem?_eq_none h'] at h; cases h

theorem BRep.lt {E : Env} {w : World} {p : Place} {B : Blk} (k : BRep E w p B) (hn : p.nil = false) : p.blk < w.heap.size := by
  cases B with
  | cells cs => obtain ⟨_, vs, e, h, _⟩ := k; exact heap_lt h
  | fcells t x => obtain ⟨_, vs, e, h, _⟩ := k; exact heap_lt h
  | row fro e t xs =>
    rcases k with ⟨k, _, _⟩ | ⟨_, _, _, vs, h, _⟩
    · rw [hn] at k; cases k
    · exact heap_lt h

def Env.new (E : Env) (id : Nat) (p : Place) : Env := { E with place := fun b => if b = id then some p else E.place b }

theorem Env.new_le {E : Env} {id : Nat} {p : Place} (h : E.place id = none) : E.le (E.new id p) :=
  ⟨.refl _, fun b q hb => by
    unfold Env.new
    simp only
    split
    · rename_i e; subst e; rw [h] at hb; cases hb
    · exact hb⟩

theorem Env.new_same {E : Env} {id : Nat} {p : Place} : (E.new id p).place id = some p := by simp [Env.new]
theorem Env.new_other {E : Env} {id b : Nat} {p : Place} (h : b ≠ id) : (E.new id p).place b = E.place b := by simp [Env.new, h]

theorem alloc_other {w : World} {o : Obj} {k : Nat} (h : k < w.heap.size) : (w.alloc o).heap[k]? = w.heap[k]? := Go.RowKit.Below.heap_alloc _ _ _ h
theorem alloc_same {w : World} {o : Obj} : (w.alloc o).heap[w.heap.size]? = some o := by show (w.heap.push o)[w.heap.size]? = _; simp

/-- A new block. -/
theorem HRel.alloc {w0 : World} {foot : Foot} {base : Mem} {bl : List (Nat × Blk)} {used : List Nat} {E : Env} {w : World} (h : HRel w0 foot base bl used E w)
    {id : Nat} {p : Place} {B : Blk} {o : Obj} (hid : id ∉ used) (hp : p.nil = false → p.blk = w.heap.size)
    (hB : BRep (E.new id p) (w.alloc o) p B) : HRel w0 foot base (put bl id B) (id :: used) (E.new id p) (w.alloc o) := by
  have hnone : E.place id = none := by
    cases he : E.place id with
    | none => rfl
    | some q => exact absurd (h.used id q he) hid
  have hle := Env.new_le (p := p) hnone
  have hF : E.F w.heap.size = none := by
    cases he : E.F w.heap.size with
    | none => rfl
    | some o => have := heap_lt (h.frz _ _ he); omega
  have hbl : ∀ i B', i ≠ id → find (put bl id B) i = some B' → find bl i = some B' := fun i B' hi hf => by rwa [find_put_other _ _ _ _ (Ne.symm hi)] at hf
  refine ⟨h.keep.trans ⟨rfl, rfl, rfl, by simp, fun k hk _ => alloc_other hk⟩, fun b o hb => ?_, h.src, fun i B' hf => ?_, fun i B' q hf hq hn => ?_, fun i j B' B'' q q' hf hf' hq hq' hn hn' hij => ?_, fun i q hq => ?_⟩
  · have := h.frz b o hb
    rw [alloc_other (heap_lt this)]
    exact this
  · by_cases hi : i = id
    · subst hi
      rw [find_put_same] at hf
      cases hf
      exact ⟨p, Env.new_same, hB⟩
    · obtain ⟨q, hq, k⟩ := h.blks i B' (hbl i B' hi hf)
      exact ⟨q, hle.place _ _ hq, (k.mono hle).world fun hn => alloc_other (k.lt hn)⟩
  · by_cases hi : i = id
    · subst hi
      rw [Env.new_same] at hq
      cases hq
      rw [hp hn]
      exact ⟨.inl h.keep.size, fun _ => hF⟩
    · rw [Env.new_other hi] at hq
      exact h.own i B' q (hbl i B' hi hf) hq hn
  · have old : ∀ i B' q, i ≠ id → find (put bl id B) i = some B' → (E.new id p).place i = some q → q.nil = false → q.blk < w.heap.size := fun i B' q hi hf hq hn => by
      rw [Env.new_other hi] at hq
      obtain ⟨q', hq', k⟩ := h.blks i B' (hbl i B' hi hf)
      rw [hq] at hq'
      cases hq'
      exact k.lt hn
    by_cases hi : i = id
    · have hj : j ≠ id := fun e => hij (hi.trans e.symm)
      have := old j B'' q' hj hf' hq' hn'
      subst hi
      rw [Env.new_same] at hq
      cases hq
      have := hp hn
      omega
    · by_cases hj : j = id
      · have := old i B' q hi hf hq hn
        subst hj
        rw [Env.new_same] at hq'
        cases hq'
        have := hp hn'
        omega
      · rw [Env.new_other hi] at hq
        rw [Env.new_other hj] at hq'
        exact h.inj i j B' B'' q q' (hbl i B' hi hf) (hbl j B'' hj hf') hq hq' hn hn' hij
  · by_cases hi : i = id
    · exact hi ▸ List.mem_cons_self
    · rw [Env.new_other hi] at hq
      exact List.mem_cons_of_mem _ (h.used i q hq)

/-- A nil slice as a block without memory. -/
theorem HRel.nilrow {w0 : World} {foot : Foot} {base : Mem} {bl : List (Nat × Blk)} {used : List Nat} {E : Env} {w : World} (h : HRel w0 foot base bl used E w)
    {id : Nat} {p : Place} {B : Blk} (hid : id ∉ used) (hp : p.nil = true) (hB : BRep (E.new id p) w p B) : HRel w0 foot base (put bl id B) (id :: used) (E.new id p) w := by
  have hnone : E.place id = none := by
    cases he : E.place id with
    | none => rfl
    | some q => exact absurd (h.used id q he) hid
  have hle := Env.new_le (p := p) hnone
  have hbl : ∀ i B', i ≠ id → find (put bl id B) i = some B' → find bl i = some B' := fun i B' hi hf => by rwa [find_put_other _ _ _ _ (Ne.symm hi)] at hf
  have ne : ∀ i q, (E.new id p).place i = some q → q.nil = false → i ≠ id := fun i q hq hn e => by
    subst e; rw [Env.new_same] at hq; cases hq; rw [hp] at hn; cases hn
  refine ⟨h.keep, h.frz, h.src, fun i B' hf => ?_, fun i B' q hf hq hn => ?_, fun i j B' B'' q q' hf hf' hq hq' hn hn' hij => ?_, fun i q hq => ?_⟩
  · by_cases hi : i = id
    · subst hi
      rw [find_put_same] at hf
      cases hf
      exact ⟨p, Env.new_same, hB⟩
    · obtain ⟨q, hq, k⟩ := h.blks i B' (hbl i B' hi hf)
      exact ⟨q, hle.place _ _ hq, k.mono hle⟩
  · have hi := ne i q hq hn
    rw [Env.new_other hi] at hq
    exact h.own i B' q (hbl i B' hi hf) hq hn
  · have hi := ne i q hq hn
    have hj := ne j q' hq' hn'
    rw [Env.new_other hi] at hq
    rw [Env.new_other hj] at hq'
    exact h.inj i j B' B'' q q' (hbl i B' hi hf) (hbl j B'' hj hf') hq hq' hn hn' hij
  · by_cases hi : i = id
    · exact hi ▸ List.mem_cons_self
    · rw [Env.new_other hi] at hq
      exact List.mem_cons_of_mem _ (h.used i q hq)

/-- The world with one block replaced. -/
def setBlk (w : World) (b : Nat) (o : Obj) : World := { w with heap := w.heap.setIfInBounds b o }

theorem setBlk_same {w : World} {b : Nat} {o : Obj} (h : b < w.heap.size) : (setBlk w b o).heap[b]? = some o := by simp [setBlk, h]
theorem setBlk_other {w : World} {b k : Nat} {o : Obj} (h : k ≠ b) : (setBlk w b o).heap[k]? = w.heap[k]? := by
  simp [setBlk, Array.getElem?_setIfInBounds_ne (Ne.symm h)]

/-- A block of the call's own that can be changed gets another content. -/
theorem HRel.write {w0 : World} {foot : Foot} {base : Mem} {bl : List (Nat × Blk)} {used : List Nat} {E : Env} {w : World} (h : HRel w0 foot base bl used E w)
    {id : Nat} {p : Place} {B B' : Blk} {o : Obj} (hf : find bl id = some B) (hp : E.place id = some p) (hn : p.nil = false) (hm : B.mut = true)
    (hB : BRep E (setBlk w p.blk o) p B') : HRel w0 foot base (put bl id B') used E (setBlk w p.blk o) := by
  have hlt : p.blk < w.heap.size := by
    obtain ⟨q, hq, k⟩ := h.blks id B hf
    rw [hp] at hq; cases hq
    exact k.lt hn
  have hown := h.own id B p hf hp hn
  have hbl : ∀ i B'', i ≠ id → find (put bl id B') i = some B'' → find bl i = some B'' := fun i B' hi hf => by rwa [find_put_other _ _ _ _ (Ne.symm hi)] at hf
  have any : ∀ i B'', find (put bl id B') i = some B'' → ∃ B₀, find bl i = some B₀ := fun i B'' hf' => by
    by_cases hi : i = id
    · exact hi ▸ ⟨B, hf⟩
    · exact ⟨B'', hbl i B'' hi hf'⟩
  refine ⟨⟨h.keep.os, h.keep.tape, h.keep.output, Nat.le_trans h.keep.size (by simp [setBlk]), fun k hk hfk => (setBlk_other fun e => ?_).trans (h.keep.block k hk hfk)⟩, fun b o' hb => ?_, h.src, fun i B'' hf' => ?_, fun i B'' q hf' hq hn' => ?_, fun i j B₁ B₂ q q' h1 h2 hq hq' hn hn' hij => ?_, h.used⟩
  · subst e
    rcases hown.1 with h1 | h1
    · omega
    · exact hfk h1
  · have hb' := h.frz b o' hb
    rw [setBlk_other]
    · exact hb'
    · rintro rfl
      rw [hown.2 hm] at hb
      cases hb
  · by_cases hi : i = id
    · subst hi
      rw [find_put_same] at hf'
      cases hf'
      exact ⟨p, hp, hB⟩
    · obtain ⟨q, hq, k⟩ := h.blks i B'' (hbl i B'' hi hf')
      refine ⟨q, hq, k.world fun hn' => setBlk_other ?_⟩
      exact h.inj i id B'' B q p (hbl i B'' hi hf') hf hq hp hn' hn hi
  · by_cases hi : i = id
    · subst hi
      rw [hp] at hq
      cases hq
      exact ⟨hown.1, fun _ => hown.2 hm⟩
    · exact h.own i B'' q (hbl i B'' hi hf') hq hn'
  · obtain ⟨B₁', h1'⟩ := any i B₁ h1
    obtain ⟨B₂', h2'⟩ := any j B₂ h2
    exact h.inj i j B₁' B₂' q q' h1' h2' hq hq' hn hn' hij

/-- An array of the call's own that nobody changes from here on. -/
theorem HRel.freeze {w0 : World} {foot : Foot} {base : Mem} {bl : List (Nat × Blk)} {used : List Nat} {E : Env} {w : World} (h : HRel w0 foot base bl used E w)
    {id : Nat} {fro : Bool} {e : Nat} {t : Ty} {xs : List t.den} (hf : find bl id = some (.row fro e t xs)) :
    ∃ E', E.le E' ∧ E'.place = E.place ∧ (∀ b o, E'.F b = some o → E.F b = some o ∨ (w.heap[b]? = some o ∧ (∃ p, E.place id = some p ∧ p.nil = false ∧ p.blk = b))) ∧ HRel w0 foot base (put bl id (.row true e t xs)) used E' w := by
  obtain ⟨p, hp, hB⟩ := h.blks id _ hf
  rcases hB with ⟨hn, hx, hl⟩ | ⟨hn, h0, h1, vs, h2, h3, h4, h5⟩
  · refine ⟨E, .refl _, rfl, fun b o hb => .inl hb, ⟨h.keep, h.frz, h.src, fun i B' hf' => ?_, fun i B' q hf' hq hn' => ?_, fun i j B₁ B₂ q q' h1 h2 hq hq' hn hn' hij => ?_, h.used⟩⟩
    · by_cases hi : i = id
      · subst hi; rw [find_put_same] at hf'; cases hf'; exact ⟨p, hp, .inl ⟨hn, hx, hl⟩⟩
      · rw [find_put_other _ _ _ _ (Ne.symm hi)] at hf'; exact h.blks i B' hf'
    · by_cases hi : i = id
      · subst hi; rw [hp] at hq; cases hq; rw [hn] at hn'; cases hn'
      · rw [find_put_other _ _ _ _ (Ne.symm hi)] at hf'; exact h.own i B' q hf' hq hn'
    · have any : ∀ i B'', find (put bl id (Blk.row true e t xs)) i = some B'' → ∃ B₀, find bl i = some B₀ := fun i B'' hf' => by
        by_cases hi : i = id
        · exact hi ▸ ⟨_, hf⟩
        · rw [find_put_other _ _ _ _ (Ne.symm hi)] at hf'; exact ⟨_, hf'⟩
      obtain ⟨_, h1'⟩ := any i B₁ h1
      obtain ⟨_, h2'⟩ := any j B₂ h2
      exact h.inj i j _ _ q q' h1' h2' hq hq' hn hn' hij
  · have hle : E.le { E with F := fun b => if b = p.blk then some (.cells vs e (0, 0)) else E.F b } := by
      refine ⟨fun b o hb => ?_, fun _ _ h => h⟩
      simp only
      split
      · rename_i hb'
        subst hb'
        rw [← h.frz _ _ hb, h2]
      · exact hb
    refine ⟨_, hle, rfl, fun b o hb => ?_, ⟨h.keep, fun b o hb => ?_, fun b o hb => ?_, fun i B' hf' => ?_, fun i B' q hf' hq hn' => ?_, fun i j B₁ B₂ q q' h1 h2 hq hq' hn hn' hij => ?_, h.used⟩⟩
    · simp only at hb
      split at hb
      · rename_i hb'; subst hb'; cases hb; exact .inr ⟨h2, p, hp, hn, rfl⟩
      · exact .inl hb
    · simp only at hb
      split at hb
      · rename_i hb'; subst hb'; cases hb; exact h2
      · exact h.frz _ _ hb
    · simp only at hb
      split at hb
      · rename_i hb'; subst hb'; exact .inr (h.own id _ p hf hp hn).1
      · exact h.src _ _ hb
    · by_cases hi : i = id
      · subst hi
        rw [find_put_same] at hf'
        cases hf'
        refine ⟨p, hp, .inr ⟨hn, h0, h1, vs, h2, h3, fun _ => by simp, fun j x hx => ?_⟩⟩
        obtain ⟨us, k1, k2⟩ := h5 j x hx
        exact ⟨us, k1.mono hle.F, k2⟩
      · rw [find_put_other _ _ _ _ (Ne.symm hi)] at hf'
        obtain ⟨q, hq, k⟩ := h.blks i B' hf'
        exact ⟨q, hq, k.mono hle⟩
    · by_cases hi : i = id
      · subst hi
        rw [find_put_same] at hf'
        cases hf'
        exact ⟨(h.own i _ q hf hq hn').1, fun hm => by simp [Blk.mut] at hm⟩
      · rw [find_put_other _ _ _ _ (Ne.symm hi)] at hf'
        refine ⟨(h.own i B' q hf' hq hn').1, fun hm => ?_⟩
        simp only
        rw [if_neg (h.inj i id B' _ q p hf' hf hq hp hn' hn hi)]
        exact (h.own i B' q hf' hq hn').2 hm
    · have any : ∀ i B'', find (put bl id (Blk.row true e t xs)) i = some B'' → ∃ B₀, find bl i = some B₀ := fun i B'' hf' => by
        by_cases hi : i = id
        · exact hi ▸ ⟨_, hf⟩
        · rw [find_put_other _ _ _ _ (Ne.symm hi)] at hf'; exact ⟨_, hf'⟩
      obtain ⟨_, h1'⟩ := any i B₁ h1
      obtain ⟨_, h2'⟩ := any j B₂ h2
      exact h.inj i j _ _ q q' h1' h2' hq hq' hn hn' hij

/-- A variable of the call's own that nobody changes from here on. -/
theorem HRel.freezeCells {w0 : World} {foot : Foot} {base : Mem} {bl : List (Nat × Blk)} {used : List Nat} {E : Env} {w : World} (h : HRel w0 foot base bl used E w)
    {id : Nat} {cs : List C} {t : Ty} {x : t.den} (hf : find bl id = some (.cells cs)) (hr : ∀ (E : Env) (vs : List Value), CReps E cs vs → Rep E.F t x vs) :
    ∃ E', E.le E' ∧ E'.place = E.place ∧ (∀ b o, E'.F b = some o → E.F b = some o ∨ (w.heap[b]? = some o ∧ (∃ p, E.place id = some p ∧ p.nil = false ∧ p.blk = b))) ∧ HRel w0 foot base (put bl id (.fcells t x)) used E' w := by
  obtain ⟨p, hp, hB⟩ := h.blks id _ hf
  obtain ⟨hn, vs, e, h2, h3⟩ := hB
  have hle : E.le { E with F := fun b => if b = p.blk then some (.cells vs e (0, 0)) else E.F b } := by
    refine ⟨fun b o hb => ?_, fun _ _ h => h⟩
    simp only
    split
    · rename_i hb'
      subst hb'
      rw [← h.frz _ _ hb, h2]
    · exact hb
  refine ⟨_, hle, rfl, fun b o hb => ?_, ⟨h.keep, fun b o hb => ?_, fun b o hb => ?_, fun i B' hf' => ?_, fun i B' q hf' hq hn' => ?_, fun i j B₁ B₂ q q' h1 h2 hq hq' hn hn' hij => ?_, h.used⟩⟩
  · simp only at hb
    split at hb
    · rename_i hb'; subst hb'; cases hb; exact .inr ⟨h2, p, hp, hn, rfl⟩
    · exact .inl hb
  · simp only at hb
    split at hb
    · rename_i hb'; subst hb'; cases hb; exact h2
    · exact h.frz _ _ hb
  · simp only at hb
    split at hb
    · rename_i hb'; subst hb'; exact .inr (h.own id _ p hf hp hn).1
    · exact h.src _ _ hb
  · by_cases hi : i = id
    · subst hi
      rw [find_put_same] at hf'
      cases hf'
      exact ⟨p, hp, hn, vs, e, h2, by simp, (hr E _ h3).mono hle.F⟩
    · rw [find_put_other _ _ _ _ (Ne.symm hi)] at hf'
      obtain ⟨q, hq, k⟩ := h.blks i B' hf'
      exact ⟨q, hq, k.mono hle⟩
  · by_cases hi : i = id
    · subst hi
      rw [find_put_same] at hf'
      cases hf'
      exact ⟨(h.own i _ q hf hq hn').1, fun hm => by simp [Blk.mut] at hm⟩
    · rw [find_put_other _ _ _ _ (Ne.symm hi)] at hf'
      refine ⟨(h.own i B' q hf' hq hn').1, fun hm => ?_⟩
      simp only
      rw [if_neg (h.inj i id B' _ q p hf' hf hq hp hn' hn hi)]
      exact (h.own i B' q hf' hq hn').2 hm
  · have any : ∀ i B'', find (put bl id (Blk.fcells t x)) i = some B'' → ∃ B₀, find bl i = some B₀ := fun i B'' hf' => by
      by_cases hi : i = id
      · exact hi ▸ ⟨_, hf⟩
      · rw [find_put_other _ _ _ _ (Ne.symm hi)] at hf'; exact ⟨_, hf'⟩
    obtain ⟨_, h1'⟩ := any i B₁ h1
    obtain ⟨_, h2'⟩ := any j B₂ h2
    exact h.inj i j _ _ q q' h1' h2' hq hq' hn hn' hij

end Go.Vc
