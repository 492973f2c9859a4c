/-
  Contracts of functions: what is asked of the arguments, and what comes out; how one is proved from the function's text, and how it is used at a call.
-/
import Derived.Test.YtpnnfimacblhgaaVcq
set_option linter.unusedVariables false
set_option linter.unusedSimpArgs false
namespace Go.Vc
open Go

variable {P : Program} {X : Ctx} {w0 : World} {foot : Foot} {base : Mem} {S T : St} {E : Env} {a : Act} {w : World} {ctx : Tags}

@[reducible] def Tup (ts : List Ty) : Type := List.rec (motive := fun _ => Type) Unit (fun t _ d => t.den × d) ts

def wfs : (ts : List Ty) → Tup ts → Prop
  | [], _ => True
  | t :: ts, x => t.wf x.1 ∧ wfs ts x.2

/-- What comes out: data, or one slice of the call's own that is handed over. -/
inductive Out where
  | data (ts : List Ty)
  | row (e : Nat) (t : Ty)

def Out.tys : Out → List Ty
  | .data ts => ts
  | .row _ t => [.list t]

structure DCon where
  args : List Ty
  out : Out
  pre : Tup args → Prop
  fn : Tup args → Tup out.tys

def svOf (t : Ty) (x : t.den) : SV :=
  match t.isAgg with
  | true => .agg (flat t x)
  | false => (match flat t x with
    | [c] => .one c
    | _ => .one (.dat t x))

/-- A value of a type, symbolically: its cells. -/
def asTy (t : Ty) : SV → RM (List C)
  | .one c => (match t.isAgg with
    | true => .fail
    | false => .ret [c])
  | .agg cs => (match t.isAgg with
    | true => .ret cs
    | false => .fail)
  | _ => .fail

def VRep (F : Mem) (t : Ty) (x : t.den) (v : Value) : Prop :=
  match t.isAgg with
  | true => ∃ vs, v = .agg vs ∧ Rep F t x vs.toList
  | false => Rep F t x [v]

def VReps (F : Mem) : (ts : List Ty) → Tup ts → List Value → Prop
  | [], _, vs => vs = []
  | t :: ts, x, vs => ∃ v us, vs = v :: us ∧ VRep F t x.1 v ∧ VReps F ts x.2 us

theorem VRep.mono {F F' : Mem} (h : F.le F') {t : Ty} {x : t.den} {v : Value} (k : VRep F t x v) : VRep F' t x v := by
  unfold VRep at *
  split at k
  · obtain ⟨vs, e, k⟩ := k; exact ⟨vs, e, k.mono h⟩
  · exact k.mono h

theorem VReps.mono {F F' : Mem} (h : F.le F') : ∀ {ts : List Ty} {x : Tup ts} {vs : List Value}, VReps F ts x vs → VReps F' ts x vs
  | [], _, _, k => k
  | t :: ts, x, vs, k => by
    obtain ⟨v, us, e, k1, k2⟩ := k
    exact ⟨v, us, e, k1.mono h, k2.mono h⟩

theorem VReps.length {F : Mem} : ∀ {ts : List Ty} {x : Tup ts} {vs : List Value}, VReps F ts x vs → vs.length = ts.length
  | [], _, _, k => by have k : _ = _ := k; subst k; rfl
  | t :: ts, x, vs, k => by
    obtain ⟨v, us, e, k1, k2⟩ := k
    subst e
    simp [k2.length]

theorem VRep.wf {F : Mem} {t : Ty} {x : t.den} {v : Value} (k : VRep F t x v) : t.wf x := by
  unfold VRep at k
  split at k
  · obtain ⟨vs, e, k⟩ := k; exact k.wf
  · exact k.wf

theorem VReps.wfs {F : Mem} : ∀ {ts : List Ty} {x : Tup ts} {vs : List Value}, VReps F ts x vs → wfs ts x
  | [], _, _, _ => trivial
  | t :: ts, x, vs, k => by
    obtain ⟨v, us, e, k1, k2⟩ := k
    exact ⟨k1.wf, k2.wfs⟩

theorem svOf_rep {t : Ty} {x : t.den} {v : Value} (k : VRep E.F t x v) : SRep E (svOf t x) v := by
  unfold VRep at k
  unfold svOf
  split at k
  · obtain ⟨vs, e, k⟩ := k; exact ⟨vs, e, CReps_flat k⟩
  · rename_i h
    split
    · rename_i c hc
      have k' := CReps_flat (E := E) k
      rw [hc] at k'
      obtain ⟨u, hu, k'⟩ := one_reps k'
      cases hu
      exact k'
    · exact ⟨h, k⟩

/-! ### Arguments -/

def reifyArgs : (ts : List Ty) → List SV → RM (Tup ts × Fro)
  | [], ss => (match ss with
    | [] => .ret ((), [])
    | _ => .fail)
  | t :: ts, ss => (match ss with
    | [] => .fail
    | s :: ss => do
      let x ← reify t (← asTy t s)
      let y ← reifyArgs ts ss
      guardR (froApart x.2 y.2)
      return ((x.1, y.1), x.2 ++ y.2))

theorem reify_value {t : Ty} {s : SV} {cs : List C} {x : t.den} {fr : Fro} {v : Value} (h1 : (asTy t s).run S ctx = some cs) (h2 : (reify t cs).run S ctx = some (x, fr)) (hv : SRep E s v) (hf : Frozen S.bl E w fr) : VRep E.F t x v := by
  unfold asTy at h1
  unfold VRep
  split at h1
  · split at h1
    · cases h1
    · rename_i c hb
      cases h1
      exact reify_rep h2 ⟨v, [], rfl, hv, rfl⟩ hf
  · split at h1
    · rename_i cs' hb
      cases h1
      obtain ⟨vs, e, k⟩ := hv
      exact ⟨vs, e, reify_rep h2 k hf⟩
    · cases h1
  · cases h1

theorem reifyArgs_froOk : ∀ {ts : List Ty} {ss : List SV} {x : Tup ts} {fr : Fro}, (reifyArgs ts ss).run S ctx = some (x, fr) → FroOk S.bl fr
  | [], ss, x, fr, h => by
    unfold reifyArgs at h
    split at h
    · cases h; exact .nil
    · cases h
  | t :: ts, ss, x, fr, h => by
    unfold reifyArgs at h
    split at h
    · cases h
    · rename_i s ss'
      obtain ⟨cs, h1, h⟩ := RM.run_bind' h
      obtain ⟨y, h2, h⟩ := RM.run_bind' h
      obtain ⟨z, h3, h⟩ := RM.run_bind' h
      obtain ⟨_, h4, h⟩ := RM.run_bind' h
      cases RM.run_pure' h
      exact (reify_froOk h2).append (reifyArgs_froOk h3) (run_guardR h4)

theorem reifyArgs_rep : ∀ {ts : List Ty} {ss : List SV} {x : Tup ts} {fr : Fro} {vs : List Value}, (reifyArgs ts ss).run S ctx = some (x, fr) → SReps E ss vs → Frozen S.bl E w fr → VReps E.F ts x vs
  | [], ss, x, fr, vs, h, hv, hf => by
    unfold reifyArgs at h
    split at h
    · cases h; exact hv
    · cases h
  | t :: ts, ss, x, fr, vs, h, hv, hf => by
    unfold reifyArgs at h
    split at h
    · cases h
    · rename_i s ss'
      obtain ⟨cs, h1, h⟩ := RM.run_bind' h
      obtain ⟨y, h2, h⟩ := RM.run_bind' h
      obtain ⟨z, h3, h⟩ := RM.run_bind' h
      obtain ⟨_, h4, h⟩ := RM.run_bind' h
      cases RM.run_pure' h
      obtain ⟨v, us, rfl, k1, k2⟩ := hv
      exact ⟨v, us, rfl, reify_value h1 h2 k1 hf.left, reifyArgs_rep h3 k2 hf.right⟩

/-! ### Results -/

def Ty.flatb : Ty → Bool
  | .list _ => false
  | .pair a b => a.flatb && b.flatb
  | .ref _ => false
  | .ptr _ => false
  | .clo _ _ => false
  | _ => true

theorem Rep.flatb {F F' : Mem} : ∀ {t : Ty} {x : t.den} {vs : List Value}, t.flatb = true → Rep F t x vs → Rep F' t x vs
  | .int _, _, _, _, h => h
  | .bool, _, _, _, h => h
  | .str, _, _, _, h => h
  | .list _, _, _, hb, _ => by cases hb
  | .unit, _, _, _, h => h
  | .pair a b, _, _, hb, h => by
    have hb : (a.flatb && b.flatb) = true := hb
    simp only [Bool.and_eq_true] at hb
    obtain ⟨us, ws, h0, h1, h2⟩ := h
    exact ⟨us, ws, h0, Rep.flatb hb.1 h1, Rep.flatb hb.2 h2⟩

def resVal : (ts : List Ty) → Tup ts → List (Bool × List C)
  | [], _ => []
  | t :: ts, x => (t.isAgg, flat t x.1) :: resVal ts x.2

def dataVal (ts : List Ty) (x : Tup ts) : SV :=
  match ts, x with
  | [t], x => svOf t x.1
  | ts, x => .tup (resVal ts x)

def Out.val (id : Nat) : (o : Out) → Tup o.tys → SV
  | .data ts, x => dataVal ts x
  | .row _ t, _ => .one (.row t id)

def Out.bl (id : Nat) : (o : Out) → Tup o.tys → List (Nat × Blk)
  | .data _, _ => []
  | .row e t, x => [(id, .row false e t x.1)]

def Out.new (id : Nat) : Out → List Nat
  | .data _ => []
  | .row _ _ => [id]

/-- Nothing that comes out leads into memory that was there before. -/
def Out.free : Out → Bool
  | .data ts => ts.all Ty.flatb
  | .row _ t => t.flatb

def RepOut (F : Mem) (ts : List Ty) (x : Tup ts) (v : Value) : Prop :=
  match ts, x with
  | [t], x => VRep F t x.1 v
  | ts, x => ∃ vs, v = .tuple vs ∧ VReps F ts x vs.toList

/-- What the caller gets to see of a result. -/
def Out.Rep (F : Mem) (w w' : World) : (o : Out) → Tup o.tys → Value → Prop
  | .data ts, x, v => RepOut F ts x v
  | .row e t, x, v => ∃ p : Place, (p.nil = false → w.heap.size ≤ p.blk ∧ F p.blk = none) ∧ BRep ⟨F, fun _ => none⟩ w' p (.row false e t x.1) ∧
      ((p.nil = true ∧ v = .slice none 0 0 ∧ p.len = 0) ∨ (p.nil = false ∧ v = .slice (some ⟨p.blk, 0, none⟩) p.len p.cap ∧ p.len ≤ p.cap ∧ p.cap ≤ maxLenI))

/-- A contract that holds. -/
structure DOk (P : Program) (f : Nat) (c : DCon) : Prop where
  fn : ∃ fn code, P.funcs[f]? = some fn ∧ (fn.name == "runtime.NumGoroutine") = false ∧ fn.body = some code
  calls : ∀ (F : Mem) (w : World) (x : Tup c.args) (vs : List Value), (∀ b o, F b = some o → w.heap[b]? = some o) → VReps F c.args x vs → c.pre x →
    Calls P f vs.toArray w fun e w' => ∃ v F', e = .returned v ∧ F.le F' ∧ (∀ b o, F' b = some o → w'.heap[b]? = some o) ∧ (∀ b o, F' b = some o → F b = some o ∨ w.heap.size ≤ b) ∧
      Keep (fun _ => False) w w' ∧ c.out.Rep F' w w' (c.fn x) v

def DCon.con (c : DCon) : Con where
  run ss d := do
    let x ← reifyArgs c.args ss
    .ret { val := some (c.out.val d (c.fn x.1)), blks := (match c.out.free with
      | true => []
      | false => x.2) ++ c.out.bl d (c.fn x.1), new := c.out.new d, conds := [c.pre x.1] }

theorem VReps.go {F : Mem} {G : Mem} (hG : E.F = G) (h : F.le G) : ∀ {ts : List Ty} {x : Tup ts} {vs : List Value}, VReps F ts x vs → SRep.go E (resVal ts x) vs
  | [], _, _, k => k
  | t :: ts, x, vs, k => by
    obtain ⟨v, us, e, k1, k2⟩ := k
    refine ⟨v, us, e, ?_, k2.go hG h⟩
    have k1 := k1.mono h
    rw [← hG] at k1
    unfold VRep at k1
    cases hb : t.isAgg with
    | true =>
      rw [hb] at k1
      obtain ⟨ws, e, k⟩ := k1
      exact ⟨ws, e, CReps_flat k⟩
    | false =>
      rw [hb] at k1
      have k2 := CReps_flat (E := E) k1
      have hl := flat_length t x.1
      have h1 : t.size = 1 := by cases t <;> first | rfl | cases hb
      rw [h1] at hl
      obtain ⟨c, hc⟩ := List.length_eq_one_iff.1 hl
      rw [hc] at k2
      obtain ⟨u, hu, k2⟩ := one_reps k2
      cases hu
      exact ⟨c, hc, k2⟩

theorem RepOut.val {ts : List Ty} {x : Tup ts} {v : Value} (k : RepOut E.F ts x v) : SRep E (dataVal ts x) v := by
  unfold RepOut at k
  unfold dataVal
  split at k
  · exact svOf_rep k
  · obtain ⟨vs, rfl, k⟩ := k
    exact ⟨vs, rfl, k.go rfl (.refl _)⟩

theorem VRep.flatb {F F' : Mem} {t : Ty} {x : t.den} {v : Value} (hb : t.flatb = true) (k : VRep F t x v) : VRep F' t x v := by
  unfold VRep at *
  split at k
  · obtain ⟨vs, e, k⟩ := k; exact ⟨vs, e, k.flatb hb⟩
  · exact k.flatb hb

theorem VReps.flatb {F F' : Mem} : ∀ {ts : List Ty} {x : Tup ts} {vs : List Value}, ts.all Ty.flatb = true → VReps F ts x vs → VReps F' ts x vs
  | [], _, _, _, k => k
  | t :: ts, x, vs, hb, k => by
    simp only [List.all_cons, Bool.and_eq_true] at hb
    obtain ⟨v, us, e, k1, k2⟩ := k
    exact ⟨v, us, e, k1.flatb hb.1, k2.flatb hb.2⟩

theorem RepOut.flatb {F F' : Mem} {ts : List Ty} {x : Tup ts} {v : Value} (hb : ts.all Ty.flatb = true) (k : RepOut F ts x v) : RepOut F' ts x v := by
  unfold RepOut at *
  split at k
  · simp only [List.all_cons, List.all_nil, Bool.and_true] at hb
    exact k.flatb hb
  · obtain ⟨vs, e, k⟩ := k; exact ⟨vs, e, k.flatb hb⟩

/-- A world in which nothing old has changed, and more memory that nobody changes. -/
theorem HRel.later {bl : List (Nat × Blk)} {used : List Nat} (h : HRel w0 foot base bl used E w) {w' : World} (hk : Keep (fun _ => False) w w') {F : Mem} (hF : E.F.le F) (hfrz : ∀ b o, F b = some o → w'.heap[b]? = some o)
    (hsrc : ∀ b o, F b = some o → E.F b = some o ∨ w.heap.size ≤ b) : HRel w0 foot base bl used { E with F := F } w' := by
  have hle : E.le { E with F := F } := ⟨hF, fun _ _ h => h⟩
  have hbrep : ∀ id B p, find bl id = some B → E.place id = some p → BRep E w p B := fun id B p hf hp => by
    obtain ⟨q, hq, k⟩ := h.blks id B hf
    rw [hp] at hq
    cases hq
    exact k
  refine ⟨h.keep.trans ⟨hk.os, hk.tape, hk.output, hk.size, fun k hk' _ => hk.block k hk' (fun h => h)⟩, hfrz, fun b o hb => ?_, fun id B hf => ?_, fun id B p hf hp hn => ?_, h.inj, h.used⟩
  · rcases hsrc b o hb with h1 | h1
    · exact h.src b o h1
    · exact .inr (.inl (Nat.le_trans h.keep.size h1))
  · obtain ⟨p, hp, k⟩ := h.blks id B hf
    exact ⟨p, hp, (k.mono hle).world fun hn => hk.block _ (k.lt hn) (fun h => h)⟩
  · refine ⟨(h.own id B p hf hp hn).1, fun hm => ?_⟩
    show F p.blk = none
    cases hf' : F p.blk with
    | none => rfl
    | some o =>
      rcases hsrc _ _ hf' with h1 | h1
      · rw [(h.own id B p hf hp hn).2 hm] at h1; cases h1
      · have := (hbrep id B p hf hp).lt hn; omega

/-- A new block of a callee's. -/
theorem HRel.adopt {bl : List (Nat × Blk)} {used : List Nat} (h : HRel w0 foot base bl used E w) {d : Nat} {p : Place} {B : Blk} (hd : d ∉ used)
    (hp : p.nil = false → w0.heap.size ≤ p.blk ∧ E.F p.blk = none ∧ ∀ i B' q, find bl i = some B' → E.place i = some q → q.nil = false → q.blk ≠ p.blk)
    (hB : BRep (E.new d p) w p B) : HRel w0 foot base (put bl d B) (d :: used) (E.new d p) w := by
  cases hn : p.nil with
  | true => exact h.nilrow hd hn hB
  | false =>
    obtain ⟨h1, h2, h3⟩ := hp hn
    have hlt := hB.lt hn
    obtain ⟨o, ho⟩ : ∃ o, w.heap[p.blk]? = some o := ⟨_, Array.getElem?_eq_getElem hlt⟩
    have hw : setBlk w p.blk o = w := by
      unfold setBlk
      have : w.heap.setIfInBounds p.blk o = w.heap := by
        apply Array.ext_getElem?
        intro i
        by_cases hi : p.blk = i
        · subst hi; rw [Array.getElem?_setIfInBounds_self_of_lt hlt, ho]
        · rw [Array.getElem?_setIfInBounds_ne hi]
      rw [this]
    have := h.attach (o := o) hd hn rfl hlt (.inl h1) h2 h3 (by rw [hw]; exact hB)
    rw [hw] at this
    exact this

theorem SReps.mono {E E' : Env} (h : E.le E') : ∀ {ss : List SV} {vs : List Value}, SReps E ss vs → SReps E' ss vs
  | [], _, k => k
  | s :: ss, _, k => by
    obtain ⟨v, us, e, k1, k2⟩ := k
    exact ⟨v, us, e, k1.mono h, k2.mono h⟩

theorem Out.Rep.free {F F2 : Mem} {w w' : World} {o : Out} {y : Tup o.tys} {v : Value} (hf : o.free = true) (h2 : ∀ b, w.heap.size ≤ b → F2 b = none) (k : o.Rep F w w' y v) : o.Rep F2 w w' y v := by
  cases o with
  | data ts => exact RepOut.flatb hf k
  | row e t =>
    obtain ⟨p, k1, k2, k3⟩ := k
    refine ⟨p, fun hn => ⟨(k1 hn).1, h2 _ (k1 hn).1⟩, ?_, k3⟩
    rcases k2 with k2 | ⟨hn, h0, h1, vs, h3, h4, h5, h6⟩
    · exact .inl k2
    · refine .inr ⟨hn, h0, h1, vs, h3, h4, fun h => (by cases h), fun i x hx => ?_⟩
      obtain ⟨us, q1, q2⟩ := h6 i x hx
      exact ⟨us, q1.flatb hf, q2⟩

theorem Out.Rep.after {bl : List (Nat × Blk)} {used : List Nat} {w w' : World} {o : Out} {y : Tup o.tys} {v : Value} {d : Nat} (hR : HRel w0 foot base bl used E w') (hd : ∀ i ∈ o.new d, i ∉ used) (hsz : w0.heap.size ≤ w.heap.size)
    (hold : ∀ i B q, find bl i = some B → E.place i = some q → q.nil = false → q.blk < w.heap.size) (k : o.Rep E.F w w' y v) :
    ∃ E', E.le E' ∧ HRel w0 foot base (applyBl { blks := o.bl d y } bl) (o.new d ++ used) E' w' ∧ SRep E' (o.val d y) v := by
  cases o with
  | data ts => exact ⟨E, .refl _, hR, RepOut.val k⟩
  | row e t =>
    obtain ⟨p, k1, k2, k3⟩ := k
    have hdu : d ∉ used := hd d (List.mem_singleton.2 rfl)
    have hnone : E.place d = none := by
      cases he : E.place d with
      | none => rfl
      | some q => exact absurd (hR.used d q he) hdu
    have hle := Env.new_le (p := p) hnone
    refine ⟨E.new d p, hle, ?_, ⟨p, Env.new_same, k3⟩⟩
    refine hR.adopt hdu (fun hn => ⟨Nat.le_trans hsz (k1 hn).1, (k1 hn).2, fun i B' q hf hq hqn => ?_⟩) (k2.mono ⟨.refl _, fun _ _ h => by cases h⟩)
    have := hold i B' q hf hq hqn
    have := (k1 hn).1
    omega

theorem applyBl_append (A B : List (Nat × Blk)) (bl : List (Nat × Blk)) (r : List Nat) (v : Option SV) (cs : List Prop) : applyBl { val := v, blks := A ++ B, new := r, conds := cs } bl = applyBl { blks := B } (applyFro A bl) := by
  simp [applyBl, applyFro]

theorem DOk.con {f : Nat} {c : DCon} (hc : DOk P f c) : ConOk P f c.con where
  fn := hc.fn
  calls w0 foot base S ctx E w args vs d r h hv hr hcond hnew := by
    obtain ⟨⟨x, fr⟩, h1, hr⟩ := RM.run_bind' hr
    cases RM.run_pure' hr
    have hpre : c.pre x := hcond _ (List.mem_singleton.2 rfl)
    have ho := reifyArgs_froOk h1
    obtain ⟨E2, hle, hpl, hsrc, hR2⟩ := h.applyFro ho
    have hfro := Frozen.of_apply ho hR2
    have hx := reifyArgs_rep h1 (hv.mono hle) hfro
    refine (hc.calls E2.F w x vs hR2.frz hx hpre).mono fun e w' => ?_
    rintro ⟨v, F', rfl, hF, hfrz, hsrc', hk, hout⟩
    have holdS : ∀ {bl used E}, HRel w0 foot base bl used E w → ∀ i B q, find bl i = some B → E.place i = some q → q.nil = false → q.blk < w.heap.size := fun hH i B q hf hq hn => by
      obtain ⟨q', hq', k⟩ := hH.blks i B hf
      rw [hq] at hq'
      cases hq'
      exact k.lt hn
    have fin : ∀ {A : List (Nat × Blk)} {E3 : Env}, E.le E3 → HRel w0 foot base (applyFro A S.bl) S.used E3 w' → (∀ i B q, find (applyFro A S.bl) i = some B → E3.place i = some q → q.nil = false → q.blk < w.heap.size) → c.out.Rep E3.F w w' (c.fn x) v →
        ∃ v' E', Ending.returned v = .returned v' ∧ After w0 foot base S.bl S.used E { val := some (c.out.val d (c.fn x)), blks := A ++ c.out.bl d (c.fn x), new := c.out.new d, conds := [c.pre x] } E' w' v' := fun {A E3} hle3 hR3 hold3 hout3 => by
      obtain ⟨E', q1, q2, q3⟩ := Out.Rep.after hR3 hnew h.keep.size hold3 hout3
      exact ⟨v, E', rfl, hle3.trans q1, by rw [applyBl_append]; exact q2, q3⟩
    cases hfree : c.out.free with
    | true =>
      have hR3 : HRel w0 foot base S.bl S.used E w' := h.later hk (.refl _) (fun b o hb => (hk.block b (heap_lt (h.frz b o hb)) (fun h => h)).trans (h.frz b o hb)) (fun b o hb => .inl hb)
      refine fin (A := []) (.refl _) hR3 (holdS h) (hout.free hfree fun b hb => ?_)
      cases he : E.F b with
      | none => rfl
      | some o => have := heap_lt (h.frz _ _ he); omega
    | false =>
      exact fin (A := fr) (E3 := { E2 with F := F' }) (hle.trans ⟨hF, fun _ _ h => h⟩) (hR2.later hk hF hfrz hsrc') (fun i B q hf hq hn => holdS hR2 i B q hf hq hn) hout

end Go.Vc
