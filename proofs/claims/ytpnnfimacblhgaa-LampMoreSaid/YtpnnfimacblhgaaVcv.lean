/-
  A call that is handed variables and slices of the caller's own: what the caller's state is behind it.
-/
import Derived.Test.YtpnnfimacblhgaaVcu
set_option linter.unusedVariables false
set_option linter.unusedSimpArgs false
namespace Go.Vc
open Go

variable {P : Program} {X : Ctx} {w0 : World} {foot : Foot} {base : Mem} {S T : St} {E : Env} {a : Act} {w : World} {ctx : Tags}

def putAll (l : List (Nat × Blk)) (bl : List (Nat × Blk)) : List (Nat × Blk) := l.foldl (fun l p => put l p.1 p.2) bl

theorem find_putAll : ∀ {l bl : List (Nat × Blk)} {i : Nat} {B : Blk}, find (putAll l bl) i = some B → (i, B) ∈ l ∨ (i ∉ l.map (·.1) ∧ find bl i = some B)
  | [], _, _, _, h => .inr ⟨by simp, h⟩
  | (n, D) :: l, bl, i, B, h => by
    rcases find_putAll (l := l) h with h | ⟨h1, h2⟩
    · exact .inl (List.mem_cons_of_mem _ h)
    · by_cases e : n = i
      · subst e
        rw [find_put_same] at h2
        cases h2
        exact .inl List.mem_cons_self
      · rw [find_put_other _ _ _ _ e] at h2
        exact .inr ⟨fun h => (List.mem_cons.1 h).elim (fun h => e h.symm) h1, h2⟩

theorem find_remAll {α : Type} : ∀ {L : List Nat} {bl : List (Nat × α)} {i : Nat} {B : α}, find (L.foldl rem bl) i = some B → find bl i = some B ∧ i ∉ L
  | [], _, _, _, h => ⟨h, by simp⟩
  | n :: L, bl, i, B, h => by
    obtain ⟨h1, h2⟩ := find_remAll (L := L) h
    obtain ⟨h3, h4⟩ := find_rem_some h1
    exact ⟨h3, fun h => (List.mem_cons.1 h).elim (fun h => h4 h.symm) h2⟩

theorem find_remAll_keep {α : Type} : ∀ {L : List Nat} {bl : List (Nat × α)} {i : Nat}, i ∉ L → find (L.foldl rem bl) i = find bl i
  | [], _, _, _ => rfl
  | n :: L, bl, i, h => by
    simp only [List.mem_cons, not_or] at h
    show find (L.foldl rem (rem bl n)) i = _
    rw [find_remAll_keep h.2, find_rem_other _ _ _ (Ne.symm h.1)]

/-- The places of some blocks of the call's own. -/
def ownBlk (L : List Nat) (E : Env) (b : Nat) : Prop := ∃ n ∈ L, ∃ p, E.place n = some p ∧ p.nil = false ∧ p.blk = b

def Env.rebind (E : Env) (F' : Mem) (bd : List (Nat × Place)) : Env := { F := F', place := fun i => match find bd i with
  | some p => some p
  | none => E.place i }

/-- Blocks are given away; others, or the same with another content, come back. -/
theorem HRel.swap {bl : List (Nat × Blk)} {used : List Nat} (h : HRel w0 foot base bl used E w) {L : List Nat} (hL : ∀ n ∈ L, ∃ B, find bl n = some B ∧ B.mut = true) {w' : World} {F' : Mem} {NB : List (Nat × Blk)} {fresh : List Nat} {bd : List (Nat × Place)}
    (hF : E.F.le F') (hfrz : ∀ b o, F' b = some o → w'.heap[b]? = some o) (hsrc : ∀ b o, F' b = some o → E.F b = some o ∨ w.heap.size ≤ b ∨ ownBlk L E b) (hkeep : Keep (ownBlk L E) w w')
    (hfresh : ∀ i ∈ fresh, i ∉ used) (hbd : ∀ i p, find bd i = some p → i ∈ fresh ∨ E.place i = some p)
    (hkey : ∀ i B, (i, B) ∈ NB → i ∈ L ∨ i ∈ fresh)
    (hNB : ∀ i B, (i, B) ∈ NB → ∃ p, (E.rebind F' bd).place i = some p ∧ BRep (E.rebind F' bd) w' p B ∧ (p.nil = false → (ownBlk L E p.blk ∨ w.heap.size ≤ p.blk) ∧ F' p.blk = none))
    (hinj : ∀ i B j D p q, (i, B) ∈ NB → (j, D) ∈ NB → i ≠ j → (E.rebind F' bd).place i = some p → (E.rebind F' bd).place j = some q → p.nil = false → q.nil = false → p.blk ≠ q.blk) :
    E.le (E.rebind F' bd) ∧ HRel w0 foot base (putAll NB (L.foldl rem bl)) (fresh ++ used) (E.rebind F' bd) w' := by
  have hle : E.le (E.rebind F' bd) := ⟨hF, fun i p hp => by
    show (match find bd i with | some p => some p | none => E.place i) = some p
    split
    · rename_i q hq
      rcases hbd i q hq with hi | hi
      · exact absurd (h.used i p hp) (hfresh i hi)
      · rw [hp] at hi; exact hi.symm
    · exact hp⟩
  -- what is old and stays
  have old : ∀ i B, i ∉ L → find bl i = some B → ∃ p, E.place i = some p ∧ BRep E w p B ∧ (E.rebind F' bd).place i = some p ∧ (p.nil = false → p.blk < w.heap.size ∧ ¬ ownBlk L E p.blk) := fun i B hi hf => by
    obtain ⟨p, hp, hB⟩ := h.blks i B hf
    refine ⟨p, hp, hB, hle.place _ _ hp, fun hn => ⟨hB.lt hn, ?_⟩⟩
    rintro ⟨n, hnL, q, hq, hqn, hqb⟩
    obtain ⟨D, hD, _⟩ := hL n hnL
    exact h.inj i n B D p q hf hD hp hq hn hqn (fun e => hi (e ▸ hnL)) hqb.symm
  have ownFoot : ∀ b, ownBlk L E b → w0.heap.size ≤ b ∨ foot b := fun b ⟨n, hnL, q, hq, hqn, hqb⟩ => by
    obtain ⟨D, hD, _⟩ := hL n hnL
    rw [← hqb]
    exact (h.own n D q hD hq hqn).1
  have fnd : ∀ i B, find (putAll NB (L.foldl rem bl)) i = some B → (i, B) ∈ NB ∨ (i ∉ L ∧ find bl i = some B) := fun i B hf => by
    rcases find_putAll hf with hf | ⟨_, hf⟩
    · exact .inl hf
    · obtain ⟨h1, h2⟩ := find_remAll hf
      exact .inr ⟨h2, h1⟩
  refine ⟨hle, ⟨⟨hkeep.os.trans h.keep.os, hkeep.tape.trans h.keep.tape, hkeep.output.trans h.keep.output, Nat.le_trans h.keep.size hkeep.size, fun k hk hfk => ?_⟩, hfrz, fun b o hb => ?_, fun i B hf => ?_, fun i B p hf hp hn => ?_, fun i j B D p q hf hf' hp hq hn hn' hij => ?_, fun i p hp => ?_⟩⟩
  · rw [hkeep.block k (Nat.lt_of_lt_of_le hk h.keep.size) fun ho => ?_]
    · exact h.keep.block k hk hfk
    · rcases ownFoot k ho with h1 | h1
      · omega
      · exact hfk h1
  · rcases hsrc b o hb with h1 | h1 | h1
    · exact h.src b o h1
    · exact .inr (.inl (Nat.le_trans h.keep.size h1))
    · exact .inr (ownFoot b h1)
  · rcases fnd i B hf with hf | ⟨hi, hf⟩
    · obtain ⟨p, h1, h2, _⟩ := hNB i B hf
      exact ⟨p, h1, h2⟩
    · obtain ⟨p, h1, h2, h3, h4⟩ := old i B hi hf
      exact ⟨p, h3, (h2.mono hle).world fun hn => hkeep.block _ (h4 hn).1 (h4 hn).2⟩
  · rcases fnd i B hf with hf | ⟨hi, hf⟩
    · obtain ⟨p', h1, h2, h3⟩ := hNB i B hf
      rw [hp] at h1
      cases h1
      obtain ⟨h4, h5⟩ := h3 hn
      refine ⟨?_, fun _ => h5⟩
      rcases h4 with h4 | h4
      · exact ownFoot _ h4
      · exact .inl (Nat.le_trans h.keep.size h4)
    · obtain ⟨p', h1, h2, h3, h4⟩ := old i B hi hf
      rw [hp] at h3
      cases h3
      obtain ⟨k1, k2⟩ := h.own i B p hf h1 hn
      refine ⟨k1, fun hm => ?_⟩
      have hno := k2 hm
      cases hF' : F' p.blk with
      | none => exact hF'
      | some o =>
        rcases hsrc _ _ hF' with g | g | g
        · rw [hno] at g; cases g
        · have := (h4 hn).1; omega
        · exact absurd g (h4 hn).2
  · have cross : ∀ i B j D p q, (i, B) ∈ NB → j ∉ L → find bl j = some D → (E.rebind F' bd).place i = some p → (E.rebind F' bd).place j = some q → p.nil = false → q.nil = false → p.blk ≠ q.blk := fun i B j D p q hb hj hf hp hq hn hn' e => by
      obtain ⟨p', h1, _, h3⟩ := hNB i B hb
      rw [hp] at h1
      cases h1
      obtain ⟨q', g1, _, g3, g4⟩ := old j D hj hf
      rw [hq] at g3
      cases g3
      rcases (h3 hn).1 with h4 | h4
      · exact (g4 hn').2 (e ▸ h4)
      · have := (g4 hn').1; omega
    rcases fnd i B hf with hf | ⟨hi, hf⟩
    · rcases fnd j D hf' with hf' | ⟨hj, hf'⟩
      · exact hinj i B j D p q hf hf' hij hp hq hn hn'
      · exact cross i B j D p q hf hj hf' hp hq hn hn'
    · rcases fnd j D hf' with hf' | ⟨hj, hf'⟩
      · exact Ne.symm (cross j D i B q p hf' hi hf hq hp hn' hn)
      · obtain ⟨p', h1, _, h3, _⟩ := old i B hi hf
        rw [hp] at h3
        cases h3
        obtain ⟨q', g1, _, g3, _⟩ := old j D hj hf'
        rw [hq] at g3
        cases g3
        exact h.inj i j B D p q hf hf' h1 g1 hn hn' hij
  · have hp : (match find bd i with | some p => some p | none => E.place i) = some p := hp
    split at hp
    · rename_i q hq
      rcases hbd i q hq with hi | hi
      · exact List.mem_append_left _ hi
      · exact List.mem_append_right _ (h.used i q hi)
    · exact List.mem_append_right _ (h.used i p hp)

/-! ### Arguments and results as one tree -/

def argTy : List OTy → OTy
  | [] => .unit
  | o :: os => .pair o (argTy os)

def vcells (vs : List Value) : List Value := vs.flatMap fun v => v.cells.toList

def Shape : List OTy → List Value → Prop
  | [], vs => vs = []
  | o :: os, vs => ∃ v us, vs = v :: us ∧ (match o.isAgg with
    | true => ∃ ws, v = .agg ws ∧ ws.size = o.size
    | false => v.cells = #[v] ∧ o.size = 1) ∧ Shape os us

theorem Shape.length : ∀ {os : List OTy} {vs : List Value}, Shape os vs → vs.length = os.length
  | [], vs, h => by have h : _ = _ := h; subst h; rfl
  | o :: os, vs, h => by obtain ⟨v, us, rfl, _, h⟩ := h; simp [h.length]

/-- An argument's cells, from its symbolic value. -/
def svCell (o : OTy) : SV → RM (List C)
  | .one c => (match o.isAgg with
    | true => .fail
    | false => (match Nat.beq o.size 1 with
      | true => .ret [c]
      | false => .fail))
  | .agg cs => (match o.isAgg && Nat.beq cs.length o.size with
    | true => .ret cs
    | false => .fail)
  | _ => .fail

def svCells : List OTy → List SV → RM (List C)
  | [], ss => (match ss with
    | [] => .ret []
    | _ => .fail)
  | o :: os, ss => (match ss with
    | [] => .fail
    | s :: ss => do
      let cs ← svCell o s
      let ds ← svCells os ss
      return (cs ++ ds))

theorem svCells_rep : ∀ {os : List OTy} {ss : List SV} {cs : List C} {vs : List Value}, (svCells os ss).run S ctx = some cs → SReps E ss vs → CReps E cs (vcells vs) ∧ Shape os vs
  | [], ss, cs, vs, hr, hv => by
    unfold svCells at hr
    split at hr
    · cases hr
      have hv : vs = [] := hv
      subst hv
      exact ⟨rfl, rfl⟩
    · cases hr
  | o :: os, ss, cs, vs, hr, hv => by
    unfold svCells at hr
    split at hr
    · cases hr
    · rename_i s ss'
      obtain ⟨c1, h1, hr⟩ := RM.run_bind' hr
      obtain ⟨c2, h2, hr⟩ := RM.run_bind' hr
      cases RM.run_pure' hr
      obtain ⟨v, us, rfl, k1, k2⟩ := hv
      obtain ⟨g1, g2⟩ := svCells_rep h2 k2
      have key : CReps E c1 v.cells.toList ∧ (match o.isAgg with | true => ∃ ws, v = .agg ws ∧ ws.size = o.size | false => v.cells = #[v] ∧ o.size = 1) := by
        unfold svCell at h1
        split at h1
        · rename_i c
          split at h1
          · cases h1
          · rename_i hb
            split at h1
            · rename_i hs
              cases h1
              have hv1 : CRep E c v := k1
              rw [Value.cells_one hv1.oneCell]
              exact ⟨⟨v, [], rfl, hv1, rfl⟩, rfl, Nat.eq_of_beq_eq_true hs⟩
            · cases h1
        · rename_i ds
          split at h1
          · rename_i hb
            cases h1
            simp only [Bool.and_eq_true] at hb
            obtain ⟨ws, rfl, k⟩ := k1
            rw [hb.1]
            refine ⟨k, ws, rfl, ?_⟩
            have := k.length
            rw [Nat.eq_of_beq_eq_true hb.2] at this
            simpa using this
          · cases h1
        · cases h1
      refine ⟨?_, v, us, rfl, key.2, g2⟩
      simp only [vcells, List.flatMap_cons]
      exact key.1.append g1

/-- Arguments out of their cells: a state's slots. -/
def svO (o : OTy) (cs : List C) : SV :=
  match o.isAgg with
  | true => .agg cs
  | false => (match cs with
    | [c] => .one c
    | _ => .agg cs)

def svOs : List OTy → List C → List SV
  | [], _ => []
  | o :: os, cs => svO o (cs.take o.size) :: svOs os (cs.drop o.size)

theorem svOs_rep : ∀ {os : List OTy} {cs : List C} {vs : List Value}, CReps E cs (vcells vs) → Shape os vs → SReps E (svOs os cs) vs
  | [], cs, vs, hc, hs => by have hs : vs = [] := hs; subst hs; rfl
  | o :: os, cs, vs, hc, hs => by
    obtain ⟨v, us, rfl, h1, h2⟩ := hs
    simp only [vcells, List.flatMap_cons] at hc
    have hsz : v.cells.toList.length = o.size := by
      cases hb : o.isAgg with
      | true => rw [hb] at h1; obtain ⟨ws, rfl, e⟩ := h1; simpa [Value.cells] using e
      | false => rw [hb] at h1; rw [h1.1, h1.2]; rfl
    have c1 : CReps E (cs.take o.size) v.cells.toList := by
      have := hc.take o.size
      rwa [List.take_left' hsz] at this
    have c2 : CReps E (cs.drop o.size) (vcells us) := by
      have := hc.drop o.size
      rwa [List.drop_left' hsz] at this
    refine ⟨v, us, rfl, ?_, svOs_rep c2 h2⟩
    unfold svO
    cases hb : o.isAgg with
    | true => rw [hb] at h1; obtain ⟨ws, rfl, e⟩ := h1; exact ⟨ws, rfl, c1⟩
    | false =>
      rw [hb] at h1
      have hl := c1.length
      rw [h1.1] at c1 hl
      simp only [List.length_cons, List.length_nil] at hl
      obtain ⟨c, hc1⟩ := List.length_eq_one_iff.1 hl.symm
      rw [hc1] at c1 ⊢
      obtain ⟨u, hu, c1⟩ := one_reps c1
      cases hu
      exact c1

end Go.Vc
