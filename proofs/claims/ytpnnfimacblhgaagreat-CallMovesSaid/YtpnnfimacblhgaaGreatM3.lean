/-
  A call that is handed variables and slices of the caller's own: what the caller's state is behind it; Contracts over owned data, and how one is used at a call; Contracts over owned data, second part: what is promised, and what a caller gets; A function's own verification condition over owned data, and that it gives the contract; What a reading of the arguments tells: the data that lie in memory; The types of the seat, and that the table is right; Contracts of the reference's plans (chapters 1 to 6), as far as they are reached; Annotations of the reference's plans; Plain facts about numbers, rows and counting, for the proofs of written-out conditions; The reference's plans, small functions: written out and proved; The reference's check of plans: written out and proved.
-/
import Derived.Test.YtpnnfimacblhgaaGreatM2
import Derived.WideShapes
import Derived.ChangeSame
import Derived.Test.YtpnnfimacblhgaaGreatProg
import Derived.KernelRfl
import Derived.IntWalk

section
set_option linter.unusedVariables false
set_option linter.unusedSimpArgs false
namespace Go.Vc
open Go
variable {P : Program} {X : Ctx} {w0 : World} {foot : Foot} {base : Mem} {S T : St} {E : Env} {a : Act} {w : World} {ctx : Tags}
def putAll (l : List (Nat × Blk)) (bl : List (Nat × Blk)) : List (Nat × Blk) := l.foldl (fun l p => put l p.1 p.2) bl
theorem find_putAll : ∀ {l bl : List (Nat × Blk)} {i : Nat} {B : Blk}, find (putAll l bl) i = some B → (i, B) ∈ l ∨ (i ∉ l.map (·.1) ∧ find bl i = some B)
 | [], _, _, _, h => .inr ⟨by simp, h⟩
 | (n, D) :: l, bl, i, B, h => by
  rcases find_putAll (l := l) h with h | ⟨h1, h2⟩
  ·exact .inl (List.mem_cons_of_mem _ h)
  ·by_cases e : n = i
   ·subst e
    rw [find_put_same] at h2
    cases h2
    exact .inl List.mem_cons_self
   ·rw [find_put_other _ _ _ _ e] at h2
    exact .inr ⟨fun h => (List.mem_cons.1 h).elim (fun h => e h.symm) h1, h2⟩
theorem find_remAll {α : Type} : ∀ {L : List Nat} {bl : List (Nat × α)} {i : Nat} {B : α}, find (L.foldl rem bl) i = some B → find bl i = some B ∧ i ∉ L
 | [], _, _, _, h => ⟨h, by simp⟩
 | n :: L, bl, i, B, h => by
  obtain ⟨h1, h2⟩ := find_remAll (L := L) h
  obtain ⟨h3, h4⟩ := find_rem_some h1
  exact ⟨h3, fun h => (List.mem_cons.1 h).elim (fun h => h4 h.symm) h2⟩
theorem find_remAll_keep {α : Type} : ∀ {L : List Nat} {bl : List (Nat × α)} {i : Nat}, i ∉ L → find (L.foldl rem bl) i = find bl i
 | [], _, _, _ => rfl
 | n :: L, bl, i, h => by
  simp only [List.mem_cons, not_or] at h
  show find (L.foldl rem (rem bl n)) i = _
  rw [find_remAll_keep h.2, find_rem_other _ _ _ (Ne.symm h.1)]
def ownBlk (L : List Nat) (E : Env) (b : Nat) : Prop := ∃ n ∈ L, ∃ p, E.place n = some p ∧ p.nil = false ∧ p.blk = b
def Env.rebind (E : Env) (F' : Mem) (bd : List (Nat × Place)) : Env := { F := F', place := fun i => match find bd i with
 | some p => some p
 | none => E.place i }
theorem HRel.swap {bl : List (Nat × Blk)} {used : List Nat} (h : HRel w0 foot base bl used E w) {L : List Nat} (hL : ∀ n ∈ L, ∃ B, find bl n = some B ∧ B.mut = true) {w' : World} {F' : Mem} {NB : List (Nat × Blk)} {fresh : List Nat} {bd : List (Nat × Place)}
  (hF : E.F.le F') (hfrz : ∀ b o, F' b = some o → w'.heap[b]? = some o) (hsrc : ∀ b o, F' b = some o → E.F b = some o ∨ w.heap.size ≤ b ∨ ownBlk L E b) (hkeep : Keep (ownBlk L E) w w')
  (hfresh : ∀ i ∈ fresh, i ∉ used) (hbd : ∀ i p, find bd i = some p → i ∈ fresh ∨ E.place i = some p)
  (hkey : ∀ i B, (i, B) ∈ NB → i ∈ L ∨ i ∈ fresh)
  (hNB : ∀ i B, (i, B) ∈ NB → ∃ p, (E.rebind F' bd).place i = some p ∧ BRep (E.rebind F' bd) w' p B ∧ (p.nil = false → (ownBlk L E p.blk ∨ w.heap.size ≤ p.blk) ∧ F' p.blk = none))
  (hinj : ∀ i B j D p q, (i, B) ∈ NB → (j, D) ∈ NB → i ≠ j → (E.rebind F' bd).place i = some p → (E.rebind F' bd).place j = some q → p.nil = false → q.nil = false → p.blk ≠ q.blk) :
  E.le (E.rebind F' bd) ∧ HRel w0 foot base (putAll NB (L.foldl rem bl)) (fresh ++ used) (E.rebind F' bd) w' := by
 have hle : E.le (E.rebind F' bd) := ⟨hF, fun i p hp => by
  show (match find bd i with | some p => some p | none => E.place i) = some p
  split
  ·rename_i q hq
   rcases hbd i q hq with hi | hi
   ·exact absurd (h.used i p hp) (hfresh i hi)
   ·rw [hp] at hi; exact hi.symm
  ·exact hp⟩
 have old : ∀ i B, i ∉ L → find bl i = some B → ∃ p, E.place i = some p ∧ BRep E w p B ∧ (E.rebind F' bd).place i = some p ∧ (p.nil = false → p.blk < w.heap.size ∧ ¬ ownBlk L E p.blk) := fun i B hi hf => by
  obtain ⟨p, hp, hB⟩ := h.blks i B hf
  refine ⟨p, hp, hB, hle.place _ _ hp, fun hn => ⟨hB.lt hn, ?_⟩⟩
  rintro ⟨n, hnL, q, hq, hqn, hqb⟩
  obtain ⟨D, hD, _⟩ := hL n hnL
  exact h.inj i n B D p q hf hD hp hq hn hqn (fun e => hi (e ▸ hnL)) hqb.symm
 have ownFoot : ∀ b, ownBlk L E b → w0.heap.size ≤ b ∨ foot b := fun b ⟨n, hnL, q, hq, hqn, hqb⟩ => by
  obtain ⟨D, hD, _⟩ := hL n hnL
  rw [← hqb]
  exact (h.own n D q hD hq hqn).1
 have fnd : ∀ i B, find (putAll NB (L.foldl rem bl)) i = some B → (i, B) ∈ NB ∨ (i ∉ L ∧ find bl i = some B) := fun i B hf => by
  rcases find_putAll hf with hf | ⟨_, hf⟩
  ·exact .inl hf
  ·obtain ⟨h1, h2⟩ := find_remAll hf
   exact .inr ⟨h2, h1⟩
 refine ⟨hle, ⟨⟨hkeep.os.trans h.keep.os, hkeep.tape.trans h.keep.tape, hkeep.output.trans h.keep.output, Nat.le_trans h.keep.size hkeep.size, fun k hk hfk => ?_⟩, hfrz, fun b o hb => ?_, fun i B hf => ?_, fun i B p hf hp hn => ?_, fun i j B D p q hf hf' hp hq hn hn' hij => ?_, fun i p hp => ?_⟩⟩
 ·rw [hkeep.block k (Nat.lt_of_lt_of_le hk h.keep.size) fun ho => ?_]
  ·exact h.keep.block k hk hfk
  ·rcases ownFoot k ho with h1 | h1
   ·omega
   ·exact hfk h1
 ·rcases hsrc b o hb with h1 | h1 | h1
  ·exact h.src b o h1
  ·exact .inr (.inl (Nat.le_trans h.keep.size h1))
  ·exact .inr (ownFoot b h1)
 ·rcases fnd i B hf with hf | ⟨hi, hf⟩
  ·obtain ⟨p, h1, h2, _⟩ := hNB i B hf
   exact ⟨p, h1, h2⟩
  ·obtain ⟨p, h1, h2, h3, h4⟩ := old i B hi hf
   exact ⟨p, h3, (h2.mono hle).world fun hn => hkeep.block _ (h4 hn).1 (h4 hn).2⟩
 ·rcases fnd i B hf with hf | ⟨hi, hf⟩
  ·obtain ⟨p', h1, h2, h3⟩ := hNB i B hf
   rw [hp] at h1
   cases h1
   obtain ⟨h4, h5⟩ := h3 hn
   refine ⟨?_, fun _ => h5⟩
   rcases h4 with h4 | h4
   ·exact ownFoot _ h4
   ·exact .inl (Nat.le_trans h.keep.size h4)
  ·obtain ⟨p', h1, h2, h3, h4⟩ := old i B hi hf
   rw [hp] at h3
   cases h3
   obtain ⟨k1, k2⟩ := h.own i B p hf h1 hn
   refine ⟨k1, fun hm => ?_⟩
   have hno := k2 hm
   cases hF' : F' p.blk with
   | none => exact hF'
   | some o =>
    rcases hsrc _ _ hF' with g | g | g
    ·rw [hno] at g; cases g
    ·have := (h4 hn).1; omega
    ·exact absurd g (h4 hn).2
 ·have cross : ∀ i B j D p q, (i, B) ∈ NB → j ∉ L → find bl j = some D → (E.rebind F' bd).place i = some p → (E.rebind F' bd).place j = some q → p.nil = false → q.nil = false → p.blk ≠ q.blk := fun i B j D p q hb hj hf hp hq hn hn' e => by
   obtain ⟨p', h1, _, h3⟩ := hNB i B hb
   rw [hp] at h1
   cases h1
   obtain ⟨q', g1, _, g3, g4⟩ := old j D hj hf
   rw [hq] at g3
   cases g3
   rcases (h3 hn).1 with h4 | h4
   ·exact (g4 hn').2 (e ▸ h4)
   ·have := (g4 hn').1; omega
  rcases fnd i B hf with hf | ⟨hi, hf⟩
  ·rcases fnd j D hf' with hf' | ⟨hj, hf'⟩
   ·exact hinj i B j D p q hf hf' hij hp hq hn hn'
   ·exact cross i B j D p q hf hj hf' hp hq hn hn'
  ·rcases fnd j D hf' with hf' | ⟨hj, hf'⟩
   ·exact Ne.symm (cross j D i B q p hf' hi hf hq hp hn' hn)
   ·obtain ⟨p', h1, _, h3, _⟩ := old i B hi hf
    rw [hp] at h3
    cases h3
    obtain ⟨q', g1, _, g3, _⟩ := old j D hj hf'
    rw [hq] at g3
    cases g3
    exact h.inj i j B D p q hf hf' h1 g1 hn hn' hij
 ·have hp : (match find bd i with | some p => some p | none => E.place i) = some p := hp
  split at hp
  ·rename_i q hq
   rcases hbd i q hq with hi | hi
   ·exact List.mem_append_left _ hi
   ·exact List.mem_append_right _ (h.used i q hi)
  ·exact List.mem_append_right _ (h.used i p hp)
def argTy : List OTy → OTy
 | [] => .unit
 | o :: os => .pair o (argTy os)
def vcells (vs : List Value) : List Value := vs.flatMap fun v => v.cells.toList
def Shape : List OTy → List Value → Prop
 | [], vs => vs = []
 | o :: os, vs => ∃ v us, vs = v :: us ∧ (match o.isAgg with
  | true => ∃ ws, v = .agg ws ∧ ws.size = o.size
  | false => v.cells = #[v] ∧ o.size = 1) ∧ Shape os us
theorem Shape.length : ∀ {os : List OTy} {vs : List Value}, Shape os vs → vs.length = os.length
 | [], vs, h => by have h : _ = _ := h; subst h; rfl
 | o :: os, vs, h => by obtain ⟨v, us, rfl, _, h⟩ := h; simp [h.length]
def svCell (o : OTy) : SV → RM (List C)
 | .one c => (match o.isAgg with
  | true => .fail
  | false => (match Nat.beq o.size 1 with
   | true => .ret [c]
   | false => .fail))
 | .agg cs => (match o.isAgg && Nat.beq cs.length o.size with
  | true => .ret cs
  | false => .fail)
 | _ => .fail
def svCells : List OTy → List SV → RM (List C)
 | [], ss => (match ss with
  | [] => .ret []
  | _ => .fail)
 | o :: os, ss => (match ss with
  | [] => .fail
  | s :: ss => do
   let cs ← svCell o s
   let ds ← svCells os ss
   return (cs ++ ds))
theorem svCells_rep : ∀ {os : List OTy} {ss : List SV} {cs : List C} {vs : List Value}, (svCells os ss).run S ctx = some cs → SReps E ss vs → CReps E cs (vcells vs) ∧ Shape os vs
 | [], ss, cs, vs, hr, hv => by
  unfold svCells at hr
  split at hr
  ·cases hr
   have hv : vs = [] := hv
   subst hv
   exact ⟨rfl, rfl⟩
  ·cases hr
 | o :: os, ss, cs, vs, hr, hv => by
  unfold svCells at hr
  split at hr
  ·cases hr
  ·rename_i s ss'
   obtain ⟨c1, h1, hr⟩ := RM.run_bind' hr
   obtain ⟨c2, h2, hr⟩ := RM.run_bind' hr
   cases RM.run_pure' hr
   obtain ⟨v, us, rfl, k1, k2⟩ := hv
   obtain ⟨g1, g2⟩ := svCells_rep h2 k2
   have key : CReps E c1 v.cells.toList ∧ (match o.isAgg with | true => ∃ ws, v = .agg ws ∧ ws.size = o.size | false => v.cells = #[v] ∧ o.size = 1) := by
    unfold svCell at h1
    split at h1
    ·rename_i c
     split at h1
     ·cases h1
     ·rename_i hb
      split at h1
      ·rename_i hs
       cases h1
       have hv1 : CRep E c v := k1
       rw [Value.cells_one hv1.oneCell]
       exact ⟨⟨v, [], rfl, hv1, rfl⟩, rfl, Nat.eq_of_beq_eq_true hs⟩
      ·cases h1
    ·rename_i ds
     split at h1
     ·rename_i hb
      cases h1
      simp only [Bool.and_eq_true] at hb
      obtain ⟨ws, rfl, k⟩ := k1
      rw [hb.1]
      refine ⟨k, ws, rfl, ?_⟩
      have := k.length
      rw [Nat.eq_of_beq_eq_true hb.2] at this
      simpa using this
     ·cases h1
    ·cases h1
   refine ⟨?_, v, us, rfl, key.2, g2⟩
   simp only [vcells, List.flatMap_cons]
   exact key.1.append g1
def svO (o : OTy) (cs : List C) : SV :=
 match o.isAgg with
 | true => .agg cs
 | false => (match cs with
  | [c] => .one c
  | _ => .agg cs)
def svOs : List OTy → List C → List SV
 | [], _ => []
 | o :: os, cs => svO o (cs.take o.size) :: svOs os (cs.drop o.size)
theorem svOs_rep : ∀ {os : List OTy} {cs : List C} {vs : List Value}, CReps E cs (vcells vs) → Shape os vs → SReps E (svOs os cs) vs
 | [], cs, vs, hc, hs => by have hs : vs = [] := hs; subst hs; rfl
 | o :: os, cs, vs, hc, hs => by
  obtain ⟨v, us, rfl, h1, h2⟩ := hs
  simp only [vcells, List.flatMap_cons] at hc
  have hsz : v.cells.toList.length = o.size := by
   cases hb : o.isAgg with
   | true => rw [hb] at h1; obtain ⟨ws, rfl, e⟩ := h1; simpa [Value.cells] using e
   | false => rw [hb] at h1; rw [h1.1, h1.2]; rfl
  have c1 : CReps E (cs.take o.size) v.cells.toList := by
   have := hc.take o.size
   rwa [List.take_left' hsz] at this
  have c2 : CReps E (cs.drop o.size) (vcells us) := by
   have := hc.drop o.size
   rwa [List.drop_left' hsz] at this
  refine ⟨v, us, rfl, ?_, svOs_rep c2 h2⟩
  unfold svO
  cases hb : o.isAgg with
  | true => rw [hb] at h1; obtain ⟨ws, rfl, e⟩ := h1; exact ⟨ws, rfl, c1⟩
  | false =>
   rw [hb] at h1
   have hl := c1.length
   rw [h1.1] at c1 hl
   simp only [List.length_cons, List.length_nil] at hl
   obtain ⟨c, hc1⟩ := List.length_eq_one_iff.1 hl.symm
   rw [hc1] at c1 ⊢
   obtain ⟨u, hu, c1⟩ := one_reps c1
   cases hu
   exact c1
end Go.Vc
end

section
set_option linter.unusedVariables false
set_option linter.unusedSimpArgs false
namespace Go.Vc
open Go
variable {P : Program} {X : Ctx} {w0 : World} {foot : Foot} {base : Mem} {S T : St} {E : Env} {a : Act} {w : World} {ctx : Tags}
def oReopen : (o : OTy) → Bool → o.den → IT → Nat → List C × List (Nat × Blk) × IT × Nat
 | .row e t, top, xs, it, n => (match top, it with
  | true, .row (some m) => ([.row t m], [(m, .row false e t xs)], .row (some m), n)
  | _, _ => oOpen (.row e t) xs n)
 | .map a b, top, xs, it, n => (match top, it with
  | true, .row (some m) => ([.map a b m], [(m, .map false a b xs none)], .row (some m), n)
  | _, _ => oOpen (.map a b) xs n)
 | .cells fx o, top, x, it, n => (match fx || top, it with
  | true, .cells m t => let r := oReopen o false x t n; ([.ptr m 0], (m, .cells r.1) :: r.2.1, .cells m r.2.2.1, r.2.2.2)
  | _, _ => oOpen (.cells fx o) x n)
 | .mclo k o, _, x, it, n => let r := oReopen o false x it n; ([.mclo k (bptrs r.1)], r.2)
 | .pair a b, _, x, it, n => (match it with
  | .pair s t => let r := oReopen a false x.1 s n; let q := oReopen b false x.2 t r.2.2.2; (r.1 ++ q.1, r.2.1 ++ q.2.1, .pair r.2.2.1 q.2.2.1, q.2.2.2)
  | _ => oOpen (.pair a b) x n)
 | o, _, x, _, n => oOpen o x n
def Fits : IT → PT → Prop
 | .nil, .nil => True
 | .row (some _), .row _ => True
 | .cells _ t, .cells _ q => Fits t q
 | .pair a b, .pair p q => Fits a p ∧ Fits b q
 | _, _ => False
def bindPT : IT → PT → List (Nat × Place)
 | .row (some n), .row p => [(n, p)]
 | .cells n t, .cells p q => (n, p) :: bindPT t q
 | .pair a b, .pair p q => bindPT a p ++ bindPT b q
 | _, _ => []
theorem bindPT_keys : ∀ {t : IT} {q : PT}, Fits t q → (bindPT t q).map (·.1) = t.ids ∧ (bindPT t q).map (·.2) = q.list
 | .nil, .nil, _ => ⟨rfl, rfl⟩
 | .row (some n), .row p, _ => ⟨rfl, rfl⟩
 | .cells n t, .cells p q, h => by obtain ⟨h1, h2⟩ := bindPT_keys (t := t) (q := q) h; simp [bindPT, IT.ids, PT.list, h1, h2]
 | .pair a b, .pair p q, h => by
  obtain ⟨h1, h2⟩ := bindPT_keys h.1
  obtain ⟨h3, h4⟩ := bindPT_keys h.2
  simp [bindPT, IT.ids, PT.list, h1, h2, h3, h4]
 | .row none, _, h => by cases h
 | .nil, .row _, h => by cases h
 | .nil, .cells _ _, h => by cases h
 | .nil, .pair _ _, h => by cases h
 | .row (some _), .nil, h => by cases h
 | .row (some _), .cells _ _, h => by cases h
 | .row (some _), .pair _ _, h => by cases h
 | .cells _ _, .nil, h => by cases h
 | .cells _ _, .row _, h => by cases h
 | .cells _ _, .pair _ _, h => by cases h
 | .pair _ _, .nil, h => by cases h
 | .pair _ _, .row _, h => by cases h
 | .pair _ _, .cells _ _, h => by cases h
theorem bindPT_at : ∀ {t : IT} {q : PT}, Fits t q → (∀ i p, (i, p) ∈ bindPT t q → E.place i = some p) → ITAt E t q
 | .nil, .nil, _, _ => trivial
 | .row (some n), .row p, _, h => h n p (by simp [bindPT])
 | .cells n t, .cells p q, hf, h => ⟨h n p (by simp [bindPT]), bindPT_at hf fun i p' hi => h i p' (by simp [bindPT, hi])⟩
 | .pair a b, .pair p q, hf, h => ⟨bindPT_at hf.1 fun i p' hi => h i p' (by simp [bindPT, hi]), bindPT_at hf.2 fun i p' hi => h i p' (by simp [bindPT, hi])⟩
 | .row none, _, h, _ => by cases h
 | .nil, .row _, h, _ => by cases h
 | .nil, .cells _ _, h, _ => by cases h
 | .nil, .pair _ _, h, _ => by cases h
 | .row (some _), .nil, h, _ => by cases h
 | .row (some _), .cells _ _, h, _ => by cases h
 | .row (some _), .pair _ _, h, _ => by cases h
 | .cells _ _, .nil, h, _ => by cases h
 | .cells _ _, .row _, h, _ => by cases h
 | .cells _ _, .pair _ _, h, _ => by cases h
 | .pair _ _, .nil, h, _ => by cases h
 | .pair _ _, .row _, h, _ => by cases h
 | .pair _ _, .cells _ _, h, _ => by cases h
theorem find_nodup {α : Type} : ∀ {l : List (Nat × α)} {i : Nat} {x : α}, (l.map (·.1)).Nodup → (i, x) ∈ l → find l i = some x
 | [], _, _, _, h => by cases h
 | (n, y) :: l, i, x, hn, h => by
  simp only [List.map_cons, List.nodup_cons] at hn
  rcases List.mem_cons.1 h with h | h
  ·cases h; simp [find]
  ·have : n ≠ i := fun e => hn.1 (e ▸ List.mem_map_of_mem (f := (·.1)) h)
   rw [find_skip this]
   exact find_nodup hn.2 h
theorem find_mem {α : Type} : ∀ {l : List (Nat × α)} {i : Nat} {x : α}, find l i = some x → (i, x) ∈ l
 | [], _, _, h => by cases h
 | (n, y) :: l, i, x, h => by
  by_cases e : n = i
  ·subst e
   have : some y = some x := by simpa [find] using h
   cases this
   exact List.mem_cons_self
  ·rw [find_skip e] at h
   exact List.mem_cons_of_mem _ (find_mem h)
def NodupP (l : List Place) : Prop := l.Pairwise fun p q => p.nil = false → q.nil = false → p.blk ≠ q.blk
theorem NodupP.apart : ∀ {l : List (Nat × Place)}, NodupP (l.map (·.2)) → ∀ {i j p q}, (i, p) ∈ l → (j, q) ∈ l → i ≠ j → p.nil = false → q.nil = false → p.blk ≠ q.blk
 | [], _, _, _, _, _, h, _, _, _, _ => by cases h
 | (n, r) :: l, h, i, j, p, q, hi, hj, hij, hp, hq => by
  simp only [NodupP, List.map_cons, List.pairwise_cons] at h
  rcases List.mem_cons.1 hi with hi | hi
  ·cases hi
   rcases List.mem_cons.1 hj with hj | hj
   ·cases hj; exact absurd rfl hij
   ·exact h.1 q (List.mem_map_of_mem (f := (·.2)) hj) hp hq
  ·rcases List.mem_cons.1 hj with hj | hj
   ·cases hj; exact Ne.symm (h.1 p (List.mem_map_of_mem (f := (·.2)) hi) hq hp)
   ·exact NodupP.apart (l := l) h.2 hi hj hij hp hq
theorem oOpen_fits {F : Mem} : ∀ {o : OTy} {x y : o.den} {vs : List Value} {pl : PT} {n : Nat}, ORep F w o y vs pl → Fits (oOpen o x n).2.2.1 pl
 | .dat _, _, _, _, _, _, h => by obtain ⟨rfl, _⟩ := h; trivial
 | .row _ _, _, _, _, _, _, h => by obtain ⟨_, _, rfl, _⟩ := h; trivial
 | .cells _ o, x, y, _, _, n, h => by obtain ⟨_, _, _, _, rfl, _, _, _, h⟩ := h; exact oOpen_fits (o := o) (x := x) (y := y) h
 | .mclo _ o, x, y, _, _, _, h => by obtain ⟨_, _, h⟩ := h; exact oOpen_fits (o := o) (x := x) (y := y) h
 | .unit, _, _, _, _, _, h => by obtain ⟨_, rfl⟩ := h; trivial
 | .pair _ _, _, _, _, _, _, h => by obtain ⟨_, _, _, _, _, rfl, h1, h2⟩ := h; exact ⟨oOpen_fits h1, oOpen_fits h2⟩
 | .gone o, x, y, _, _, _, h => oOpen_fits (o := o) (x := x) (y := y) h
 | .map _ _, _, _, _, _, _, h => by obtain ⟨_, rfl, _⟩ := h; trivial
theorem oReopen_fits {F : Mem} : ∀ {o : OTy} {top : Bool} {x y : o.den} {vs : List Value} {pl : PT} {it : IT} {n : Nat}, ORep F w o y vs pl → Fits (oReopen o top x it n).2.2.1 pl
 | .dat _, _, _, _, _, _, _, _, h => oOpen_fits h
 | .row _ _, top, _, _, _, _, it, _, h => by
  unfold oReopen
  split
  ·obtain ⟨_, _, rfl, _⟩ := h; trivial
  ·exact oOpen_fits h
 | .cells fx o, top, x, y, _, _, it, n, h => by
  unfold oReopen
  split
  ·obtain ⟨_, _, _, _, rfl, _, _, _, h⟩ := h; exact oReopen_fits (o := o) (x := x) (y := y) h
  ·exact oOpen_fits h
 | .mclo _ o, _, x, y, _, _, _, _, h => by obtain ⟨_, _, h⟩ := h; exact oReopen_fits (o := o) (x := x) (y := y) h
 | .unit, _, _, _, _, _, _, _, h => oOpen_fits h
 | .pair _ _, _, _, _, _, _, it, _, h => by
  unfold oReopen
  split
  ·obtain ⟨_, _, _, _, _, rfl, h1, h2⟩ := h; exact ⟨oReopen_fits h1, oReopen_fits h2⟩
  ·exact oOpen_fits h
 | .gone _, _, _, _, _, _, _, _, h => oOpen_fits h
 | .map _ _, top, _, _, _, _, it, _, h => by
  unfold oReopen
  split
  ·obtain ⟨_, rfl, _⟩ := h; trivial
  ·exact oOpen_fits h
structure Ids (l : List (Nat × Blk)) (it it' : IT) (n n' : Nat) : Prop where
 le : n ≤ n'
 old : ∀ i ∈ it'.ids, i ∈ it.ids ∨ (n ≤ i ∧ i < n')
 keys : l.map (·.1) = it'.ids
 nodup : it.ids.Nodup → (∀ i ∈ it.ids, ¬ (n ≤ i ∧ i < n')) → it'.ids.Nodup
theorem oOpen_Ids (o : OTy) (x : o.den) (it : IT) (n : Nat) : Ids (oOpen o x n).2.1 it (oOpen o x n).2.2.1 n (oOpen o x n).2.2.2 := by
 obtain ⟨h1, h2, h3, h4⟩ := oOpen_ids o x n
 exact ⟨h1, fun i hi => .inr (h2 i hi), h4, fun _ _ => h3⟩
theorem oReopen_Ids : ∀ (o : OTy) (top : Bool) (x : o.den) (it : IT) (n : Nat), Ids (oReopen o top x it n).2.1 it (oReopen o top x it n).2.2.1 n (oReopen o top x it n).2.2.2
 | .dat _, _, _, _, _ => oOpen_Ids _ _ _ _
 | .row _ _, top, _, it, _ => by
  unfold oReopen
  split
  ·exact ⟨Nat.le_refl _, fun i hi => .inl hi, rfl, fun h _ => h⟩
  ·exact oOpen_Ids _ _ _ _
 | .cells fx o, top, x, it, n => by
  unfold oReopen
  split
  ·rename_i m t hb
   obtain ⟨h1, h2, h3, h4⟩ := oReopen_Ids o false x t n
   refine ⟨h1, fun i hi => ?_, ?_, fun hn hr => ?_⟩
   ·simp only [IT.ids, List.mem_cons] at hi ⊢
    rcases hi with hi | hi
    ·exact .inl (.inl hi)
    ·rcases h2 i hi with h | h
     ·exact .inl (.inr h)
     ·exact .inr h
   ·simp only [IT.ids, List.map_cons, h3]
   ·simp only [IT.ids, List.nodup_cons] at hn ⊢
    refine ⟨fun hm => ?_, h4 hn.2 fun i hi => hr i (by simp [IT.ids, hi])⟩
    rcases h2 m hm with h | h
    ·exact hn.1 h
    ·exact hr m (by simp [IT.ids]) h
  ·exact oOpen_Ids _ _ _ _
 | .mclo _ o, _, x, it, n => by
  obtain ⟨h1, h2, h3, h4⟩ := oReopen_Ids o false x it n
  exact ⟨h1, h2, h3, h4⟩
 | .unit, _, _, _, _ => oOpen_Ids _ _ _ _
 | .pair a b, _, x, it, n => by
  unfold oReopen
  split
  ·rename_i s t
   obtain ⟨h1, h2, h3, h4⟩ := oReopen_Ids a false x.1 s n
   obtain ⟨k1, k2, k3, k4⟩ := oReopen_Ids b false x.2 t (oReopen a false x.1 s n).2.2.2
   refine ⟨Nat.le_trans h1 k1, fun i hi => ?_, ?_, fun hn hr => ?_⟩
   ·simp only [IT.ids, List.mem_append] at hi ⊢
    rcases hi with hi | hi
    ·rcases h2 i hi with h | h
     ·exact .inl (.inl h)
     ·exact .inr ⟨h.1, Nat.lt_of_lt_of_le h.2 k1⟩
    ·rcases k2 i hi with h | h
     ·exact .inl (.inr h)
     ·exact .inr ⟨Nat.le_trans h1 h.1, h.2⟩
   ·simp only [IT.ids, List.map_append, h3, k3]
   ·simp only [IT.ids] at hn ⊢
    obtain ⟨n1, n2, n3⟩ := List.nodup_append.1 hn
    have r1 : ∀ i ∈ s.ids, ¬ (n ≤ i ∧ i < _) := fun i hi => hr i (by simp [IT.ids, hi])
    have r2 : ∀ i ∈ t.ids, ¬ (n ≤ i ∧ i < _) := fun i hi => hr i (by simp [IT.ids, hi])
    refine List.nodup_append.2 ⟨h4 n1 fun i hi hh => r1 i hi ⟨hh.1, Nat.lt_of_lt_of_le hh.2 k1⟩, k4 n2 fun i hi hh => r2 i hi ⟨Nat.le_trans h1 hh.1, hh.2⟩, fun i hi j hj e => ?_⟩
    subst e
    rcases h2 i hi with h | h
    ·rcases k2 i hj with g | g
     ·exact n3 i h i g rfl
     ·exact r1 i h ⟨Nat.le_trans h1 g.1, g.2⟩
    ·rcases k2 i hj with g | g
     ·exact r2 i g ⟨h.1, Nat.lt_of_lt_of_le h.2 k1⟩
     ·omega
  ·exact oOpen_Ids _ _ _ _
 | .gone _, _, _, _, _ => oOpen_Ids _ _ _ _
 | .map _ _, top, _, it, _ => by
  unfold oReopen
  split
  ·exact ⟨Nat.le_refl _, fun i hi => .inl hi, rfl, fun h _ => h⟩
  ·exact oOpen_Ids _ _ _ _
theorem oReopen_fix : ∀ {o : OTy} {top : Bool} {x : o.den} {it : IT} {n : Nat} {pl pl' : PT}, ITAt E it pl → OFix o top pl pl' → ∀ i p, (i, p) ∈ bindPT (oReopen o top x it n).2.2.1 pl' → (n ≤ i ∧ i < (oReopen o top x it n).2.2.2) ∨ E.place i = some p := by
 have opn : ∀ {o : OTy} {x : o.den} {n : Nat} {pl' : PT} {i : Nat} {p : Place}, (i, p) ∈ bindPT (oOpen o x n).2.2.1 pl' → n ≤ i ∧ i < (oOpen o x n).2.2.2 := fun {o x n pl' i p} hm => by
  have key : ∀ {t : IT} {q : PT}, (i, p) ∈ bindPT t q → i ∈ t.ids := by
   intro t
   induction t with
   | nil => intro q h; cases q <;> cases h
   | row m => intro q h; cases m <;> cases q <;> simp [bindPT, IT.ids] at h ⊢; exact h.1
   | cells m t ih =>
    intro q h
    cases q <;> simp only [bindPT, IT.ids, List.mem_cons, List.not_mem_nil] at h ⊢
    rcases h with h | h
    ·cases h; exact .inl rfl
    ·exact .inr (ih h)
   | pair a b iha ihb =>
    intro q h
    cases q <;> simp only [bindPT, IT.ids, List.mem_append, List.not_mem_nil] at h ⊢
    rcases h with h | h
    ·exact .inl (iha h)
    ·exact .inr (ihb h)
  exact (oOpen_ids o x n).2.1 i (key hm)
 intro o
 induction o with
 | dat t => intro top x it n pl pl' _ _ i p hm; exact .inl (opn hm)
 | row e t =>
  intro top x it n pl pl' hi hf i p hm
  unfold oReopen at hm ⊢
  split at hm
  ·rename_i m
   cases pl' with
   | row p' =>
    cases pl with
    | row p0 =>
     simp only [bindPT, List.mem_singleton] at hm
     cases hm
     have := hf rfl
     right
     cases this
     exact hi
    | nil => cases hi
    | cells _ _ => cases hi
    | pair _ _ => cases hi
   | nil => cases hm
   | cells _ _ => cases hm
   | pair _ _ => cases hm
  ·exact .inl (opn hm)
 | cells fx o ih =>
  intro top x it n pl pl' hi hf i p hm
  unfold oReopen at hm ⊢
  split at hm
  ·rename_i m t hb
   cases pl' with
   | cells p' q' =>
    cases pl with
    | cells p0 q0 =>
     obtain ⟨e1, e2⟩ := hf hb
     simp only [bindPT, List.mem_cons] at hm
     rcases hm with hm | hm
     ·cases hm
      right
      rw [e1]
      exact hi.1
     ·exact ih hi.2 e2 i p hm
    | nil => cases hi
    | row _ => cases hi
    | pair _ _ => cases hi
   | nil => cases hm
   | row _ => cases hm
   | pair _ _ => cases hm
  ·exact .inl (opn hm)
 | mclo k o ih => intro top x it n pl pl' hi hf i p hm; exact ih hi (by cases pl <;> cases pl' <;> exact hf) i p hm
 | unit => intro top x it n pl pl' _ _ i p hm; exact .inl (opn hm)
 | pair a b iha ihb =>
  intro top x it n pl pl' hi hf i p hm
  unfold oReopen at hm ⊢
  split at hm
  ·rename_i s t
   cases pl' with
   | pair p' q' =>
    cases pl with
    | pair p0 q0 =>
     obtain ⟨f1, f2⟩ := hf
     have i1 := oReopen_Ids a false x.1 s n
     have i2 := oReopen_Ids b false x.2 t (oReopen a false x.1 s n).2.2.2
     simp only [bindPT, List.mem_append] at hm
     rcases hm with hm | hm
     ·rcases iha hi.1 f1 i p hm with h | h
      ·exact .inl ⟨h.1, Nat.lt_of_lt_of_le h.2 i2.le⟩
      ·exact .inr h
     ·rcases ihb hi.2 f2 i p hm with h | h
      ·exact .inl ⟨Nat.le_trans i1.le h.1, h.2⟩
      ·exact .inr h
    | nil => cases hi
    | row _ => cases hi
    | cells _ _ => cases hi
   | nil => cases hm
   | row _ => cases hm
   | cells _ _ => cases hm
  ·exact .inl (opn hm)
 | gone o ih => intro top x it n pl pl' _ _ i p hm; exact .inl (opn hm)
 | map a b =>
  intro top x it n pl pl' hi hf i p hm
  unfold oReopen at hm ⊢
  split at hm
  ·rename_i m
   cases pl' with
   | row p' =>
    cases pl with
    | row p0 =>
     simp only [bindPT, List.mem_singleton] at hm
     cases hm
     have := hf rfl
     right
     cases this
     exact hi
    | nil => cases hi
    | cells _ _ => cases hi
    | pair _ _ => cases hi
   | nil => cases hm
   | cells _ _ => cases hm
   | pair _ _ => cases hm
  ·exact .inl (opn hm)
theorem oReopen_ptrs : ∀ {o : OTy} {top : Bool} {x : o.den} {it : IT} {n : Nat}, o.allPtr = true → ∀ c ∈ (oReopen o top x it n).1, ∃ b, c = .ptr b 0
 | .cells _ _, top, _, it, n, h, c, hc => by
  unfold oReopen at hc
  split at hc
  ·simp at hc; exact ⟨_, hc⟩
  ·exact oOpen_ptrs h c hc
 | .unit, _, _, _, _, _, c, hc => by cases hc
 | .pair a b, _, x, it, n, h, c, hc => by
  unfold oReopen at hc
  split at hc
  ·simp only [OTy.allPtr, Bool.and_eq_true] at h
   simp only [List.mem_append] at hc
   rcases hc with hc | hc
   ·exact oReopen_ptrs h.1 c hc
   ·exact oReopen_ptrs h.2 c hc
  ·exact oOpen_ptrs h c hc
 | .dat _, _, _, _, _, h, _, _ => by cases h
 | .row _ _, _, _, _, _, h, _, _ => by cases h
 | .mclo _ _, _, _, _, _, h, _, _ => by cases h
 | .gone _, _, _, _, _, h, _, _ => by cases h
 | .map _ _, _, _, _, _, h, _, _ => by cases h
theorem oReopen_rep {F : Mem} (hEF : E.F = F) : ∀ {o : OTy} {top : Bool} {x : o.den} {vs : List Value} {pl : PT} {it : IT} {n : Nat}, o.ok = true → ORep F w o x vs pl → ITAt E (oReopen o top x it n).2.2.1 pl →
  CReps E (oReopen o top x it n).1 vs ∧ ∀ m B, (m, B) ∈ (oReopen o top x it n).2.1 → ∃ p, E.place m = some p ∧ BRep E w p B ∧ p ∈ pl.list ∧ B.mut = true
 | .dat _, _, _, _, _, _, _, hk, h, hi => oOpen_rep hEF hk h hi
 | .row e t, top, xs, vs, pl, it, n, hk, h, hi => by
  unfold oReopen at hi ⊢
  split at hi
  ·rename_i m
   obtain ⟨p, v, rfl, rfl, hv, hB⟩ := h
   refine ⟨⟨v, [], rfl, ⟨p, hi, hv⟩, rfl⟩, fun m' B hm => ?_⟩
   simp at hm
   obtain ⟨rfl, rfl⟩ := hm
   exact ⟨p, hi, hB.mono ⟨by rw [hEF]; exact .refl _, fun _ _ h => by cases h⟩, by simp [PT.list], rfl⟩
  ·exact oOpen_rep hEF hk h hi
 | .cells fx o, top, x, vs, pl, it, n, hk, h, hi => by
  unfold oReopen at hi ⊢
  split at hi
  ·rename_i m t hb
   obtain ⟨p, q, us, e, rfl, hn, rfl, hw, h⟩ := h
   obtain ⟨hp, hi⟩ := hi
   obtain ⟨k1, k2⟩ := oReopen_rep hEF (o := o) (n := n) hk h hi
   refine ⟨⟨_, [], rfl, ⟨p, hp, hn, rfl⟩, rfl⟩, fun m' B hm => ?_⟩
   simp only [List.mem_cons] at hm
   rcases hm with hm | hm
   ·cases hm
    exact ⟨p, hp, ⟨hn, us, e, hw, k1⟩, by simp [PT.list], rfl⟩
   ·obtain ⟨p', g1, g2, g3, g4⟩ := k2 m' B hm
    exact ⟨p', g1, g2, by simp [PT.list, g3], g4⟩
  ·exact oOpen_rep hEF hk h hi
 | .mclo k o, top, x, vs, pl, it, n, hk, h, hi => by
  obtain ⟨ws, rfl, h⟩ := h
  simp only [OTy.ok, Bool.and_eq_true] at hk
  obtain ⟨k1, k2⟩ := oReopen_rep hEF (o := o) (top := false) (it := it) (n := n) hk.2 h hi
  obtain ⟨ps, g1, g2, g3⟩ := k1.ptrs (oReopen_ptrs hk.1)
  refine ⟨⟨_, [], rfl, ⟨ps, g1, g2, ?_⟩, rfl⟩, k2⟩
  rw [← g3]
 | .unit, _, _, _, _, _, _, hk, h, hi => oOpen_rep hEF hk h hi
 | .pair a b, top, x, vs, pl, it, n, hk, h, hi => by
  unfold oReopen at hi ⊢
  split at hi
  ·rename_i s t
   obtain ⟨us, ws, p, q, rfl, rfl, h1, h2⟩ := h
   simp only [OTy.ok, Bool.and_eq_true] at hk
   obtain ⟨k1, k2⟩ := oReopen_rep hEF (n := n) hk.1 h1 hi.1
   obtain ⟨g1, g2⟩ := oReopen_rep hEF (n := (oReopen a false x.1 s n).2.2.2) hk.2 h2 hi.2
   refine ⟨k1.append g1, fun m B hm => ?_⟩
   simp only [List.mem_append] at hm
   rcases hm with hm | hm
   ·obtain ⟨p', e1, e2, e3, e4⟩ := k2 m B hm
    exact ⟨p', e1, e2, by simp [PT.list, e3], e4⟩
   ·obtain ⟨p', e1, e2, e3, e4⟩ := g2 m B hm
    exact ⟨p', e1, e2, by simp [PT.list, e3], e4⟩
  ·exact oOpen_rep hEF hk h hi
 | .gone _, _, _, _, _, _, _, hk, h, hi => oOpen_rep hEF hk h hi
 | .map a b, top, xs, vs, pl, it, n, hk, h, hi => by
  unfold oReopen at hi ⊢
  split at hi
  ·rename_i m
   obtain ⟨p, rfl, hn, rfl, hB⟩ := h
   refine ⟨⟨_, [], rfl, ⟨p, hi, hn, rfl⟩, rfl⟩, fun m' B hm => ?_⟩
   simp at hm
   obtain ⟨rfl, rfl⟩ := hm
   exact ⟨p, hi, hB.mono ⟨by rw [hEF]; exact .refl _, fun _ _ h => by cases h⟩, by simp [PT.list], rfl⟩
  ·exact oOpen_rep hEF hk h hi
end Go.Vc
end

section
set_option linter.unusedVariables false
set_option linter.unusedSimpArgs false
namespace Go.Vc
open Go
variable {P : Program} {X : Ctx} {w0 : World} {foot : Foot} {base : Mem} {S T : St} {E : Env} {a : Act} {w : World} {ctx : Tags}
def OTy.kept : OTy → Bool
 | .dat _ | .gone _ => false
 | _ => true
def KReps (F : Mem) (w : World) : (os : List OTy) → (argTy os).den → List Value → PT → PT → Prop
 | [], _, _, _, pl' => pl' = .nil
 | o :: os, y, vs, pl, pl' => ∃ p q p' q', pl = .pair p q ∧ pl' = .pair p' q' ∧ KReps F w os y.2 (vs.drop o.size) q q' ∧ (match o.kept with
  | true => ORep F w o y.1 (vs.take o.size) p' ∧ OFix o true p p'
  | false => p' = .nil)
def kOpen : (os : List OTy) → (argTy os).den → IT → Nat → List (Nat × Blk) × IT × Nat
 | [], _, _, n => ([], .nil, n)
 | o :: os, y, it, n => (match it with
  | .pair s t => (match o.kept with
   | true =>
    let r := oReopen o true y.1 s n
    let q := kOpen os y.2 t r.2.2.2
    (r.2.1 ++ q.1, .pair r.2.2.1 q.2.1, q.2.2)
   | false =>
    let q := kOpen os y.2 t n
    (q.1, .pair .nil q.2.1, q.2.2))
  | _ => ([], .nil, n))
theorem kOpen_fits {F : Mem} : ∀ {os : List OTy} {x y : (argTy os).den} {vs : List Value} {pl pl' : PT} {it : IT} {n : Nat}, ITAt E it pl → KReps F w os y vs pl pl' → Fits (kOpen os x it n).2.1 pl'
 | [], _, _, _, _, _, _, _, _, h => by have h : _ = _ := h; subst h; trivial
 | o :: os, x, y, vs, pl, pl', it, n, hi, h => by
  obtain ⟨p, q, p', q', rfl, rfl, h1, h2⟩ := h
  cases it with
  | pair s t =>
   unfold kOpen
   simp only
   split
   ·rename_i hk
    rw [hk] at h2
    exact ⟨oReopen_fits h2.1, kOpen_fits hi.2 h1⟩
   ·rename_i hk
    rw [hk] at h2
    have h2 : p' = .nil := h2
    subst h2
    exact ⟨trivial, kOpen_fits hi.2 h1⟩
  | nil => cases hi
  | row m => cases m <;> cases hi
  | cells _ _ => cases hi
theorem kOpen_Ids : ∀ (os : List OTy) (x : (argTy os).den) (it : IT) (n : Nat), Ids (kOpen os x it n).1 it (kOpen os x it n).2.1 n (kOpen os x it n).2.2
 | [], _, _, n => ⟨Nat.le_refl _, fun i hi => (by cases hi), rfl, fun _ _ => List.nodup_nil⟩
 | o :: os, x, it, n => by
  unfold kOpen
  split
  ·rename_i s t
   split
   ·obtain ⟨h1, h2, h3, h4⟩ := oReopen_Ids o true x.1 s n
    obtain ⟨k1, k2, k3, k4⟩ := kOpen_Ids os x.2 t (oReopen o true x.1 s n).2.2.2
    refine ⟨Nat.le_trans h1 k1, fun i hi => ?_, ?_, fun hn hr => ?_⟩
    ·simp only [IT.ids, List.mem_append] at hi ⊢
     rcases hi with hi | hi
     ·rcases h2 i hi with h | h
      ·exact .inl (.inl h)
      ·exact .inr ⟨h.1, Nat.lt_of_lt_of_le h.2 k1⟩
     ·rcases k2 i hi with h | h
      ·exact .inl (.inr h)
      ·exact .inr ⟨Nat.le_trans h1 h.1, h.2⟩
    ·simp only [IT.ids, List.map_append, h3, k3]
    ·simp only [IT.ids] at hn ⊢
     obtain ⟨n1, n2, n3⟩ := List.nodup_append.1 hn
     have r1 : ∀ i ∈ s.ids, ¬ (n ≤ i ∧ i < _) := fun i hi => hr i (by simp [IT.ids, hi])
     have r2 : ∀ i ∈ t.ids, ¬ (n ≤ i ∧ i < _) := fun i hi => hr i (by simp [IT.ids, hi])
     refine List.nodup_append.2 ⟨h4 n1 fun i hi hh => r1 i hi ⟨hh.1, Nat.lt_of_lt_of_le hh.2 k1⟩, k4 n2 fun i hi hh => r2 i hi ⟨Nat.le_trans h1 hh.1, hh.2⟩, fun i hi j hj e => ?_⟩
     subst e
     rcases h2 i hi with h | h
     ·rcases k2 i hj with g | g
      ·exact n3 i h i g rfl
      ·exact r1 i h ⟨Nat.le_trans h1 g.1, g.2⟩
     ·rcases k2 i hj with g | g
      ·exact r2 i g ⟨h.1, Nat.lt_of_lt_of_le h.2 k1⟩
      ·omega
   ·obtain ⟨k1, k2, k3, k4⟩ := kOpen_Ids os x.2 t n
    refine ⟨k1, fun i hi => ?_, ?_, fun hn hr => ?_⟩
    ·simp only [IT.ids, List.mem_append, List.not_mem_nil, false_or] at hi ⊢
     rcases k2 i hi with h | h
     ·exact .inl (.inr h)
     ·exact .inr h
    ·simp only [IT.ids, List.nil_append, k3]
    ·simp only [IT.ids, List.nil_append] at hn ⊢
     exact k4 (List.nodup_append.1 hn).2.1 fun i hi => hr i (by simp [IT.ids, hi])
  ·exact ⟨Nat.le_refl _, fun i hi => (by cases hi), rfl, fun _ _ => List.nodup_nil⟩
theorem kOpen_fix {F : Mem} : ∀ {os : List OTy} {x y : (argTy os).den} {vs : List Value} {it : IT} {n : Nat} {pl pl' : PT}, ITAt E it pl → KReps F w os y vs pl pl' → ∀ i p, (i, p) ∈ bindPT (kOpen os x it n).2.1 pl' → (n ≤ i ∧ i < (kOpen os x it n).2.2) ∨ E.place i = some p
 | [], _, _, _, _, _, _, _, _, h, i, p, hm => by have h : _ = _ := h; subst h; cases hm
 | o :: os, x, y, vs, it, n, pl, pl', hi, h, i, p, hm => by
  obtain ⟨p0, q0, p', q', rfl, rfl, h1, h2⟩ := h
  cases it with
  | pair s t =>
   unfold kOpen at hm ⊢
   simp only at hm ⊢
   split at hm
   ·rename_i hk
    rw [hk] at h2
    have i1 := oReopen_Ids o true x.1 s n
    have i2 := kOpen_Ids os x.2 t (oReopen o true x.1 s n).2.2.2
    simp only [bindPT, List.mem_append] at hm
    rcases hm with hm | hm
    ·rcases oReopen_fix hi.1 h2.2 i p hm with g | g
     ·exact .inl ⟨g.1, Nat.lt_of_lt_of_le g.2 i2.le⟩
     ·exact .inr g
    ·rcases kOpen_fix hi.2 h1 i p hm with g | g
     ·exact .inl ⟨Nat.le_trans i1.le g.1, g.2⟩
     ·exact .inr g
   ·rename_i hk
    rw [hk] at h2
    have h2 : p' = .nil := h2
    subst h2
    simp only [bindPT, List.nil_append] at hm
    exact kOpen_fix hi.2 h1 i p hm
  | nil => cases hi
  | row m => cases m <;> cases hi
  | cells _ _ => cases hi
theorem kOpen_rep {F : Mem} {E' : Env} (hEF : E'.F = F) : ∀ {os : List OTy} {y : (argTy os).den} {vs : List Value} {it : IT} {n : Nat} {pl pl' : PT}, (∀ o ∈ os, o.ok = true) → ITAt E it pl → KReps F w os y vs pl pl' → ITAt E' (kOpen os y it n).2.1 pl' →
  ∀ m B, (m, B) ∈ (kOpen os y it n).1 → ∃ p, E'.place m = some p ∧ BRep E' w p B ∧ p ∈ pl'.list ∧ B.mut = true
 | [], _, _, _, _, _, _, _, _, _, _, m, B, hm => by cases hm
 | o :: os, y, vs, it, n, pl, pl', hk, hi, h, hi', m, B, hm => by
  obtain ⟨p0, q0, p', q', rfl, rfl, h1, h2⟩ := h
  cases it with
  | pair s t =>
   unfold kOpen at hm hi'
   simp only at hm hi'
   split at hm
   ·rename_i hkk
    rw [hkk] at h2 hi'
    simp only [List.mem_append] at hm
    rcases hm with hm | hm
    ·obtain ⟨p, e1, e2, e3, e4⟩ := (oReopen_rep hEF (hk o List.mem_cons_self) h2.1 hi'.1).2 m B hm
     exact ⟨p, e1, e2, by simp [PT.list, e3], e4⟩
    ·obtain ⟨p, e1, e2, e3, e4⟩ := kOpen_rep hEF (fun o ho => hk o (List.mem_cons_of_mem _ ho)) hi.2 h1 hi'.2 m B hm
     exact ⟨p, e1, e2, by simp [PT.list, e3], e4⟩
   ·rename_i hkk
    rw [hkk] at h2 hi'
    obtain ⟨p, e1, e2, e3, e4⟩ := kOpen_rep hEF (fun o ho => hk o (List.mem_cons_of_mem _ ho)) hi.2 h1 hi'.2 m B hm
    exact ⟨p, e1, e2, by simp [PT.list, e3], e4⟩
  | nil => cases hi
  | row m => cases m <;> cases hi
  | cells _ _ => cases hi
def insAt {α : Type} : Nat → α → List α → List α
 | 0, v, l => v :: l
 | _ + 1, v, [] => [v]
 | n + 1, v, a :: l => a :: insAt n v l
def delAt {α : Type} : Nat → List α → List α
 | _, [] => []
 | 0, _ :: l => l
 | n + 1, a :: l => a :: delAt n l
theorem ins_del {α : Type} : ∀ {n : Nat} {l : List α} {v : α}, l[n]? = some v → insAt n v (delAt n l) = l
 | 0, [], v, h => by simp at h
 | 0, a :: l, v, h => by simp at h; subst h; rfl
 | n + 1, [], v, h => by simp at h
 | n + 1, a :: l, v, h => by
  have := ins_del (n := n) (l := l) (v := v) (by simpa using h)
  show a :: insAt n v (delAt n l) = _
  rw [this]
theorem insAt_length {α : Type} : ∀ {n : Nat} {l : List α} {v : α}, (insAt n v l).length = l.length + 1
 | 0, l, v => rfl
 | n + 1, [], v => rfl
 | n + 1, a :: l, v => by simp [insAt, insAt_length]
theorem SReps.del : ∀ {n : Nat} {ss : List SV} {vs : List Value}, SReps E ss vs → SReps E (delAt n ss) (delAt n vs)
 | n, [], vs, h => by
  have h : vs = [] := h
  subst h
  cases n <;> rfl
 | 0, s :: ss, vs, h => by obtain ⟨v, us, rfl, _, h2⟩ := h; exact h2
 | n + 1, s :: ss, vs, h => by
  obtain ⟨v, us, rfl, h1, h2⟩ := h
  exact ⟨v, _, rfl, h1, SReps.del h2⟩
theorem SReps.get : ∀ {n : Nat} {ss : List SV} {vs : List Value} {s : SV}, SReps E ss vs → ss[n]? = some s → ∃ v, vs[n]? = some v ∧ SRep E s v
 | n, [], vs, s, h, hs => by simp at hs
 | 0, t :: ss, vs, s, h, hs => by
  obtain ⟨v, us, rfl, h1, _⟩ := h
  simp at hs
  subst hs
  exact ⟨v, rfl, h1⟩
 | n + 1, t :: ss, vs, s, h, hs => by
  obtain ⟨v, us, rfl, _, h2⟩ := h
  obtain ⟨u, g1, g2⟩ := SReps.get (n := n) h2 (by simpa using hs)
  exact ⟨u, by simpa using g1, g2⟩
theorem SReps.ins : ∀ {n : Nat} {ss : List SV} {vs : List Value} {s : SV} {v : Value}, SReps E ss vs → SRep E s v → SReps E (insAt n s ss) (insAt n v vs)
 | 0, ss, vs, s, v, h, hs => ⟨v, vs, rfl, hs, h⟩
 | n + 1, [], vs, s, v, h, hs => by
  have h : vs = [] := h
  subst h
  exact ⟨v, [], rfl, hs, rfl⟩
 | n + 1, t :: ss, vs, s, v, h, hs => by
  obtain ⟨u, us, rfl, h1, h2⟩ := h
  exact ⟨u, _, rfl, h1, SReps.ins h2 hs⟩
def selP : List Nat → PT → Option Place
 | [], .cells p _ => some p
 | 0 :: l, .pair a _ => selP l a
 | 1 :: l, .pair _ b => selP l b
 | 2 :: l, .cells _ q => selP l q
 | _, _ => none
def selI : List Nat → IT → Option Nat
 | [], .cells n _ => some n
 | 0 :: l, .pair a _ => selI l a
 | 1 :: l, .pair _ b => selI l b
 | 2 :: l, .cells _ q => selI l q
 | _, _ => none
theorem selI_at : ∀ {l : List Nat} {t : IT} {q : PT} {n : Nat}, ITAt E t q → selI l t = some n → ∃ p, selP l q = some p ∧ E.place n = some p
 | [], .cells m t, .cells p q, n, h, hs => by
  have hs : some m = some n := hs
  cases hs
  exact ⟨p, rfl, h.1⟩
 | 0 :: l, .pair a b, .pair p q, n, h, hs => selI_at (l := l) h.1 hs
 | 1 :: l, .pair a b, .pair p q, n, h, hs => selI_at (l := l) h.2 hs
 | 2 :: l, .cells m t, .cells p q, n, h, hs => selI_at (l := l) h.2 hs
theorem selP_fits : ∀ {l : List Nat} {t : IT} {q : PT} {p : Place}, Fits t q → selP l q = some p → ∃ n, selI l t = some n
 | [], t, .cells p q, r, h, hs => by
  cases t with
  | cells m u => exact ⟨m, rfl⟩
  | nil => cases h
  | row b => cases b <;> cases h
  | pair _ _ => cases h
 | 0 :: l, t, .pair p q, r, h, hs => by
  cases t with
  | pair a b => exact selP_fits (l := l) h.1 hs
  | nil => cases h
  | row b => cases b <;> cases h
  | cells _ _ => cases h
 | 1 :: l, t, .pair p q, r, h, hs => by
  cases t with
  | pair a b => exact selP_fits (l := l) h.2 hs
  | nil => cases h
  | row b => cases b <;> cases h
  | cells _ _ => cases h
 | 2 :: l, t, .cells p q, r, h, hs => by
  cases t with
  | cells m u => exact selP_fits (l := l) (t := u) (by first | exact h | exact h.2) hs
  | nil => cases h
  | row b => cases b <;> cases h
  | pair _ _ => cases h
def insV (al : Option (Nat × List Nat)) (vs : List Value) (pl : PT) : List Value :=
 match al with
 | none => vs
 | some (pos, path) => (match selP path pl with
  | some p => insAt pos (.pointer (some ⟨p.blk, 0, none⟩)) vs
  | none => vs)
def insS (al : Option (Nat × List Nat)) (ss : List SV) (it : IT) : List SV :=
 match al with
 | none => ss
 | some (pos, path) => (match selI path it with
  | some n => insAt pos (.one (.ptr n 0)) ss
  | none => ss)
def delA {α : Type} (al : Option (Nat × List Nat)) (ss : List α) : List α :=
 match al with
 | none => ss
 | some (pos, _) => delAt pos ss
def alIn (al : Option (Nat × List Nat)) (ss : List SV) (it : IT) : Bool :=
 match al with
 | none => true
 | some (pos, path) => (match ss[pos]?, selI path it with
  | some (.one (.ptr b o)), some n => Nat.beq b n && Nat.beq o 0
  | _, _ => false)
def AlOk (al : Option (Nat × List Nat)) (pl : PT) : Prop :=
 match al with
 | none => True
 | some (_, path) => ∃ p, selP path pl = some p ∧ p.nil = false
def alLen (al : Option (Nat × List Nat)) : Nat :=
 match al with
 | none => 0
 | some _ => 1
theorem del_reps {al : Option (Nat × List Nat)} {ss : List SV} {vs : List Value} (h : SReps E ss vs) : SReps E (delA al ss) (delA al vs) := by
 cases al with
 | none => exact h
 | some a => exact h.del
theorem alIn_spec {E1 : Env} {al : Option (Nat × List Nat)} {ss : List SV} {vs : List Value} {it : IT} {pl : PT} (hle : E.le E1) (h : SReps E ss vs) (hat : ITAt E1 it pl) (ha : alIn al ss it = true) : vs = insV al (delA al vs) pl ∧ AlOk al pl := by
 cases al with
 | none => exact ⟨rfl, trivial⟩
 | some a =>
  obtain ⟨pos, path⟩ := a
  unfold alIn at ha
  simp only at ha
  split at ha
  ·rename_i b o n hs hn
   simp only [Bool.and_eq_true] at ha
   have e1 := Nat.eq_of_beq_eq_true ha.1
   have e2 := Nat.eq_of_beq_eq_true ha.2
   subst e1 e2
   obtain ⟨v, g1, g2⟩ := h.get hs
   obtain ⟨c, hc, p, hp, hpn, hv⟩ : ∃ c, c = C.ptr b 0 ∧ ∃ p, E.place b = some p ∧ p.nil = false ∧ v = .pointer (some ⟨p.blk, 0, none⟩) := ⟨_, rfl, g2⟩
   obtain ⟨p', k1, k2⟩ := selI_at hat hn
   rw [hle.place _ _ hp] at k2
   cases k2
   refine ⟨?_, p, k1, hpn⟩
   show vs = match selP path pl with | some p => _ | none => _
   rw [k1]
   simp only
   rw [← hv]
   exact (ins_del g1).symm
  ·cases ha
structure OCon where
 args : List OTy
 outs : List OTy
 pre : (argTy args).den → Prop
 fn : (argTy args).den → (argTy outs).den
 upd : (argTy args).den → (argTy args).den := fun x => x
 al : Option (Nat × List Nat) := none
def OutV (outs : List OTy) (v : Value) (vs : List Value) : Prop :=
 match outs with
 | [_] => vs = [v]
 | _ => v = .tuple vs.toArray
def tupO : List OTy → List C → List (Bool × List C)
 | [], _ => []
 | o :: os, cs => (o.isAgg, cs.take o.size) :: tupO os (cs.drop o.size)
def outSV (outs : List OTy) (cs : List C) : SV :=
 match outs with
 | [o] => svO o cs
 | _ => .tup (tupO outs cs)
def blksOf (l : List Place) (b : Nat) : Prop := ∃ p ∈ l, p.nil = false ∧ p.blk = b
structure OOk (P : Program) (f : Nat) (c : OCon) : Prop where
 fn : ∃ fn code, P.funcs[f]? = some fn ∧ (fn.name == "runtime.NumGoroutine") = false ∧ fn.body = some code
 okA : ∀ o ∈ c.args, o.ok = true
 okO : (argTy c.outs).ok = true
 calls : ∀ (F : Mem) (w : World) (x : (argTy c.args).den) (vs : List Value) (pl : PT), (∀ b o, F b = some o → w.heap[b]? = some o) → ORep F w (argTy c.args) x (vcells vs) pl → Shape c.args vs → NodupP pl.list →
  (∀ p ∈ pl.list, p.nil = false → F p.blk = none) → c.pre x → AlOk c.al pl →
  Calls P f (insV c.al vs pl).toArray w fun e w' => ∃ v F' vs' pl' qs, e = .returned v ∧ F.le F' ∧ (∀ b o, F' b = some o → w'.heap[b]? = some o) ∧ (∀ b o, F' b = some o → F b = some o ∨ w.heap.size ≤ b ∨ blksOf pl.list b) ∧
   Keep (blksOf pl.list) w w' ∧ OutV c.outs v vs' ∧ Shape c.outs vs' ∧ ORep F' w' (argTy c.outs) (c.fn x) (vcells vs') qs ∧ KReps F' w' c.args (c.upd x) (vcells vs) pl pl' ∧
   NodupP (pl'.list ++ qs.list) ∧ ∀ p ∈ pl'.list ++ qs.list, p.nil = false → (blksOf pl.list p.blk ∨ w.heap.size ≤ p.blk) ∧ F' p.blk = none
def nodupB : List Nat → Bool
 | [] => true
 | n :: l => match has l n with
  | true => false
  | false => nodupB l
theorem nodupB_spec : ∀ {l : List Nat}, nodupB l = true → l.Nodup
 | [], _ => List.nodup_nil
 | n :: l, h => by
  unfold nodupB at h
  split at h
  ·cases h
  ·rename_i hb
   exact List.nodup_cons.2 ⟨fun hm => (by rw [has_mem.2 hm] at hb; cases hb), nodupB_spec h⟩
def allNoId (fr : Fro) : List Nat → Bool
 | [] => true
 | n :: l => match noId fr n with
  | true => allNoId fr l
  | false => false
theorem allNoId_spec {fr : Fro} : ∀ {l : List Nat}, allNoId fr l = true → ∀ n ∈ l, ∀ p ∈ fr, p.1 ≠ n
 | [], _, n, hn => by cases hn
 | m :: l, h, n, hn => by
  unfold allNoId at h
  split at h
  ·rename_i hb
   rcases List.mem_cons.1 hn with rfl | hn
   ·exact noId_mem hb
   ·exact allNoId_spec h n hn
  ·cases h
def upTo : Nat → Nat → List Nat
 | _, 0 => []
 | n, k + 1 => n :: upTo (n + 1) k
theorem mem_upTo : ∀ {k n i : Nat}, i ∈ upTo n k ↔ n ≤ i ∧ i < n + k
 | 0, n, i => ⟨fun h => (by cases h), fun h => (by omega)⟩
 | k + 1, n, i => by simp only [upTo, List.mem_cons, mem_upTo]; omega
def OCon.run (c : OCon) (args : List SV) (d : Nat) : RM Res := do
 let cs ← svCells c.args (delA c.al args)
 let x ← oClose (argTy c.args) cs
 guardR (alIn c.al args x.2.2 && (nodupB x.2.2.ids && allNoId x.2.1 x.2.2.ids))
 let n := 1000 * (d + 1)
 let k := kOpen c.args (c.upd x.1) x.2.2 n
 let q := oOpen (argTy c.outs) (c.fn x.1) k.2.2
 .ret { val := some (outSV c.outs q.1), blks := x.2.1 ++ (k.1 ++ q.2.1), del := x.2.2.ids, new := upTo n (q.2.2.2 - n), conds := [c.pre x.1] }
def OCon.con (c : OCon) : Con := { run := c.run }
theorem ITAt_nodup : ∀ {t : IT} {q : PT}, ITAt E t q → t.ids.Nodup → (∀ i ∈ t.ids, ∀ j ∈ t.ids, i ≠ j → ∀ p r, E.place i = some p → E.place j = some r → p.nil = false → r.nil = false → p.blk ≠ r.blk) →
  NodupP q.list ∧ ∀ p ∈ q.list, p.nil = true ∨ ∃ i ∈ t.ids, E.place i = some p
 | .nil, .nil, _, _, _ => ⟨List.Pairwise.nil, fun p hp => (by cases hp)⟩
 | .row none, .row p, h, _, _ => ⟨by simp [PT.list, NodupP], fun r hr => by simp [PT.list] at hr; subst hr; have h : r = nilPlace := h; subst h; exact .inl rfl⟩
 | .row (some n), .row p, h, _, _ => ⟨by simp [PT.list, NodupP], fun r hr => by simp [PT.list] at hr; subst hr; exact .inr ⟨n, by simp [IT.ids], h⟩⟩
 | .cells n t, .cells p q, h, hn, hd => by
  simp only [IT.ids, List.nodup_cons] at hn
  obtain ⟨k1, k2⟩ := ITAt_nodup h.2 hn.2 fun i hi j hj => hd i (by simp [IT.ids, hi]) j (by simp [IT.ids, hj])
  refine ⟨List.pairwise_cons.2 ⟨fun r hr h1 h2 => ?_, k1⟩, fun r hr => ?_⟩
  ·rcases k2 r hr with g | ⟨i, hi, g⟩
   ·rw [g] at h2; cases h2
   ·exact hd n (by simp [IT.ids]) i (by simp [IT.ids, hi]) (fun e => hn.1 (e ▸ hi)) p r h.1 g h1 h2
  ·simp only [PT.list, List.mem_cons] at hr
   rcases hr with rfl | hr
   ·exact .inr ⟨n, by simp [IT.ids], h.1⟩
   ·rcases k2 r hr with g | ⟨i, hi, g⟩
    ·exact .inl g
    ·exact .inr ⟨i, by simp [IT.ids, hi], g⟩
 | .pair a b, .pair p q, h, hn, hd => by
  simp only [IT.ids] at hn
  obtain ⟨n1, n2, n3⟩ := List.nodup_append.1 hn
  obtain ⟨k1, k2⟩ := ITAt_nodup h.1 n1 fun i hi j hj => hd i (by simp [IT.ids, hi]) j (by simp [IT.ids, hj])
  obtain ⟨l1, l2⟩ := ITAt_nodup h.2 n2 fun i hi j hj => hd i (by simp [IT.ids, hi]) j (by simp [IT.ids, hj])
  refine ⟨List.pairwise_append.2 ⟨k1, l1, fun r hr s hs h1 h2 => ?_⟩, fun r hr => ?_⟩
  ·rcases k2 r hr with g | ⟨i, hi, g⟩
   ·rw [g] at h1; cases h1
   ·rcases l2 s hs with g' | ⟨j, hj, g'⟩
    ·rw [g'] at h2; cases h2
    ·exact hd i (by simp [IT.ids, hi]) j (by simp [IT.ids, hj]) (fun e => n3 i hi j hj e) r s g g' h1 h2
  ·simp only [PT.list, List.mem_append] at hr
   rcases hr with hr | hr
   ·rcases k2 r hr with g | ⟨i, hi, g⟩
    ·exact .inl g
    ·exact .inr ⟨i, by simp [IT.ids, hi], g⟩
   ·rcases l2 r hr with g | ⟨i, hi, g⟩
    ·exact .inl g
    ·exact .inr ⟨i, by simp [IT.ids, hi], g⟩
theorem ITAt_mem : ∀ {t : IT} {q : PT}, ITAt E t q → ∀ i ∈ t.ids, ∃ p ∈ q.list, E.place i = some p
 | .nil, _, _, i, hi => by cases hi
 | .row none, _, _, i, hi => by cases hi
 | .row (some n), .row p, h, i, hi => by simp [IT.ids] at hi; subst hi; exact ⟨p, by simp [PT.list], h⟩
 | .cells n t, .cells p q, h, i, hi => by
  simp only [IT.ids, List.mem_cons] at hi
  rcases hi with rfl | hi
  ·exact ⟨p, by simp [PT.list], h.1⟩
  ·obtain ⟨r, h1, h2⟩ := ITAt_mem h.2 i hi
   exact ⟨r, by simp [PT.list, h1], h2⟩
 | .pair a b, .pair p q, h, i, hi => by
  simp only [IT.ids, List.mem_append] at hi
  rcases hi with hi | hi
  ·obtain ⟨r, h1, h2⟩ := ITAt_mem h.1 i hi
   exact ⟨r, by simp [PT.list, h1], h2⟩
  ·obtain ⟨r, h1, h2⟩ := ITAt_mem h.2 i hi
   exact ⟨r, by simp [PT.list, h1], h2⟩
theorem outSV_rep {outs : List OTy} {cs : List C} {v : Value} {vs : List Value} (hv : OutV outs v vs) (hs : Shape outs vs) (hc : CReps E cs (vcells vs)) : SRep E (outSV outs cs) v := by
 have tup : ∀ {os : List OTy} {cs : List C} {vs : List Value}, Shape os vs → CReps E cs (vcells vs) → SRep.go E (tupO os cs) vs := by
  intro os
  induction os with
  | nil => intro cs vs hs hc; have hs : vs = [] := hs; subst hs; rfl
  | cons o os ih =>
   intro cs vs hs hc
   have hr := svOs_rep hc hs
   obtain ⟨v, us, rfl, h1, h2⟩ := hs
   obtain ⟨v', us', he, k1, k2⟩ := hr
   cases he
   simp only [vcells, List.flatMap_cons] at hc
   have hsz : v.cells.toList.length = o.size := by
    cases hb : o.isAgg with
    | true => rw [hb] at h1; obtain ⟨ws, rfl, e⟩ := h1; simpa [Value.cells] using e
    | false => rw [hb] at h1; rw [h1.1, h1.2]; rfl
   have c2 : CReps E (cs.drop o.size) (vcells us) := by
    have := hc.drop o.size
    rwa [List.drop_left' hsz] at this
   refine ⟨v, us, rfl, ?_, ih h2 c2⟩
   have c1 : CReps E (cs.take o.size) v.cells.toList := by
    have := hc.take o.size
    rwa [List.take_left' hsz] at this
   cases hb : o.isAgg with
   | true => rw [hb] at h1; obtain ⟨ws, rfl, e⟩ := h1; exact ⟨ws, rfl, c1⟩
   | false =>
    rw [hb] at h1
    have hl := c1.length
    rw [h1.1] at c1 hl
    simp only [List.length_cons, List.length_nil] at hl
    obtain ⟨c, hc1⟩ := List.length_eq_one_iff.1 hl.symm
    rw [hc1] at c1
    obtain ⟨u, hu, c1⟩ := one_reps c1
    cases hu
    exact ⟨c, hc1, c1⟩
 unfold OutV at hv
 unfold outSV
 split at hv
 ·rename_i o
  subst hv
  obtain ⟨_, _, he, k, _⟩ := svOs_rep hc hs
  cases he
  have hsz : o.size = cs.length := by
   obtain ⟨_, _, he, h1, _⟩ := hs
   cases he
   have := hc.length
   simp only [vcells, List.flatMap_cons, List.flatMap_nil, List.append_nil] at this
   cases hb : o.isAgg with
   | true => rw [hb] at h1; obtain ⟨ws, rfl, e⟩ := h1; simp [Value.cells] at this; omega
   | false => rw [hb] at h1; rw [h1.1] at this; simp at this; omega
  rwa [hsz, List.take_length] at k
 ·subst hv
  exact ⟨vs.toArray, rfl, tup hs hc⟩
theorem OOk.con {f : Nat} {c : OCon} (hc : OOk P f c) : ConOk P f c.con where
 fn := hc.fn
 calls := by
  intro w0 foot base S ctx E w args vs d r hR hv hr hcond hnew
  unfold OCon.con OCon.run at hr
  obtain ⟨cs, h1, hr⟩ := RM.run_bind' hr
  obtain ⟨⟨x, fr, it⟩, h2, hr⟩ := RM.run_bind' hr
  obtain ⟨_, h3, hr⟩ := RM.run_bind' hr
  cases hr
  simp only at hcond hnew ⊢
  have hg := run_guardR h3
  simp only [Bool.and_eq_true] at hg
  obtain ⟨hgal, hg⟩ := hg
  have hnd := nodupB_spec hg.1
  have hno := allNoId_spec hg.2
  have hvfull := hv
  have hv := del_reps (al := c.al) hv
  obtain ⟨hcs, hshape⟩ := svCells_rep h1 hv
  obtain ⟨k1, k2, k3⟩ := oClose_spec h2
  obtain ⟨E1, l1, q1, f1, hR1⟩ := hR.applyFro k1
  have hfz := Frozen.of_apply k1 hR1
  have hfind : ∀ n ∈ it.ids, find (applyFro fr S.bl) n = find S.bl n := fun n hn => find_applyFro_other (hno n hn)
  have hown : ∀ n ∈ it.ids, ∃ B, find (applyFro fr S.bl) n = some B ∧ B.mut = true := fun n hn => by rw [hfind n hn]; exact k2 n hn
  obtain ⟨pl, hat, hrep⟩ := k3 E1 w (vcells (delA c.al vs)) (hcs.mono l1) hfz fun n hn B hB => hR1.blks n B (by rw [hfind n hn]; exact hB)
  have hdist : ∀ i ∈ it.ids, ∀ j ∈ it.ids, i ≠ j → ∀ p r, E1.place i = some p → E1.place j = some r → p.nil = false → r.nil = false → p.blk ≠ r.blk := fun i hi j hj hij p r hp hr hpn hrn => by
   obtain ⟨B, hB, _⟩ := hown i hi
   obtain ⟨D, hD, _⟩ := hown j hj
   exact hR1.inj i j B D p r hB hD hp hr hpn hrn hij
  obtain ⟨hnp, hmem⟩ := ITAt_nodup hat hnd hdist
  have hblk : ∀ b, blksOf pl.list b ↔ ownBlk it.ids E1 b := fun b => by
   constructor
   ·rintro ⟨p, hp, hn, rfl⟩
    rcases hmem p hp with h | ⟨i, hi, h⟩
    ·rw [h] at hn; cases hn
    ·exact ⟨i, hi, p, h, hn, rfl⟩
   ·rintro ⟨i, hi, p, hp, hn, rfl⟩
    obtain ⟨p', h1, h2⟩ := ITAt_mem hat i hi
    rw [hp] at h2
    cases h2
    exact ⟨p, h1, hn, rfl⟩
  have hFn : ∀ p ∈ pl.list, p.nil = false → E1.F p.blk = none := fun p hp hn => by
   rcases hmem p hp with h | ⟨i, hi, h⟩
   ·rw [h] at hn; cases hn
   ·obtain ⟨B, hB, hm⟩ := hown i hi
    exact (hR1.own i B p hB h hn).2 hm
  have hpre : c.pre x := hcond _ (List.mem_singleton.2 rfl)
  obtain ⟨hins, hal⟩ := alIn_spec l1 hvfull hat hgal
  rw [hins]
  generalize delA c.al vs = vs at *
  refine (hc.calls E1.F w x vs pl hR1.frz hrep hshape hnp hFn hpre hal).mono fun e w' hp => ?_
  obtain ⟨v, F', vs', pl', qs, rfl, hF, hfrz, hsrc, hkeep, hov, hos, hor, hk, hnp2, hnew2⟩ := hp
  generalize hko : kOpen c.args (c.upd x) it (1000 * (d + 1)) = k at *
  have hI := kOpen_Ids c.args (c.upd x) it (1000 * (d + 1))
  have hfit := kOpen_fits (x := c.upd x) (n := 1000 * (d + 1)) hat hk
  have hfix := kOpen_fix (x := c.upd x) (n := 1000 * (d + 1)) hat hk
  rw [hko] at hI hfit hfix
  generalize hqo : oOpen (argTy c.outs) (c.fn x) k.2.2 = q at *
  have hJ := oOpen_ids (argTy c.outs) (c.fn x) k.2.2
  have hfit2 := oOpen_fits (x := c.fn x) (n := k.2.2) hor
  rw [hqo] at hJ hfit2
  obtain ⟨j1, j2, j3, j4⟩ := hJ
  have hused : ∀ i ∈ it.ids, i ∈ S.used := fun i hi => by
   obtain ⟨p, _, h⟩ := ITAt_mem hat i hi
   exact hR1.used i p h
  have hrange : ∀ i, 1000 * (d + 1) ≤ i → i < q.2.2.2 → i ∉ S.used := fun i h1 h2 => hnew i (mem_upTo.2 ⟨h1, by omega⟩)
  have hout : ∀ i ∈ it.ids, ¬ (1000 * (d + 1) ≤ i ∧ i < q.2.2.2) := fun i hi hh => hrange i hh.1 hh.2 (hused i hi)
  have hle := hI.le
  have nd1 : k.2.1.ids.Nodup := hI.nodup hnd fun i hi hh => hout i hi ⟨hh.1, by omega⟩
  have fitA : Fits (.pair k.2.1 q.2.2.1) (.pair pl' qs) := ⟨hfit, hfit2⟩
  obtain ⟨key1, key2⟩ := bindPT_keys fitA
  have ndA : (IT.pair k.2.1 q.2.2.1).ids.Nodup := by
   simp only [IT.ids]
   refine List.nodup_append.2 ⟨nd1, j3, fun i hi j hj e => ?_⟩
   subst e
   have g := j2 i hj
   rcases hI.old i hi with h | h
   ·exact hout i h ⟨by omega, g.2⟩
   ·omega
  have fnd : ∀ i p, (i, p) ∈ bindPT (.pair k.2.1 q.2.2.1) (.pair pl' qs) → find (bindPT (.pair k.2.1 q.2.2.1) (.pair pl' qs)) i = some p := fun i p hm => find_nodup (by rw [key1]; exact ndA) hm
  have place : ∀ i p, (i, p) ∈ bindPT (.pair k.2.1 q.2.2.1) (.pair pl' qs) → (E1.rebind F' (bindPT (.pair k.2.1 q.2.2.1) (.pair pl' qs))).place i = some p := fun i p hm => by
   show (match find _ i with | some p => some p | none => E1.place i) = some p
   rw [fnd i p hm]
  have hatA := bindPT_at fitA place
  have keysNB : (k.1 ++ q.2.1).map (·.1) = (IT.pair k.2.1 q.2.2.1).ids := by simp only [List.map_append, IT.ids, hI.keys, j4]
  have reps : ∀ i B, (i, B) ∈ k.1 ++ q.2.1 → ∃ p, (E1.rebind F' (bindPT (.pair k.2.1 q.2.2.1) (.pair pl' qs))).place i = some p ∧ BRep (E1.rebind F' (bindPT (.pair k.2.1 q.2.2.1) (.pair pl' qs))) w' p B ∧ p ∈ pl'.list ++ qs.list := fun i B hm => by
   rcases List.mem_append.1 hm with hm | hm
   ·have := kOpen_rep (E := E1) (E' := E1.rebind F' (bindPT (.pair k.2.1 q.2.2.1) (.pair pl' qs))) (n := 1000 * (d + 1)) rfl hc.okA hat hk (by rw [hko]; exact hatA.1) i B (by rw [hko]; exact hm)
    obtain ⟨p, e1, e2, e3, _⟩ := this
    exact ⟨p, e1, e2, List.mem_append_left _ e3⟩
   ·have := (oOpen_rep (E := E1.rebind F' (bindPT (.pair k.2.1 q.2.2.1) (.pair pl' qs))) (n := k.2.2) rfl hc.okO hor (by rw [hqo]; exact hatA.2)).2 i B (by rw [hqo]; exact hm)
    obtain ⟨p, e1, e2, e3, _⟩ := this
    exact ⟨p, e1, e2, List.mem_append_right _ e3⟩
  have memB : ∀ i B, (i, B) ∈ k.1 ++ q.2.1 → ∃ p, (i, p) ∈ bindPT (.pair k.2.1 q.2.2.1) (.pair pl' qs) := fun i B hm => by
   have : i ∈ (bindPT (.pair k.2.1 q.2.2.1) (.pair pl' qs)).map (·.1) := by
    rw [key1, ← keysNB]
    exact List.mem_map_of_mem (f := (·.1)) hm
   obtain ⟨⟨i', p⟩, h1, h2⟩ := List.mem_map.1 this
   cases h2
   exact ⟨p, h1⟩
  have hsw := hR1.swap (L := it.ids) hown (w' := w') (F' := F') (NB := k.1 ++ q.2.1) (fresh := upTo (1000 * (d + 1)) (q.2.2.2 - 1000 * (d + 1))) (bd := bindPT (.pair k.2.1 q.2.2.1) (.pair pl' qs))
   hF hfrz (fun b o hb => by rcases hsrc b o hb with h | h | h; exact .inl h; exact .inr (.inl h); exact .inr (.inr ((hblk b).1 h)))
   ⟨hkeep.os, hkeep.tape, hkeep.output, hkeep.size, fun b hb hnb => hkeep.block b hb fun h => hnb ((hblk b).1 h)⟩ hnew
   (fun i p hf => by
    have hm := find_mem hf
    simp only [bindPT, List.mem_append] at hm
    rcases hm with hm | hm
    ·rcases hfix i p hm with h | h
     ·exact .inl (mem_upTo.2 ⟨h.1, by omega⟩)
     ·exact .inr h
    ·left
     have : i ∈ q.2.2.1.ids := by
      rw [← (bindPT_keys hfit2).1]
      exact List.mem_map_of_mem (f := (·.1)) hm
     have := j2 i this
     exact mem_upTo.2 ⟨by omega, by omega⟩)
   (fun i B hm => by
    have : i ∈ (IT.pair k.2.1 q.2.2.1).ids := by rw [← keysNB]; exact List.mem_map_of_mem (f := (·.1)) hm
    simp only [IT.ids, List.mem_append] at this
    rcases this with h | h
    ·rcases hI.old i h with h | h
     ·exact .inl h
     ·exact .inr (mem_upTo.2 ⟨h.1, by omega⟩)
    ·have := j2 i h
     exact .inr (mem_upTo.2 ⟨by omega, by omega⟩))
   (fun i B hm => by
    obtain ⟨p, e1, e2, e3⟩ := reps i B hm
    refine ⟨p, e1, e2, fun hn => ?_⟩
    obtain ⟨g1, g2⟩ := hnew2 p e3 hn
    exact ⟨g1.imp_left (hblk p.blk).1, g2⟩)
   (fun i B j D p r hi hj hij hp hr hpn hrn => by
    obtain ⟨p', hp'⟩ := memB i B hi
    obtain ⟨r', hr'⟩ := memB j D hj
    have e1 := place i p' hp'
    have e2 := place j r' hr'
    rw [hp] at e1
    rw [hr] at e2
    cases e1
    cases e2
    refine NodupP.apart (l := bindPT (.pair k.2.1 q.2.2.1) (.pair pl' qs)) ?_ hp' hr' hij hpn hrn
    rw [key2]
    exact hnp2)
  obtain ⟨hle2, hR2⟩ := hsw
  refine ⟨v, _, rfl, l1.trans hle2, ?_, ?_⟩
  ·refine hR2.congr (fun i B hf => ?_) (by simp only; exact fun _ h => h)
   have hf : find (putAll (k.1 ++ q.2.1) (applyFro fr (it.ids.foldl rem S.bl))) i = some B := by
    have e : applyBl { val := some (outSV c.outs q.1), blks := fr ++ (k.1 ++ q.2.1), del := it.ids, new := upTo (1000 * (d + 1)) (q.2.2.2 - 1000 * (d + 1)), conds := [c.pre x] } S.bl = putAll (k.1 ++ q.2.1) (applyFro fr (it.ids.foldl rem S.bl)) := by
     simp [applyBl, putAll, applyFro, List.foldl_append]
    rw [← e]
    exact hf
   have swapFind : ∀ {i : Nat}, find (applyFro fr (it.ids.foldl rem S.bl)) i = find (it.ids.foldl rem (applyFro fr S.bl)) i := fun {i} => by
    by_cases hi : i ∈ it.ids
    ·have e2 : find (it.ids.foldl rem (applyFro fr S.bl)) i = none := by
      cases h : find (it.ids.foldl rem (applyFro fr S.bl)) i with
      | none => rfl
      | some B => exact absurd hi (find_remAll h).2
     have e3 : find (it.ids.foldl rem S.bl) i = none := by
      cases h : find (it.ids.foldl rem S.bl) i with
      | none => rfl
      | some B => exact absurd hi (find_remAll h).2
     rw [e2, find_applyFro_other (hno i hi), e3]
    ·rw [find_remAll_keep hi]
     have gen : ∀ {fr : Fro} {b1 b2 : List (Nat × Blk)}, find b1 i = find b2 i → find (applyFro fr b1) i = find (applyFro fr b2) i := by
      intro fr
      induction fr with
      | nil => intro b1 b2 h; exact h
      | cons p fr ih =>
       intro b1 b2 h
       refine ih ?_
       by_cases e : p.1 = i
       ·subst e; rw [find_put_same, find_put_same]
       ·rw [find_put_other _ _ _ _ e, find_put_other _ _ _ _ e]; exact h
     exact gen (find_remAll_keep hi)
   have genP : ∀ {l b1 b2 : List (Nat × Blk)}, (∀ {i : Nat}, find b1 i = find b2 i) → ∀ {i : Nat}, find (putAll l b1) i = find (putAll l b2) i := by
    intro l
    induction l with
    | nil => intro b1 b2 h i; exact h
    | cons p l ih =>
     intro b1 b2 h i
     refine ih fun {j} => ?_
     by_cases e : p.1 = j
     ·subst e; rw [find_put_same, find_put_same]
     ·rw [find_put_other _ _ _ _ e, find_put_other _ _ _ _ e]; exact h
   rw [← genP swapFind]
   exact hf
  ·have := (oOpen_rep (E := E1.rebind F' (bindPT (.pair k.2.1 q.2.2.1) (.pair pl' qs))) (n := k.2.2) rfl hc.okO hor (by rw [hqo]; exact hatA.2)).1
   rw [hqo] at this
   exact outSV_rep hov hos this
end Go.Vc
end

section
set_option linter.unusedVariables false
set_option linter.unusedSimpArgs false
namespace Go.Vc
open Go
variable {P : Program} {X : Ctx} {w0 : World} {foot : Foot} {base : Mem} {S T : St} {E : Env} {a : Act} {w : World} {ctx : Tags}
def slotsOf : List SV → Nat → List (Nat × (Tags × SV))
 | [], _ => []
 | s :: ss, i => (i, [], s) :: slotsOf ss (i + 1)
def own0 : Nat := 1000000
def oS0 (fn : Func) (c : OCon) (x : (argTy c.args).den) : St :=
 let r := oOpen (argTy c.args) x own0
 {sl := slotsOf (insS c.al (svOs c.args r.1) r.2.2.1) 0, bl := r.2.1, used := r.2.2.1.ids, n := fn.ntmps, pin := r.2.2.1.ids }
def oEqs : (o : OTy) → o.den → o.den → List Prop
 | .pair a b, x, y => oEqs a x.1 y.1 ++ oEqs b x.2 y.2
 | .cells _ o, x, y => oEqs o x y
 | .mclo _ o, x, y => oEqs o x y
 | .gone o, x, y => oEqs o x y
 | .unit, _, _ => []
 | _, x, y => [x = y]
theorem oEqs_eq : ∀ {o : OTy} {x y : o.den}, (∀ p ∈ oEqs o x y, p) → x = y
 | .pair a b, x, y, h => by
  have h1 := oEqs_eq (o := a) (x := x.1) (y := y.1) fun p hp => h p (List.mem_append_left _ hp)
  have h2 := oEqs_eq (o := b) (x := x.2) (y := y.2) fun p hp => h p (List.mem_append_right _ hp)
  exact Prod.ext h1 h2
 | .cells _ o, x, y, h => oEqs_eq (o := o) h
 | .mclo _ o, x, y, h => oEqs_eq (o := o) h
 | .gone o, x, y, h => oEqs_eq (o := o) h
 | .unit, _, _, _ => rfl
 | .dat t, x, y, h => h _ (List.mem_singleton.2 rfl)
 | .row e t, x, y, h => h _ (List.mem_singleton.2 rfl)
 | .map _ _, x, y, h => h _ (List.mem_singleton.2 rfl)
def optEq : Option Nat → Option Nat → Bool
 | none, none => true
 | some m, some n => Nat.beq m n
 | _, _ => false
def itFix : OTy → Bool → IT → IT → Bool
 | .row _ _, top, .row a, .row b => !top || optEq a b
 | .row _ _, top, _, _ => !top
 | .map _ _, top, .row a, .row b => !top || optEq a b
 | .map _ _, top, _, _ => !top
 | .cells fx o, top, .cells m t, .cells m' t' => !(fx || top) || (Nat.beq m m' && itFix o false t t')
 | .mclo _ o, _, t, t' => itFix o false t t'
 | .pair a b, _, .pair p q, .pair p' q' => itFix a false p p' && itFix b false q q'
 | _, _, _, _ => true
theorem ITAt_eq : ∀ {t : IT} {p q : PT}, ITAt E t p → ITAt E t q → p = q
 | .nil, .nil, .nil, _, _ => rfl
 | .row none, .row p, .row q, h, k => by rw [show p = _ from h, show q = _ from k]
 | .row (some n), .row p, .row q, h, k => by
  have h : E.place n = some p := h
  have k : E.place n = some q := k
  rw [h] at k
  cases k
  rfl
 | .cells n t, .cells p q, .cells p' q', h, k => by
  have h1 := h.1
  rw [k.1] at h1
  cases h1
  rw [ITAt_eq h.2 k.2]
 | .pair a b, .pair p q, .pair p' q', h, k => by rw [ITAt_eq h.1 k.1, ITAt_eq h.2 k.2]
theorem itFix_spec : ∀ {o : OTy} {top : Bool} {t t' : IT} {p p' : PT}, itFix o top t t' = true → ITAt E t p → ITAt E t' p' → OFix o top p p' := by
 intro o
 induction o with
 | row e ty =>
  intro top t t' p p' h hp hp' htop
  subst htop
  cases t with
  | row a =>
   cases t' with
   | row b =>
    have hab : a = b := by
     simp only [itFix, Bool.not_true, Bool.false_or] at h
     cases a <;> cases b <;> simp [optEq] at h ⊢
     exact h
    subst hab
    exact ITAt_eq hp' hp
   | nil => cases h
   | cells _ _ => cases h
   | pair _ _ => cases h
  | nil => cases h
  | cells _ _ => cases h
  | pair _ _ => cases h
 | map a' b' =>
  intro top t t' p p' h hp hp' htop
  subst htop
  cases t with
  | row a =>
   cases t' with
   | row b =>
    have hab : a = b := by
     simp only [itFix, Bool.not_true, Bool.false_or] at h
     cases a <;> cases b <;> simp [optEq] at h ⊢
     exact h
    subst hab
    exact ITAt_eq hp' hp
   | nil => cases h
   | cells _ _ => cases h
   | pair _ _ => cases h
  | nil => cases h
  | cells _ _ => cases h
  | pair _ _ => cases h
 | cells fx o ih =>
  intro top t t' p p' h hp hp'
  cases p with
  | cells q0 q =>
   cases p' with
   | cells q0' q' =>
    intro htop
    cases t with
    | cells m u =>
     cases t' with
     | cells m' u' =>
      simp only [itFix, htop, Bool.not_true, Bool.false_or, Bool.and_eq_true] at h
      have hm := Nat.eq_of_beq_eq_true h.1
      subst hm
      have h1 := hp.1
      rw [hp'.1] at h1
      cases h1
      exact ⟨rfl, ih h.2 hp.2 hp'.2⟩
     | nil => cases hp'
     | row b => cases b <;> cases hp'
     | pair _ _ => cases hp'
    | nil => cases hp
    | row b => cases b <;> cases hp
    | pair _ _ => cases hp
   | nil => trivial
   | row _ => trivial
   | pair _ _ => trivial
  | nil => trivial
  | row _ => trivial
  | pair _ _ => trivial
 | mclo k o ih =>
  intro top t t' p p' h hp hp'
  have := ih h hp hp'
  cases p <;> cases p' <;> exact this
 | pair a b iha ihb =>
  intro top t t' p p' h hp hp'
  cases p with
  | pair p q =>
   cases p' with
   | pair p' q' =>
    cases t with
    | pair u v =>
     cases t' with
     | pair u' v' =>
      simp only [itFix, Bool.and_eq_true] at h
      exact ⟨iha h.1 hp.1 hp'.1, ihb h.2 hp.2 hp'.2⟩
     | nil => cases hp'
     | row b => cases b <;> cases hp'
     | cells _ _ => cases hp'
    | nil => cases hp
    | row b => cases b <;> cases hp
    | cells _ _ => cases hp
   | nil => trivial
   | row _ => trivial
   | cells _ _ => trivial
  | nil => trivial
  | row _ => trivial
  | cells _ _ => trivial
 | dat t => intro top t t' p p' _ _ _; trivial
 | unit => intro top t t' p p' _ _ _; cases p <;> cases p' <;> trivial
 | gone o _ => intro top t t' p p' _ _ _; trivial
def kClose : (os : List OTy) → List C → IT → (argTy os).den → RM (List Prop × Fro × IT)
 | [], _, _, _ => .ret ([], [], .nil)
 | o :: os, cs, it, y => (match it with
  | .pair s t => do
   let q ← kClose os (cs.drop o.size) t y.2
   match o.kept with
   | true => (do
    let r ← oClose o (cs.take o.size)
    guardR (itFix o true s r.2.2 && froApart r.2.1 q.2.1)
    return (oEqs o r.1 y.1 ++ q.1, r.2.1 ++ q.2.1, .pair r.2.2 q.2.2))
   | false => .ret (q.1, q.2.1, .pair .nil q.2.2)
  | _ => .fail)
def resSVs (X : Ctx) : List ResultVar → RM (List SV)
 | [] => .ret []
 | r :: rs => do
  let s ← resR X r
  let ss ← resSVs X rs
  return (s :: ss)
def ooutR (X : Ctx) (rs : List ResultVar) (c : OCon) (x : (argTy c.args).den) : RM (List Prop) := do
 let ss ← resSVs X rs
 let cs ← svCells c.outs ss
 let r ← oClose (argTy c.outs) cs
 let i := oOpen (argTy c.args) x own0
 let k ← kClose c.args i.1 i.2.2.1 (c.upd x)
 let ids := k.2.2.ids ++ r.2.2.ids
 guardR (froApart k.2.1 r.2.1 && (nodupB ids && allNoId (k.2.1 ++ r.2.1) ids))
 return (oEqs (argTy c.outs) r.1 (c.fn x) ++ k.1)
def oretPost (X : Ctx) (rs : List ResultVar) (c : OCon) (x : (argTy c.args).den) : Ex → St → Prop
 | .exit _, _ => False
 | _, S => match (ooutR X rs c x).run S [] with
  | some ps => conjP ps True
  | none => False
@[irreducible] def obodyVC (X : Ctx) (fn : Func) (c : OCon) (A : Ann) (x : (argTy c.args).den) : Prop :=
 match fn.body with
 | some code => vc X A code (oS0 fn c x) (oretPost X fn.results.toList c x)
 | none => False
def ofnOk (fn : Func) (c : OCon) : Bool := Nat.ble (c.args.length + alLen c.al) fn.ntmps && (fn.body.isSome && ((argTy c.args).ok && ((argTy c.outs).ok && Nat.beq fn.results.toList.length c.outs.length)))
theorem argTy_ok : ∀ {os : List OTy}, (argTy os).ok = true → ∀ o ∈ os, o.ok = true
 | [], _, o, ho => by cases ho
 | o' :: os, h, o, ho => by
  simp only [argTy, OTy.ok, Bool.and_eq_true] at h
  rcases List.mem_cons.1 ho with rfl | ho
  ·exact h.1
  ·exact argTy_ok h.2 o ho
theorem slotsOf_rep : ∀ {ss : List SV} {vs : List Value} {i : Nat}, SReps E ss vs → ∀ n tags v, find (slotsOf ss i) n = some (tags, v) → tags = [] ∧ i ≤ n ∧ n < i + vs.length ∧ SRep E v (vs.getD (n - i) undef)
 | [], vs, i, h, n, tags, v, hf => by cases hf
 | s :: ss, vs, i, h, n, tags, v, hf => by
  obtain ⟨u, us, rfl, k1, k2⟩ := h
  unfold slotsOf at hf
  by_cases e : i = n
  ·subst e
   have : some (([] : Tags), s) = some (tags, v) := by simpa [find] using hf
   cases this
   exact ⟨rfl, Nat.le_refl _, by simp, by simpa using k1⟩
  ·rw [find_skip e] at hf
   obtain ⟨h1, h2, h3, h4⟩ := slotsOf_rep k2 n tags v hf
   refine ⟨h1, by omega, by simp only [List.length_cons]; omega, ?_⟩
   have : n - i = (n - (i + 1)) + 1 := by omega
   rw [this]
   simpa using h4
def placeOf (bd : List (Nat × Place)) (n : Nat) : Option Place := find bd n
theorem obegin_rel {fn : Func} {c : OCon} {x : (argTy c.args).den} {F : Mem} {vs : List Value} {pl : PT} (hok : (argTy c.args).ok = true) (hlen : c.args.length + alLen c.al ≤ fn.ntmps) (hF : ∀ b o, F b = some o → w.heap[b]? = some o)
  (hx : ORep F w (argTy c.args) x (vcells vs) pl) (hs : Shape c.args vs) (hnp : NodupP pl.list) (hFn : ∀ p ∈ pl.list, p.nil = false → F p.blk = none) (hal : AlOk c.al pl) :
  ITAt ⟨F, placeOf (bindPT (oOpen (argTy c.args) x own0).2.2.1 pl)⟩ (oOpen (argTy c.args) x own0).2.2.1 pl ∧
  TRel w ⟨blksOf pl.list, placeOf (bindPT (oOpen (argTy c.args) x own0).2.2.1 pl)⟩ F (oS0 fn c x) ⟨F, placeOf (bindPT (oOpen (argTy c.args) x own0).2.2.1 pl)⟩ { tmps := (insV c.al vs pl).toArray ++ Array.replicate (fn.ntmps - (insV c.al vs pl).toArray.size) undef, defers := [] } w := by
 obtain ⟨h1, h2, h3, h4⟩ := oOpen_ids (argTy c.args) x own0
 have hfit := oOpen_fits (x := x) (n := own0) hx
 obtain ⟨key1, key2⟩ := bindPT_keys hfit
 have nd : ((bindPT (oOpen (argTy c.args) x own0).2.2.1 pl).map (·.1)).Nodup := by rw [key1]; exact h3
 have place : ∀ i p, (i, p) ∈ bindPT (oOpen (argTy c.args) x own0).2.2.1 pl → placeOf (bindPT (oOpen (argTy c.args) x own0).2.2.1 pl) i = some p := fun i p hm => find_nodup nd hm
 have hat : ITAt ⟨F, placeOf (bindPT (oOpen (argTy c.args) x own0).2.2.1 pl)⟩ (oOpen (argTy c.args) x own0).2.2.1 pl := bindPT_at hfit place
 obtain ⟨hcs, hbl⟩ := oOpen_rep (E := ⟨F, placeOf (bindPT (oOpen (argTy c.args) x own0).2.2.1 pl)⟩) (n := own0) rfl hok hx hat
 have hsl0 := svOs_rep hcs hs
 have hvl0 := hs.length
 have hsl : SReps ⟨F, placeOf (bindPT (oOpen (argTy c.args) x own0).2.2.1 pl)⟩ (insS c.al (svOs c.args (oOpen (argTy c.args) x own0).1) (oOpen (argTy c.args) x own0).2.2.1) (insV c.al vs pl) := by
  cases hc : c.al with
  | none => exact hsl0
  | some a =>
   obtain ⟨pos, path⟩ := a
   rw [hc] at hal
   obtain ⟨p, hp, hpn⟩ := hal
   obtain ⟨n, hn⟩ := selP_fits hfit hp
   obtain ⟨p', k1, k2⟩ := selI_at hat hn
   rw [hp] at k1
   cases k1
   unfold insS insV
   simp only [hp, hn]
   exact hsl0.ins ⟨p, k2, hpn, rfl⟩
 have hvl : (insV c.al vs pl).length = c.args.length + alLen c.al := by
  cases hc : c.al with
  | none => exact hvl0
  | some a =>
   obtain ⟨pos, path⟩ := a
   rw [hc] at hal
   obtain ⟨p, hp, hpn⟩ := hal
   unfold insV alLen
   simp only [hp]
   rw [insAt_length, hvl0]
 clear hsl0
 have bnd : ∀ i p, placeOf (bindPT (oOpen (argTy c.args) x own0).2.2.1 pl) i = some p → (i, p) ∈ bindPT (oOpen (argTy c.args) x own0).2.2.1 pl := fun i p h => find_mem h
 have inL : ∀ i p, placeOf (bindPT (oOpen (argTy c.args) x own0).2.2.1 pl) i = some p → p ∈ pl.list ∧ i ∈ (oOpen (argTy c.args) x own0).2.2.1.ids := fun i p h => by
  have hm := bnd i p h
  exact ⟨by rw [← key2]; exact List.mem_map_of_mem (f := (·.2)) hm, by rw [← key1]; exact List.mem_map_of_mem (f := (·.1)) hm⟩
 refine ⟨hat, { keep := .refl _ _, frz := hF, src := fun b o hb => .inl hb, blks := fun i B hf => ?_, own := fun i B p hf hp hn => ?_, inj := fun i j B D p q hf hf' hp hq hn hn' hij => ?_, used := fun i p hp => (inL i p hp).2, slots := fun n tags v hf ht => ?_, size := ?_, defers := rfl, pins := fun n p hp => ⟨(inL n p hp).2, hp⟩, untagged := fun n tags v hf ht => ?_ }⟩
 ·obtain ⟨p, e1, e2, _⟩ := hbl i B (find_mem hf)
  exact ⟨p, e1, e2⟩
 ·obtain ⟨hm, _⟩ := inL i p hp
  exact ⟨.inr ⟨p, hm, hn, rfl⟩, fun _ => hFn p hm hn⟩
 ·refine NodupP.apart (l := bindPT (oOpen (argTy c.args) x own0).2.2.1 pl) (by rw [key2]; exact hnp) (bnd i p hp) (bnd j q hq) hij hn hn'
 ·obtain ⟨g1, g2, g3, g4⟩ := slotsOf_rep hsl n tags v hf
  rw [Nat.sub_zero] at g4
  generalize insV c.al vs pl = ws at *
  have hn : n < ws.length := by omega
  have : (ws.toArray ++ Array.replicate (fn.ntmps - ws.toArray.size) undef).getD n undef = ws.getD n undef := by
   rw [Array.getD_eq_getD_getElem?, Array.getElem?_append_left (by simpa using hn)]
   simp [List.getD_eq_getElem?_getD]
  show SRep _ v ((ws.toArray ++ Array.replicate (fn.ntmps - ws.toArray.size) undef).getD n undef)
  rw [this]
  exact g4
 ·generalize insV c.al vs pl = ws at *
  show (ws.toArray ++ Array.replicate (fn.ntmps - ws.toArray.size) undef).size = fn.ntmps
  simp
  omega
 ·obtain ⟨g1, _⟩ := slotsOf_rep hsl n tags v hf
  subst g1
  exact absurd (fun t ht => by cases ht) ht
theorem resSVs_rep (hT : TabOk P X.tab) (h : TRel w0 foot base S E a w) : ∀ {rs : List ResultVar} {ss : List SV}, (resSVs X rs).run S [] = some ss → ∃ vs, (rs.mapM (rd a.tmps)).run P w = .ok vs w ∧ SReps E ss vs
 | [], ss, hr => by cases hr; exact ⟨[], rfl, rfl⟩
 | r :: rs, ss, hr => by
  unfold resSVs at hr
  obtain ⟨s, h1, hr⟩ := RM.run_bind' hr
  obtain ⟨ss', h2, hr⟩ := RM.run_bind' hr
  cases RM.run_pure' hr
  obtain ⟨v, g1, g2⟩ := resR_sound hT h h1
  obtain ⟨vs, k1, k2⟩ := resSVs_rep hT h h2
  exact ⟨v :: vs, by simp [List.mapM_cons, g1, k1], v, vs, rfl, g2, k2⟩
theorem KReps.of : ∀ {os : List OTy} {cs : List C} {it0 : IT} {y : (argTy os).den} {ps : List Prop} {fr : Fro} {it : IT} {vs : List Value} {pl : PT},
  (kClose os cs it0 y).run S ctx = some (ps, fr, it) →
  (FroOk S.bl fr ∧ (∀ n ∈ it.ids, ∃ B, find S.bl n = some B ∧ B.mut = true)) ∧
  ((∀ p ∈ ps, p) → CReps E cs vs → ITAt E it0 pl → Frozen S.bl E w fr → (∀ n ∈ it.ids, ∀ B, find S.bl n = some B → ∃ p, E.place n = some p ∧ BRep E w p B) → ∃ pl', ITAt E it pl' ∧ KReps E.F w os y vs pl pl')
 | [], cs, it0, y, ps, fr, it, vs, pl, hr => by
  cases hr
  exact ⟨⟨.nil, fun n hn => (by cases hn)⟩, fun _ _ _ _ _ => ⟨.nil, trivial, rfl⟩⟩
 | o :: os, cs, it0, y, ps, fr, it, vs, pl, hr => by
  unfold kClose at hr
  split at hr
  ·rename_i s t
   obtain ⟨⟨qs, g, u⟩, h1, hr⟩ := RM.run_bind' hr
   obtain ⟨⟨k1, k2⟩, k3⟩ := KReps.of (vs := vs.drop o.size) (pl := match pl with | .pair _ q => q | _ => .nil) h1
   split at hr
   ·rename_i hk
    obtain ⟨⟨z, f, v⟩, h2, hr⟩ := RM.run_bind' hr
    obtain ⟨_, h3, hr⟩ := RM.run_bind' hr
    cases RM.run_pure' hr
    have hg := run_guardR h3
    simp only [Bool.and_eq_true] at hg
    obtain ⟨c1, c2, c3⟩ := oClose_spec h2
    refine ⟨⟨c1.append k1 hg.2, fun n hn => ?_⟩, fun hp hcs hat hf hb => ?_⟩
    ·simp only [IT.ids, List.mem_append] at hn
     rcases hn with hn | hn
     ·exact c2 n hn
     ·exact k2 n hn
    ·cases pl with
     | pair p q =>
      obtain ⟨q', m1, m2⟩ := k3 (fun p hp' => hp p (List.mem_append_right _ hp')) (hcs.drop _) hat.2 hf.right fun n hn => hb n (by simp [IT.ids, hn])
      obtain ⟨p', n1, n2⟩ := c3 E w _ (hcs.take o.size) hf.left fun n hn => hb n (by simp [IT.ids, hn])
      have hz : z = y.1 := oEqs_eq fun p hp' => hp p (List.mem_append_left _ hp')
      subst hz
      refine ⟨.pair p' q', ⟨n1, m1⟩, p, q, p', q', rfl, rfl, m2, ?_⟩
      rw [hk]
      exact ⟨n2, itFix_spec hg.1 hat.1 n1⟩
     | nil => cases hat
     | row _ => cases hat
     | cells _ _ => cases hat
   ·rename_i hk
    cases hr
    refine ⟨⟨k1, fun n hn => ?_⟩, fun hp hcs hat hf hb => ?_⟩
    ·simp only [IT.ids, List.nil_append] at hn
     exact k2 n hn
    ·cases pl with
     | pair p q =>
      obtain ⟨q', m1, m2⟩ := k3 hp (hcs.drop _) hat.2 hf fun n hn => hb n (by simp [IT.ids, hn])
      refine ⟨.pair .nil q', ⟨trivial, m1⟩, p, q, .nil, q', rfl, rfl, m2, ?_⟩
      rw [hk]
     | nil => cases hat
     | row _ => cases hat
     | cells _ _ => cases hat
  ·cases hr
theorem OOk.of (hT : TabOk P X.tab) (hK : ∀ f con, X.con f = some con → ConOk P f con) {f : Nat} {fn : Func} {c : OCon} {A : (argTy c.args).den → Ann} (hf : P.funcs[f]? = some fn) (hn : (fn.name == "runtime.NumGoroutine") = false)
  (ho : ofnOk fn c = true) (hv : ∀ x, (argTy c.args).wf x → c.pre x → obodyVC X fn c (A x) x) : OOk P f c := by
 simp only [ofnOk, Bool.and_eq_true] at ho
 obtain ⟨hlen, hbody, hokA, hokO, hres⟩ := ho
 have hlen := Nat.le_of_ble_eq_true hlen
 have hres := Nat.eq_of_beq_eq_true hres
 refine ⟨?_, argTy_ok hokA, hokO, fun F w x vs pl hF hx hs hnp hFn hpre hal => ?_⟩
 ·obtain ⟨code, hb⟩ := Option.isSome_iff_exists.1 hbody
  exact ⟨fn, code, hf, hn, hb⟩
 ·have h := hv x hx.wf hpre
  unfold obodyVC at h
  cases hb : fn.body with
  | none => rw [hb] at h; cases h
  | some code =>
   rw [hb] at h
   obtain ⟨hat0, hbeg⟩ := obegin_rel (fn := fn) hokA hlen hF hx hs hnp hFn hal
   refine calls_of_wp hf hb ?_
   refine wp_mono (vc_sound hT hK h hbeg) fun e a w' hp => ?_
   have done : ∀ S E, (match (ooutR X fn.results.toList c x).run S [] with | some ps => conjP ps True | none => False) → TRel w ⟨blksOf pl.list, placeOf (bindPT (oOpen (argTy c.args) x own0).2.2.1 pl)⟩ F S E a w' → a.defers = [] ∧ ∃ v, (results fn a.tmps).run P w' = .ok v w' ∧
     ∃ v' F' vs' pl' qs, Ending.returned v = .returned v' ∧ F.le F' ∧ (∀ b o, F' b = some o → w'.heap[b]? = some o) ∧ (∀ b o, F' b = some o → F b = some o ∨ w.heap.size ≤ b ∨ blksOf pl.list b) ∧
     Keep (blksOf pl.list) w w' ∧ OutV c.outs v' vs' ∧ Shape c.outs vs' ∧ ORep F' w' (argTy c.outs) (c.fn x) (vcells vs') qs ∧ KReps F' w' c.args (c.upd x) (vcells vs) pl pl' ∧
     NodupP (pl'.list ++ qs.list) ∧ ∀ p ∈ pl'.list ++ qs.list, p.nil = false → (blksOf pl.list p.blk ∨ w.heap.size ≤ p.blk) ∧ F' p.blk = none := fun S E hq hR => by
    split at hq
    ·rename_i ps hps
     have hq := (conjP_elim hq).1
     unfold ooutR at hps
     obtain ⟨ss, h1, hps⟩ := RM.run_bind' hps
     obtain ⟨cs, h2, hps⟩ := RM.run_bind' hps
     obtain ⟨⟨y, fr, it⟩, h3, hps⟩ := RM.run_bind' hps
     obtain ⟨⟨ks, fk, ik⟩, h4, hps⟩ := RM.run_bind' hps
     obtain ⟨_, h5, hps⟩ := RM.run_bind' hps
     cases RM.run_pure' hps
     have hg := run_guardR h5
     simp only [Bool.and_eq_true] at hg
     obtain ⟨hap, hnd, hno⟩ := hg
     have hnd := nodupB_spec hnd
     have hno := allNoId_spec hno
     obtain ⟨vs', r1, r2⟩ := resSVs_rep hT hR h1
     obtain ⟨d1, d2, d3⟩ := oClose_spec h3
     obtain ⟨⟨e1, e2⟩, _⟩ := KReps.of (E := E) (w := w') (vs := []) (pl := .nil) h4
     have hfo := e1.append d1 hap
     obtain ⟨E1, l1, q1, f1, hR1⟩ := hR.toHRel.applyFro hfo
     have hfz := Frozen.of_apply hfo hR1
     have hids : ∀ n ∈ (IT.pair ik it).ids, ∃ B, find S.bl n = some B ∧ B.mut = true := fun n hn => by
      simp only [IT.ids, List.mem_append] at hn
      rcases hn with hn | hn
      ·exact e2 n hn
      ·exact d2 n hn
     have hfind : ∀ n ∈ (IT.pair ik it).ids, find (applyFro (fk ++ fr) S.bl) n = find S.bl n := fun n hn => find_applyFro_other (hno n hn)
     have hFw : ∀ b o, F b = some o → w'.heap[b]? = some o := fun b o hb => by
      rw [hR1.keep.block b (heap_lt (hF b o hb)) fun h => ?_]
      ·exact hF b o hb
      ·obtain ⟨p, hp, hpn, hpb⟩ := h
       rw [← hpb, hFn p hp hpn] at hb
       cases hb
     have j1 : F.le (joinMem F E1.F) := fun b o hb => by unfold joinMem; rw [hb]
     have j2 : E1.F.le (joinMem F E1.F) := fun b o hb => by
      unfold joinMem
      split
      ·rename_i o' ho'
       rw [← hFw b o' ho', hR1.frz b o hb]
      ·exact hb
     have j3 : ∀ b o, joinMem F E1.F b = some o → w'.heap[b]? = some o := fun b o hb => by
      unfold joinMem at hb
      split at hb
      ·rename_i o' ho'; cases hb; exact hFw b _ ho'
      ·exact hR1.frz b o hb
     have j4 : ∀ b o, joinMem F E1.F b = some o → F b = some o ∨ w.heap.size ≤ b ∨ blksOf pl.list b := fun b o hb => by
      unfold joinMem at hb
      split at hb
      ·rename_i o' ho'; cases hb; exact .inl ho'
      ·exact hR1.src b o hb
     have lJ : E1.le ⟨joinMem F E1.F, E1.place⟩ := ⟨j2, fun _ _ h => h⟩
     have hblk : ∀ n ∈ (IT.pair ik it).ids, ∀ B, find S.bl n = some B → ∃ p, E1.place n = some p ∧ BRep ⟨joinMem F E1.F, E1.place⟩ w' p B := fun n hn B hB => by
      obtain ⟨p, g1, g2⟩ := hR1.blks n B (by rw [hfind n hn]; exact hB)
      exact ⟨p, g1, g2.mono lJ⟩
     have hfzJ : Frozen S.bl ⟨joinMem F E1.F, E1.place⟩ w' (fk ++ fr) := fun q hq => by
      obtain ⟨p, g1, g2⟩ := hfz q hq
      exact ⟨p, g1, g2.mono lJ⟩
     have nd0 : ((bindPT (oOpen (argTy c.args) x own0).2.2.1 pl).map (·.1)).Nodup := by
      rw [(bindPT_keys (oOpen_fits hx)).1]
      exact (oOpen_ids (argTy c.args) x own0).2.2.1
     have hpin : ITAt ⟨joinMem F E1.F, E1.place⟩ (oOpen (argTy c.args) x own0).2.2.1 pl := by
      refine bindPT_at (oOpen_fits hx) fun i p hm => ?_
      show E1.place i = some p
      rw [q1]
      exact (hR.pins i p (find_nodup nd0 hm)).2
     have hcs0 : CReps ⟨joinMem F E1.F, E1.place⟩ (oOpen (argTy c.args) x own0).1 (vcells vs) := by
      have := (oOpen_rep (E := ⟨F, placeOf (bindPT (oOpen (argTy c.args) x own0).2.2.1 pl)⟩) (n := own0) rfl hokA hx hat0).1
      exact this.mono ⟨j1, fun i p hp => by show E1.place i = some p; rw [q1]; exact (hR.pins i p hp).2⟩
     obtain ⟨hcsO, hshO⟩ := svCells_rep h2 r2
     obtain ⟨qs, m1, m2⟩ := d3 ⟨joinMem F E1.F, E1.place⟩ w' (vcells vs') (hcsO.mono ((show E.le E1 from l1).trans lJ)) hfzJ.right fun n hn => hblk n (by simp [IT.ids, hn])
     have hy : y = c.fn x := oEqs_eq fun p hp => hq p (List.mem_append_left _ hp)
     subst hy
     obtain ⟨_, e3⟩ := KReps.of (E := ⟨joinMem F E1.F, E1.place⟩) (w := w') (vs := vcells vs) (pl := pl) h4
     obtain ⟨pl', n1, n2⟩ := e3 (fun p hp => hq p (List.mem_append_right _ hp)) hcs0 hpin hfzJ.left fun n hn => hblk n (by simp [IT.ids, hn])
     have hatA : ITAt ⟨joinMem F E1.F, E1.place⟩ (.pair ik it) (.pair pl' qs) := ⟨n1, m1⟩
     obtain ⟨g1, g2⟩ := ITAt_nodup hatA hnd fun i hi j hj hij p r hp hr hpn hrn => by
      obtain ⟨B, hB, _⟩ := hids i hi
      obtain ⟨D, hD, _⟩ := hids j hj
      exact hR1.inj i j B D p r (by rw [hfind i hi]; exact hB) (by rw [hfind j hj]; exact hD) hp hr hpn hrn hij
     refine ⟨hR.defers, _, results_run r1, _, joinMem F E1.F, vs', pl', qs, rfl, j1, j3, j4, hR1.keep, ?_, hshO, m2, n2, g1, fun p hp hpn => ?_⟩
     ·unfold OutV
      have hl := hshO.length
      split
      ·rename_i o heq
       rw [heq] at hl
       obtain ⟨v, hv⟩ := List.length_eq_one_iff.1 hl
       subst hv
       rfl
      ·rename_i hne
       rw [dif_neg]
       intro h1'
       rw [h1'] at hl
       obtain ⟨o, ho⟩ := List.length_eq_one_iff.1 hl.symm
       exact hne o ho
     ·rcases g2 p hp with h | ⟨i, hi, h⟩
      ·rw [h] at hpn; cases hpn
      ·obtain ⟨B, hB, hm⟩ := hids i hi
       have ho := hR1.own i B p (by rw [hfind i hi]; exact hB) h hpn
       refine ⟨ho.1.symm, ?_⟩
       unfold joinMem
       split
       ·rename_i o' ho'
        rcases ho.1 with h1' | ⟨p', hp', hpn', hpb⟩
        ·have := heap_lt (hF _ _ ho'); omega
        ·rw [← hpb, hFn p' hp' hpn'] at ho'; cases ho'
       ·exact ho.2 hm
    ·cases hq
   cases e with
   | normal => obtain ⟨S, E, hq, hR⟩ := hp; exact done S E hq hR
   | ret => obtain ⟨S, E, hq, hR⟩ := hp; exact done S E hq hR
   | exit id => obtain ⟨S, E, hq, hR⟩ := hp; cases hq
   | goto l => cases hp
   | panic ch => cases hp
   | outgrown => cases hp
structure AC where
 con : Con
 ok : Program → Nat → Prop
 sound : ∀ P f, ok P f → ConOk P f con
instance : Coe DCon AC := ⟨fun c => ⟨c.con, fun P f => DOk P f c, fun P f h => h.con⟩⟩
instance : Coe OCon AC := ⟨fun c => ⟨c.con, fun P f => OOk P f c, fun P f h => h.con⟩⟩
def cloKey : List SV → Nat
 | [] => 0
 | .one (.dat (.clo k _) _) :: _ => k + 1
 | _ :: l => cloKey l
def keyed : List (Nat × AC) → Nat → Bool
 | [], _ => false
 | (m, _) :: l, n => match Nat.beq (m % 10000) n with
  | true => true
  | false => keyed l n
def conOf (l : List (Nat × AC)) (f : Nat) : Option Con :=
 match keyed l f with
 | true => some { run := fun vs d => match find l (f + 10000 * cloKey vs) with
  | some c => c.con.run vs d
  | none => .fail }
 | false => none
def ctxOf (tab : List TI) (l : List (Nat × AC)) (wraps : List Nat := []) (clos : List (Nat × Ty) := []) (mclos : List Nat := []) : Ctx := { tab := tab, con := conOf l, wraps := wraps, clos := clos, mclos := mclos }
def Oks (P : Program) : List (Nat × AC) → Prop
 | [] => True
 | (f, c) :: l => c.ok P (f % 10000) ∧ Oks P l
theorem Oks.find : ∀ {l : List (Nat × AC)}, Oks P l → ∀ {k c}, Vc.find l k = some c → c.ok P (k % 10000)
 | [], _, k, c, h => by cases h
 | (m, c') :: l, hl, k, c, h => by
  unfold Vc.find at h
  split at h
  ·rename_i hb
   have := Nat.eq_of_beq_eq_true hb
   subst this
   cases h
   exact hl.1
  ·exact Oks.find hl.2 h
theorem Oks.keyed : ∀ {l : List (Nat × AC)}, Oks P l → ∀ {f}, Vc.keyed l f = true → ∃ c : AC, c.ok P f
 | [], _, f, h => by cases h
 | (m, c') :: l, hl, f, h => by
  unfold Vc.keyed at h
  split at h
  ·rename_i hb
   have := Nat.eq_of_beq_eq_true hb
   exact ⟨c', this ▸ hl.1⟩
  ·exact Oks.keyed hl.2 h
theorem Oks.small : ∀ {l : List (Nat × AC)} {f : Nat}, Vc.keyed l f = true → f < 10000
 | [], f, h => by cases h
 | (m, c') :: l, f, h => by
  unfold Vc.keyed at h
  split at h
  ·rename_i hb
   have := Nat.eq_of_beq_eq_true hb
   omega
  ·exact Oks.small h
theorem Oks.con {l : List (Nat × AC)} (hl : Oks P l) (f : Nat) (con : Con) (h : conOf l f = some con) : ConOk P f con := by
 unfold conOf at h
 split at h
 ·rename_i hk
  cases h
  obtain ⟨c0, hc0⟩ := hl.keyed hk
  have hf := Oks.small hk
  refine ⟨(c0.sound P f hc0).fn, fun w0 foot base S ctx E w args vs d r hR hv hr hcond hn => ?_⟩
  simp only at hr
  split at hr
  ·rename_i c hc
   have := hl.find hc
   rw [show (f + 10000 * cloKey args) % 10000 = f by omega] at this
   exact (c.sound P f this).calls w0 foot base S ctx E w args vs d r hR hv hr hcond hn
  ·cases hr
 ·cases h
theorem DOk.of' {tab : List TI} {l : List (Nat × AC)} {wraps : List Nat} {clos : List (Nat × Ty)} {mclos : List Nat} (hT : TabOk P tab) (hK : Oks P l) {f : Nat} {fn : Func} {c : DCon} {A : Tup c.args → Ann} (hf : P.funcs[f]? = some fn) (hn : (fn.name == "runtime.NumGoroutine") = false)
  (ho : fnOk fn c = true) (hv : ∀ x, wfs c.args x → c.pre x → bodyVC (ctxOf tab l wraps clos mclos) fn c (A x) x) : DOk P f c :=
 DOk.of (X := ctxOf tab l wraps clos mclos) (A := A) hT (Oks.con hK) hf hn ⟨ho, hv⟩
theorem OOk.of' {tab : List TI} {l : List (Nat × AC)} {wraps : List Nat} {clos : List (Nat × Ty)} {mclos : List Nat} (hT : TabOk P tab) (hK : Oks P l) {f : Nat} {fn : Func} {c : OCon} {A : (argTy c.args).den → Ann} (hf : P.funcs[f]? = some fn) (hn : (fn.name == "runtime.NumGoroutine") = false)
  (ho : ofnOk fn c = true) (hv : ∀ x, (argTy c.args).wf x → c.pre x → obodyVC (ctxOf tab l wraps clos mclos) fn c (A x) x) : OOk P f c :=
 OOk.of (X := ctxOf tab l wraps clos mclos) (A := A) hT (Oks.con hK) hf hn ho hv
def noAnn : Ann := { loop := fun _ => none, split := fun _ => false }
def laOf : List (Nat × (St → LA)) → Nat → Option (St → LA)
 | [], _ => none
 | (m, a) :: l, n => match Nat.beq m n with
  | true => some a
  | false => laOf l n
def loopAnn (l : List (Nat × (St → LA))) (split : List Nat := []) : Ann := { loop := laOf l, split := has split }
theorem DOk.asFresh {f : Nat} {args : List Ty} {e : Nat} {t : Ty} {pre : Tup args → Prop} {fn : Tup args → Tup [.list t]} (ht : t.flatb = true) (h : DOk P f { args := args, out := .row e t, pre := pre, fn := fn }) :
  DOk P f { args := args, out := .fresh [.list t], pre := pre, fn := fn } where
 fn := h.fn
 calls F w x vs hF hx hpre := by
  refine (h.calls F w x vs hF hx hpre).mono fun en w' hp => ?_
  obtain ⟨v, F', h1, h2, h3, h4, h5, p, h6, h7, h8⟩ := hp
  have h7 : BRep ⟨F', fun _ => none⟩ w' p (.row false e t (fn x).1) := h7
  rcases h7 with ⟨hn, hx', hl⟩ | ⟨hn, h0, ⟨g1, g2⟩, us, g3, g4, g5, g6⟩
  ·refine ⟨v, F', h1, h2, h3, h4, h5, ?_⟩
   rcases h8 with ⟨_, hv, _⟩ | ⟨hn', _⟩
   ·have hr : Rep (fun _ => none) (.list t) (fn x).1 [v] := by
     rw [hv, hx']
     exact ⟨none, 0, rfl, Nat.le_refl _, by simp [maxLenI], fun _ => rfl, fun p hp => by cases hp⟩
    exact ⟨fun _ => none, fun b o hb => (by cases hb), fun b o hb => (by cases hb), hr⟩
   ·rw [hn] at hn'; cases hn'
  ·obtain ⟨k1, k2⟩ := h6 hn
   have hle : F'.le (fun b => if b = p.blk then some (.cells us e (0, 0)) else F' b) := fun b o hb => by
    simp only
    split
    ·rename_i hb'; subst hb'; rw [k2] at hb; cases hb
    ·exact hb
   have hG : Mem.le (fun b => if b = p.blk then some (.cells us e (0, 0)) else none) (fun b => if b = p.blk then some (.cells us e (0, 0)) else F' b) := fun b o hb => by
    simp only at hb ⊢
    split at hb
    ·rename_i hb'; rw [if_pos hb']; exact hb
    ·cases hb
   refine ⟨v, fun b => if b = p.blk then some (.cells us e (0, 0)) else F' b, h1, h2.trans hle, fun b o hb => ?_, fun b o hb => ?_, h5, fun b => if b = p.blk then some (.cells us e (0, 0)) else none, hG, fun b o hb => ?_, ?_⟩
   ·simp only at hb
    split at hb
    ·rename_i hb'; subst hb'; cases hb; exact g3
    ·exact h3 b o hb
   ·simp only at hb
    split at hb
    ·rename_i hb'; subst hb'; exact .inr k1
    ·exact h4 b o hb
   ·simp only at hb
    split at hb
    ·rename_i hb'; rw [hb']; exact k1
    ·cases hb
   ·have hB : BRep ⟨fun b => if b = p.blk then some (.cells us e (0, 0)) else none, fun _ => none⟩ w' p (.row true e t (fn x).1) := .inr ⟨hn, h0, ⟨g1, g2⟩, us, g3, g4, fun _ => by simp, fun i y hy => by
     obtain ⟨ws, m1, m2⟩ := g6 i y hy
     exact ⟨ws, m1.flatb ht, m2⟩⟩
    have := row_rep (lo := 0) (len := (fn x).1.length) hB (by omega) (v := v) (by
     rcases h8 with ⟨hn', _⟩ | ⟨_, hv, _⟩
     ·rw [hn] at hn'; cases hn'
     ·exact .inr ⟨hn, _, by rw [hv, g1]; rfl, .inr (by simp)⟩)
    rw [lit_full] at this
    exact this
theorem DOk.asData {f : Nat} {args : List Ty} {e : Nat} {t : Ty} {pre : Tup args → Prop} {fn : Tup args → Tup [.list t]} (h : DOk P f { args := args, out := .row e t, pre := pre, fn := fn }) :
  DOk P f { args := args, out := .data [.list t], pre := pre, fn := fn } where
 fn := h.fn
 calls F w x vs hF hx hpre := by
  refine (h.calls F w x vs hF hx hpre).mono fun en w' hp => ?_
  obtain ⟨v, F', h1, h2, h3, h4, h5, p, h6, h7, h8⟩ := hp
  have h7 : BRep ⟨F', fun _ => none⟩ w' p (.row false e t (fn x).1) := h7
  rcases h7 with ⟨hn, hx', hl⟩ | ⟨hn, h0, ⟨g1, g2⟩, us, g3, g4, g5, g6⟩
  ·refine ⟨v, F', h1, h2, h3, h4, h5, ?_⟩
   rcases h8 with ⟨_, hv, _⟩ | ⟨hn', _⟩
   ·have hr : Rep F' (.list t) (fn x).1 [v] := by
     rw [hv, hx']
     exact ⟨none, 0, rfl, Nat.le_refl _, by simp [maxLenI], fun _ => rfl, fun p hp => by cases hp⟩
    exact hr
   ·rw [hn] at hn'; cases hn'
  ·obtain ⟨k1, k2⟩ := h6 hn
   have hle : F'.le (fun b => if b = p.blk then some (.cells us e (0, 0)) else F' b) := fun b o hb => by
    simp only
    split
    ·rename_i hb'; subst hb'; rw [k2] at hb; cases hb
    ·exact hb
   refine ⟨v, fun b => if b = p.blk then some (.cells us e (0, 0)) else F' b, h1, h2.trans hle, fun b o hb => ?_, fun b o hb => ?_, h5, ?_⟩
   ·simp only at hb
    split at hb
    ·rename_i hb'; subst hb'; cases hb; exact g3
    ·exact h3 b o hb
   ·simp only at hb
    split at hb
    ·rename_i hb'; subst hb'; exact .inr k1
    ·exact h4 b o hb
   ·have hB : BRep ⟨fun b => if b = p.blk then some (.cells us e (0, 0)) else F' b, fun _ => none⟩ w' p (.row true e t (fn x).1) := .inr ⟨hn, h0, ⟨g1, g2⟩, us, g3, g4, fun _ => by simp, fun i y hy => by
     obtain ⟨ws, m1, m2⟩ := g6 i y hy
     exact ⟨ws, m1.mono hle, m2⟩⟩
    have := row_rep (lo := 0) (len := (fn x).1.length) hB (by omega) (v := v) (by
     rcases h8 with ⟨hn', _⟩ | ⟨_, hv, _⟩
     ·rw [hn] at hn'; cases hn'
     ·exact .inr ⟨hn, _, by rw [hv, g1]; rfl, .inr (by simp)⟩)
    rw [lit_full] at this
    exact this
end Go.Vc
end

section
set_option linter.unusedVariables false
set_option linter.unusedSimpArgs false
namespace Go.Vc
open Go Go.WideShapes
variable {P : Program} {w : World}
def tyIs (P : Program) : Ty → (Nat → Bool) × (List Field → Nat → Bool)
 | .int k => (fun t => match P.underlying t with
  | some (.int j) => kindBeq j k
  | _ => false, fun _ _ => false)
 | .bool => (fun t => match P.underlying t with
  | some .bool => true
  | _ => false, fun _ _ => false)
 | .str => (fun t => match P.underlying t with
  | some .string => true
  | _ => false, fun _ _ => false)
 | .list a => (fun t => match P.underlying t with
  | some (.slice e) => (tyIs P a).1 e && (Nat.beq (P.cellsOf e) a.size && Nat.blt 0 a.size)
  | _ => false, fun _ _ => false)
 | .unit => (fun _ => false, fun fs _ => fs.isEmpty)
 | .ref _ | .ptr _ | .clo _ _ | .map _ _ => (fun _ => false, fun _ _ => false)
 | .pair a b =>
  let flds : List Field → Nat → Bool := fun fs off => match fs with
   | [] => false
   | [f] => Nat.beq f.offset off && (Nat.beq (P.cellsOf f.type) a.size && ((tyIs P a).1 f.type && (tyIs P b).2 [] (off + a.size)))
   | [f, g] => Nat.beq f.offset off && (Nat.beq (P.cellsOf f.type) a.size && ((tyIs P a).1 f.type && (Nat.beq g.offset (off + a.size) && (Nat.beq (P.cellsOf g.type) b.size && (tyIs P b).1 g.type))))
   | f :: fs => Nat.beq f.offset off && (Nat.beq (P.cellsOf f.type) a.size && ((tyIs P a).1 f.type && (tyIs P b).2 fs (off + a.size)))
  (fun t => match P.underlying t with
   | some (.struct fs) => Nat.beq (P.cellsOf t) (a.size + b.size) && flds fs.toList 0
   | _ => false, flds)
def memOf (w : World) : Mem := fun b => w.heap[b]?
theorem cell_mem {a : Addr} {u : Value} (h : w.cell? a = some u) : a.spot = none ∧ (memOf w).cell a.block a.off u := by
 unfold World.cell? at h
 split at h
 ·rename_i c e m hb
  split at h
  ·cases h
  ·rename_i hs
   exact ⟨by simpa using hs, c, e, m, hb, h⟩
 ·cases h
theorem mapM_some {α β : Type} {f : α → Option β} : ∀ {l : List α} {r : List β}, l.mapM f = some r → r.length = l.length ∧ ∀ (i : Nat) (x : α), l[i]? = some x → ∃ y, r[i]? = some y ∧ f x = some y
 | [], r, h => by
  simp at h
  subst h
  exact ⟨rfl, fun i x hx => by simp at hx⟩
 | a :: l, r, h => by
  rw [List.mapM_cons] at h
  cases hf : f a with
  | none => rw [hf] at h; cases h
  | some b =>
   rw [hf] at h
   cases hm : l.mapM f with
   | none => simp [hm] at h
   | some bs =>
    simp [hm] at h
    subst h
    obtain ⟨h1, h2⟩ := mapM_some hm
    refine ⟨by simp [h1], fun i x hx => ?_⟩
    cases i with
    | zero => simp at hx; subst hx; exact ⟨b, rfl, hf⟩
    | succ i => exact h2 i x (by simpa using hx)
theorem cells_some {a : Addr} {n : Nat} {us : List Value} (h : w.cells? 0 a n = some us) : us.length = n ∧ ∀ (j : Nat) (u : Value), us[j]? = some u → w.cell? (a.add j) = some u := by
 unfold World.cells? at h
 rw [if_pos (Nat.zero_le _)] at h
 obtain ⟨h1, h2⟩ := mapM_some h
 refine ⟨by simpa using h1, fun j u hu => ?_⟩
 have hj : j < n := by
  have := (List.getElem?_eq_some_iff.1 hu).1
  rw [h1] at this
  simpa using this
 obtain ⟨y, k1, k2⟩ := h2 j j (by simp [hj])
 rw [hu] at k1
 cases k1
 exact k2
theorem list_of {α : Type} {Q : Nat → α → Prop} : ∀ (n : Nat), (∀ i, i < n → ∃ x, Q i x) → ∃ xs : List α, xs.length = n ∧ ∀ (i : Nat) (x : α), xs[i]? = some x → Q i x
 | 0, _ => ⟨[], rfl, fun i x h => by simp at h⟩
 | n + 1, h => by
  obtain ⟨xs, h1, h2⟩ := list_of n fun i hi => h i (by omega)
  obtain ⟨x, hx⟩ := h n (Nat.lt_succ_self n)
  refine ⟨xs ++ [x], by simp [h1], fun i y hy => ?_⟩
  by_cases hi : i < n
  ·rw [List.getElem?_append_left (by omega)] at hy
   exact h2 i y hy
  ·rw [List.getElem?_append_right (by omega)] at hy
   have : i - xs.length = 0 := by
    have := (List.getElem?_eq_some_iff.1 hy).1
    simp at this
    omega
   rw [this] at hy
   simp at hy
   subst hy
   have : i = n := by omega
   rw [this]
   exact hx
section
variable {H : Type} {enc : TypeId × Value → H} {sp : Nat → Bool} {held : Bool} {t fuel : Nat} {cs : List Value} {d : DataW H} {ps : List MemPlace}
theorem trod_int {k : IntKind} (hu : P.underlying t = some (.int k)) (h : DataW.trod enc P w 0 sp held fuel t cs = some (d, ps)) : ∃ n : Int, cs = [.int k n] ∧ InR k n := by
 cases fuel with
 | zero => cases h
 | succ fuel =>
  rcases cs with _ | ⟨v, _ | ⟨v2, cs⟩⟩
  ·simp [DataW.trod, hu] at h
  ·cases v <;> simp [DataW.trod, hu] at h
   obtain ⟨⟨rfl, h1⟩, _⟩ := h
   simp only [Lit.wf, Bool.and_eq_true, decide_eq_true_eq] at h1
   exact ⟨_, rfl, h1⟩
  ·simp [DataW.trod, hu] at h
theorem trod_bool (hu : P.underlying t = some .bool) (h : DataW.trod enc P w 0 sp held fuel t cs = some (d, ps)) : ∃ b : Bool, cs = [.bool b] := by
 cases fuel with
 | zero => cases h
 | succ fuel =>
  rcases cs with _ | ⟨v, _ | ⟨v2, cs⟩⟩
  ·simp [DataW.trod, hu] at h
  ·cases v <;> simp [DataW.trod, hu] at h
   exact ⟨_, rfl⟩
  ·simp [DataW.trod, hu] at h
theorem trod_str (hu : P.underlying t = some .string) (h : DataW.trod enc P w 0 sp held fuel t cs = some (d, ps)) : ∃ s : ByteArray, cs = [.string s] ∧ s.size ≤ maxLen := by
 cases fuel with
 | zero => cases h
 | succ fuel =>
  rcases cs with _ | ⟨v, _ | ⟨v2, cs⟩⟩
  ·simp [DataW.trod, hu] at h
  ·cases v <;> simp [DataW.trod, hu] at h
   exact ⟨_, rfl, h.1⟩
  ·simp [DataW.trod, hu] at h
theorem trod_slice {e : Nat} (hu : P.underlying t = some (.slice e)) (h : DataW.trod enc P w 0 sp held (fuel + 1) t cs = some (d, ps)) :
  cs = [.slice none 0 0] ∨ ∃ a len cap, cs = [.slice (some a) len cap] ∧ len ≤ cap ∧ cap ≤ maxLen ∧
   ∀ i, i < len → ∃ us d' ps', w.cells? 0 (a.add (i * P.cellsOf e)) (P.cellsOf e) = some us ∧ DataW.trod enc P w 0 sp held fuel e us = some (d', ps') := by
 rcases cs with _ | ⟨v, _ | ⟨v2, cs⟩⟩
 ·simp [DataW.trod, hu] at h
 ·cases v with
  | slice a len cap =>
   cases a with
   | none =>
    unfold DataW.trod at h
    simp only [hu] at h
    split at h <;> simp_all
   | some a =>
    unfold DataW.trod at h
    simp only [hu] at h
    split at h
    ·rename_i hc
     refine .inr ⟨a, len, cap, rfl, hc.2.1, hc.2.2, fun i hi => ?_⟩
     rw [Option.bind_eq_some_iff] at h
     obtain ⟨elems, h1, _⟩ := h
     obtain ⟨_, h2⟩ := mapM_some h1
     obtain ⟨y, _, h3⟩ := h2 i i (by simp [hi])
     rw [Option.bind_eq_some_iff] at h3
     obtain ⟨us, h4, h5⟩ := h3
     exact ⟨us, y.1, y.2, h4, h5⟩
    ·cases h
  | _ => simp [DataW.trod, hu] at h
 ·simp [DataW.trod, hu] at h
theorem trod_struct {fs : Array Field} (hu : P.underlying t = some (.struct fs)) (h : DataW.trod enc P w 0 sp held (fuel + 1) t cs = some (d, ps)) :
  cs.length = P.cellsOf t ∧ ∃ xs, fs.toList.mapM (fun f => DataW.trod enc P w 0 sp held fuel f.type ((cs.drop f.offset).take (P.cellsOf f.type))) = some xs := by
 unfold DataW.trod at h
 simp only [hu] at h
 split at h
 ·rename_i hc
  refine ⟨hc, ?_⟩
  rw [Option.map_eq_some_iff] at h
  obtain ⟨xs, h1, _⟩ := h
  exact ⟨xs, h1⟩
 ·cases h
end
theorem fields_cons {f : Field} {fs : List Field} {fuel : Nat} {cs : List Value} {H : Type} {enc : TypeId × Value → H} {sp : Nat → Bool} {held : Bool} {xs : List (DataW H × List MemPlace)}
  (h : (f :: fs).mapM (fun f => DataW.trod enc P w 0 sp held fuel f.type ((cs.drop f.offset).take (P.cellsOf f.type))) = some xs) :
  (∃ y, DataW.trod enc P w 0 sp held fuel f.type ((cs.drop f.offset).take (P.cellsOf f.type)) = some y) ∧ ∃ ys, fs.mapM (fun f => DataW.trod enc P w 0 sp held fuel f.type ((cs.drop f.offset).take (P.cellsOf f.type))) = some ys := by
 rw [List.mapM_cons] at h
 cases hf : DataW.trod enc P w 0 sp held fuel f.type ((cs.drop f.offset).take (P.cellsOf f.type)) with
 | none => rw [hf] at h; cases h
 | some b =>
  rw [hf] at h
  refine ⟨⟨b, rfl⟩, ?_⟩
  cases hm : fs.mapM (fun f => DataW.trod enc P w 0 sp held fuel f.type ((cs.drop f.offset).take (P.cellsOf f.type))) with
  | none => simp [hm] at h
  | some bs => exact ⟨bs, rfl⟩
theorem add_off (x : Addr) (n : Nat) : (x.add n).off = x.off + n ∧ (x.add n).block = x.block := by
 unfold Addr.add
 split <;> simp_all
theorem add_zero' (x : Addr) : (x.add 0) = x := by simp [Addr.add]
theorem trod_rep {H : Type} {enc : TypeId × Value → H} {sp : Nat → Bool} {held : Bool} : ∀ {ty : Ty},
  (∀ {t fuel : Nat} {cs : List Value} {d : DataW H} {ps : List MemPlace}, (tyIs P ty).1 t = true → DataW.trod enc P w 0 sp held fuel t cs = some (d, ps) → ∃ x, Rep (memOf w) ty x cs) ∧
  (∀ {fs : List Field} {off fuel : Nat} {cs : List Value} {xs : List (DataW H × List MemPlace)}, (tyIs P ty).2 fs off = true → cs.length = off + ty.size →
   fs.mapM (fun f => DataW.trod enc P w 0 sp held fuel f.type ((cs.drop f.offset).take (P.cellsOf f.type))) = some xs → ∃ x, Rep (memOf w) ty x (cs.drop off))
 | .int k => by
  refine ⟨fun {t fuel cs d ps} ht h => ?_, fun h => by cases h⟩
  simp only [tyIs] at ht
  split at ht
  ·rename_i j hu
   have := kindBeq_eq ht
   subst this
   obtain ⟨n, rfl, hn⟩ := trod_int hu h
   exact ⟨n, rfl, hn⟩
  ·cases ht
 | .ref _ => ⟨fun {t fuel cs d ps} ht h => (by cases ht), fun h => by cases h⟩
 | .ptr _ => ⟨fun {t fuel cs d ps} ht h => (by cases ht), fun h => by cases h⟩
 | .clo _ _ => ⟨fun {t fuel cs d ps} ht h => (by cases ht), fun h => by cases h⟩
 | .map _ _ => ⟨fun {t fuel cs d ps} ht h => (by cases ht), fun h => by cases h⟩
 | .bool => by
  refine ⟨fun {t fuel cs d ps} ht h => ?_, fun h => by cases h⟩
  simp only [tyIs] at ht
  split at ht
  ·rename_i hu
   obtain ⟨b, rfl⟩ := trod_bool hu h
   exact ⟨b, rfl⟩
  ·cases ht
 | .str => by
  refine ⟨fun {t fuel cs d ps} ht h => ?_, fun h => by cases h⟩
  simp only [tyIs] at ht
  split at ht
  ·rename_i hu
   obtain ⟨s, rfl, hs⟩ := trod_str hu h
   refine ⟨s.data.toList, rfl, ?_⟩
   have : s.data.toList.length = s.size := rfl
   show s.data.toList.length ≤ _
   rw [this]
   exact hs
  ·cases ht
 | .list a => by
  refine ⟨fun {t fuel cs d ps} ht h => ?_, fun h => by cases h⟩
  simp only [tyIs] at ht
  split at ht
  ·rename_i e hu
   simp only [Bool.and_eq_true] at ht
   obtain ⟨h1, h2, h3⟩ := ht
   have h2 := Nat.eq_of_beq_eq_true h2
   have h3 : 0 < a.size := Nat.lt_of_lt_of_le (Nat.zero_lt_one) (Nat.le_of_ble_eq_true h3)
   cases fuel with
   | zero => cases h
   | succ fuel =>
    rcases trod_slice hu h with rfl | ⟨ad, len, cap, rfl, hlc, hcm, hel⟩
    ·exact ⟨[], none, 0, rfl, Nat.le_refl _, Nat.zero_le _, fun _ => rfl, fun p hp => by cases hp⟩
    ·obtain ⟨xs, hl, hxs⟩ := list_of (Q := fun i x => ad.spot = none ∧ ∃ us : List Value, Rep (memOf w) a x us ∧ us.length = a.size ∧ ∀ (j : Nat) u, us[j]? = some u → (memOf w).cell ad.block (ad.off + (i * a.size + j)) u) len fun i hi => by
      obtain ⟨us, d', ps', k1, k2⟩ := hel i hi
      rw [h2] at k1
      obtain ⟨q1, q2⟩ := cells_some k1
      obtain ⟨x, hx⟩ := trod_rep.1 h1 k2
      have hcell : ∀ (j : Nat) u, us[j]? = some u → (memOf w).cell ad.block (ad.off + (i * a.size + j)) u := fun j u hu => by
       obtain ⟨_, g2⟩ := cell_mem (q2 j u hu)
       rw [(add_off _ _).1, (add_off _ _).1, (add_off _ _).2, (add_off _ _).2, Nat.add_assoc] at g2
       exact g2
      have hspot : ad.spot = none := by
       obtain ⟨us0, _, _, k1, _⟩ := hel 0 (by omega)
       rw [h2, Nat.zero_mul, add_zero'] at k1
       obtain ⟨q1, q2⟩ := cells_some k1
       have h0 : 0 < us0.length := by omega
       have := (cell_mem (q2 0 us0[0] (List.getElem?_eq_getElem h0))).1
       rwa [add_zero'] at this
      exact ⟨x, hspot, us, hx, q1, hcell⟩
     refine ⟨xs, some ad, cap, ?_, ?_, hcm, fun h => (by cases h), fun p hp i x hx => ?_⟩
     ·show _ = [Value.slice (some ad) xs.length cap]
      rw [hl]
     ·show xs.length ≤ cap
      omega
     ·cases hp
      exact hxs i x hx
  ·cases ht
 | .unit => by
  refine ⟨fun h => (by cases h), fun {fs off fuel cs xs} hf hl h => ⟨(), ?_⟩⟩
  have hl : cs.length = off := hl
  show cs.drop off = []
  rw [List.drop_eq_nil_of_le (by omega)]
 | .pair a b => by
  have flds : ∀ {fs : List Field} {off fuel : Nat} {cs : List Value} {xs : List (DataW H × List MemPlace)}, (tyIs P (.pair a b)).2 fs off = true → cs.length = off + (Ty.pair a b).size →
   fs.mapM (fun f => DataW.trod enc P w 0 sp held fuel f.type ((cs.drop f.offset).take (P.cellsOf f.type))) = some xs → ∃ x, Rep (memOf w) (.pair a b) x (cs.drop off) := fun {fs off fuel cs xs} hf hl h => by
   have hl : cs.length = off + (a.size + b.size) := hl
   have hsplit : cs.drop off = (cs.drop off).take a.size ++ cs.drop (off + a.size) := by
    rw [← List.drop_drop, List.take_append_drop]
   have one : ∀ {f : Field} {fs : List Field} {xs : List (DataW H × List MemPlace)}, Nat.beq f.offset off = true → Nat.beq (P.cellsOf f.type) a.size = true → (tyIs P a).1 f.type = true →
     (f :: fs).mapM (fun f => DataW.trod enc P w 0 sp held fuel f.type ((cs.drop f.offset).take (P.cellsOf f.type))) = some xs → (∃ y, Rep (memOf w) b y (cs.drop (off + a.size))) → ∃ x, Rep (memOf w) (.pair a b) x (cs.drop off) := fun {f fs xs} e1 e2 e3 h hb => by
    obtain ⟨⟨⟨d, ps⟩, h1⟩, _⟩ := fields_cons h
    rw [Nat.eq_of_beq_eq_true e1, Nat.eq_of_beq_eq_true e2] at h1
    obtain ⟨x, hx⟩ := trod_rep.1 e3 h1
    obtain ⟨y, hy⟩ := hb
    exact ⟨(x, y), _, _, hsplit, hx, hy⟩
   simp only [tyIs] at hf
   split at hf
   ·cases hf
   ·rename_i f
    simp only [Bool.and_eq_true] at hf
    obtain ⟨e1, e2, e3, e4⟩ := hf
    refine one e1 e2 e3 h ?_
    obtain ⟨_, ys, hys⟩ := fields_cons h
    exact trod_rep.2 e4 (by omega) hys
   ·rename_i f g
    simp only [Bool.and_eq_true] at hf
    obtain ⟨e1, e2, e3, e4, e5, e6⟩ := hf
    refine one e1 e2 e3 h ?_
    obtain ⟨_, ys, hys⟩ := fields_cons h
    obtain ⟨⟨⟨d, ps⟩, h1⟩, _⟩ := fields_cons hys
    rw [Nat.eq_of_beq_eq_true e4, Nat.eq_of_beq_eq_true e5] at h1
    obtain ⟨y, hy⟩ := trod_rep.1 e6 h1
    rw [List.take_of_length_le (by simp; omega)] at hy
    exact ⟨y, hy⟩
   ·rename_i f fs _ _
    simp only [Bool.and_eq_true] at hf
    obtain ⟨e1, e2, e3, e4⟩ := hf
    refine one e1 e2 e3 h ?_
    obtain ⟨_, ys, hys⟩ := fields_cons h
    exact trod_rep.2 e4 (by omega) hys
  refine ⟨fun {t fuel cs d ps} ht h => ?_, flds⟩
  have ht0 := ht
  simp only [tyIs] at ht0
  split at ht0
  ·rename_i fs hu
   have hb := (Bool.and_eq_true _ _ ▸ ht0 : _ ∧ _)
   have hsz := Nat.eq_of_beq_eq_true hb.1
   cases fuel with
   | zero => cases h
   | succ fuel =>
    obtain ⟨hl, xs, hxs⟩ := trod_struct hu h
    obtain ⟨x, hx⟩ := flds (fs := fs.toList) (off := 0) (by simp only [tyIs]; exact hb.2) (by rw [hl, hsz]; simp [Ty.size]) hxs
    exact ⟨x, by simpa using hx⟩
  ·cases ht0
theorem val_rep {H : Type} {enc : TypeId × Value → H} {sp : Nat → Bool} {held : Bool} {ty : Ty} {t base : Nat} {r : Reach} {v : Value} {d : DataW H} {ps : List MemPlace} (ht : (tyIs P ty).1 t = true) (hk : Value.okWide P w r base t v)
  (h : DataW.Trod enc P w 0 sp held t v d ps) : ∃ x, VRep (memOf w) ty x v := by
 obtain ⟨fuel, h⟩ := h
 obtain ⟨x, hx⟩ := trod_rep.1 ht h
 refine ⟨x, ?_⟩
 unfold VRep
 cases ty with
 | int k =>
  simp only [tyIs] at ht
  split at ht
  ·rename_i hu; obtain ⟨n, rfl⟩ := okWide_int hu hk; exact hx
  ·cases ht
 | bool =>
  simp only [tyIs] at ht
  split at ht
  ·rename_i hu; obtain ⟨n, rfl⟩ := okWide_bool hu hk; exact hx
  ·cases ht
 | str =>
  simp only [tyIs] at ht
  split at ht
  ·rename_i hu; obtain ⟨n, rfl⟩ := okWide_string hu hk; exact hx
  ·cases ht
 | list a =>
  simp only [tyIs] at ht
  split at ht
  ·rename_i e hu; obtain ⟨a, len, cap, rfl⟩ := okWide_slice hu hk; exact hx
  ·cases ht
 | unit => cases ht
 | ref _ => cases ht
 | ptr _ => cases ht
 | clo _ _ => cases ht
 | map _ _ => cases ht
 | pair a b =>
  simp only [tyIs] at ht
  split at ht
  ·rename_i fs hu
   simp only [Value.okWide, hu] at hk
   obtain ⟨cs, rfl, _⟩ := hk
   exact ⟨cs, rfl, hx⟩
  ·cases ht
end Go.Vc
end

section
set_option maxRecDepth 100000
namespace Go.Proofs
open Go.Vc
namespace YtpnnfimacblhgaaGreat
def tab : List TI := [
 {id := 3, d := (.int .i64), size := 1, bytes := 8, zero := (.int .i64 (0)), ty := some (.int .i64), eq := false },
 {id := 4, d := .bool, size := 1, bytes := 1, zero := (.bool false), ty := some .bool, eq := false },
 {id := 5, d := (.int .u8), size := 1, bytes := 1, zero := (.int .u8 (0)), ty := some (.int .u8), eq := false },
 {id := 9, d := .str, size := 1, bytes := 16, zero := (.string ⟨⟨[]⟩⟩), ty := some .str, eq := false },
 {id := 22, d := (.slice 146), size := 1, bytes := 24, zero := (.slice none 0 0), ty := some (.list (.pair .str (.pair (.int .i64) (.int .i64)))), eq := false },
 {id := 23, d := (.slice 128), size := 1, bytes := 24, zero := (.slice none 0 0), ty := some (.list (.pair (.pair (.int .i64) (.int .i64)) (.pair (.int .i64) (.int .i64)))), eq := false },
 {id := 24, d := (.slice 130), size := 1, bytes := 24, zero := (.slice none 0 0), ty := some (.list (.pair .str (.pair (.pair (.int .i64) (.int .i64)) .bool))), eq := false },
 {id := 25, d := (.slice 109), size := 1, bytes := 24, zero := (.slice none 0 0), ty := some (.list (.pair .str (.list (.int .i64)))), eq := false },
 {id := 26, d := (.struct [(0, 1, 22), (1, 1, 23), (2, 1, 24), (3, 1, 25), (4, 1, 3), (5, 1, 3), (6, 1, 3), (7, 1, 3), (8, 1, 4)]), size := 9, bytes := 136, zero := (.agg #[(.slice none 0 0), (.slice none 0 0), (.slice none 0 0), (.slice none 0 0), (.int .i64 (0)), (.int .i64 (0)), (.int .i64 (0)), (.int .i64 (0)), (.bool false)]), ty := some (.pair (.list (.pair .str (.pair (.int .i64) (.int .i64)))) (.pair (.list (.pair (.pair (.int .i64) (.int .i64)) (.pair (.int .i64) (.int .i64)))) (.pair (.list (.pair .str (.pair (.pair (.int .i64) (.int .i64)) .bool))) (.pair (.list (.pair .str (.list (.int .i64)))) (.pair (.int .i64) (.pair (.int .i64) (.pair (.int .i64) (.pair (.int .i64) .bool)))))))), eq := true },
 {id := 27, d := (.struct [(0, 1, 22), (1, 1, 23), (2, 1, 24), (3, 1, 25), (4, 1, 3), (5, 1, 3), (6, 1, 3), (7, 1, 3), (8, 1, 4)]), size := 9, bytes := 136, zero := (.agg #[(.slice none 0 0), (.slice none 0 0), (.slice none 0 0), (.slice none 0 0), (.int .i64 (0)), (.int .i64 (0)), (.int .i64 (0)), (.int .i64 (0)), (.bool false)]), ty := some (.pair (.list (.pair .str (.pair (.int .i64) (.int .i64)))) (.pair (.list (.pair (.pair (.int .i64) (.int .i64)) (.pair (.int .i64) (.int .i64)))) (.pair (.list (.pair .str (.pair (.pair (.int .i64) (.int .i64)) .bool))) (.pair (.list (.pair .str (.list (.int .i64)))) (.pair (.int .i64) (.pair (.int .i64) (.pair (.int .i64) (.pair (.int .i64) .bool)))))))), eq := true },
 {id := 29, d := (.slice 40), size := 1, bytes := 24, zero := (.slice none 0 0), ty := some (.list (.pair (.int .i64) (.pair (.int .i64) (.pair (.int .i64) (.pair (.list (.pair (.int .i64) (.pair (.int .i64) (.int .i64)))) (.pair (.list (.pair (.int .i64) (.int .i64))) (.pair (.list (.pair (.int .i64) (.int .i64))) (.pair (.list (.int .i64)) (.pair (.list (.int .i64)) .bool))))))))), eq := false },
 {id := 32, d := .pnt, size := 1, bytes := 8, zero := (.pointer none), ty := some (.ptr (.pair (.pair (.list (.pair .str (.pair (.int .i64) (.int .i64)))) (.pair (.list (.pair (.pair (.int .i64) (.int .i64)) (.pair (.int .i64) (.int .i64)))) (.pair (.list (.pair .str (.pair (.pair (.int .i64) (.int .i64)) .bool))) (.pair (.list (.pair .str (.list (.int .i64)))) (.pair (.int .i64) (.pair (.int .i64) (.pair (.int .i64) (.pair (.int .i64) .bool)))))))) (.pair (.map (.pair (.int .i64) (.int .i64)) (.pair (.int .i64) (.int .i64))) (.pair (.map (.pair (.int .i64) (.int .i64)) (.int .i64)) (.pair (.map (.int .i64) (.pair (.int .i64) (.int .i64))) (.map (.int .i64) (.int .i64))))))), eq := false },
 {id := 34, d := (.slice 44), size := 1, bytes := 24, zero := (.slice none 0 0), ty := some (.list (.pair (.int .i64) (.int .i64))), eq := false },
 {id := 36, d := (.slice 50), size := 1, bytes := 24, zero := (.slice none 0 0), ty := some (.list (.pair (.int .i64) (.pair (.int .i64) (.int .i64)))), eq := false },
 {id := 37, d := (.slice 62), size := 1, bytes := 24, zero := (.slice none 0 0), ty := some (.list (.pair (.int .i64) (.int .i64))), eq := false },
 {id := 38, d := (.slice 3), size := 1, bytes := 24, zero := (.slice none 0 0), ty := some (.list (.int .i64)), eq := false },
 {id := 39, d := (.struct [(0, 1, 3), (1, 1, 3), (2, 1, 3), (3, 1, 36), (4, 1, 37), (5, 1, 37), (6, 1, 38), (7, 1, 38), (8, 1, 4)]), size := 9, bytes := 152, zero := (.agg #[(.int .i64 (0)), (.int .i64 (0)), (.int .i64 (0)), (.slice none 0 0), (.slice none 0 0), (.slice none 0 0), (.slice none 0 0), (.slice none 0 0), (.bool false)]), ty := some (.pair (.int .i64) (.pair (.int .i64) (.pair (.int .i64) (.pair (.list (.pair (.int .i64) (.pair (.int .i64) (.int .i64)))) (.pair (.list (.pair (.int .i64) (.int .i64))) (.pair (.list (.pair (.int .i64) (.int .i64))) (.pair (.list (.int .i64)) (.pair (.list (.int .i64)) .bool)))))))), eq := true },
 {id := 40, d := (.struct [(0, 1, 3), (1, 1, 3), (2, 1, 3), (3, 1, 36), (4, 1, 37), (5, 1, 37), (6, 1, 38), (7, 1, 38), (8, 1, 4)]), size := 9, bytes := 152, zero := (.agg #[(.int .i64 (0)), (.int .i64 (0)), (.int .i64 (0)), (.slice none 0 0), (.slice none 0 0), (.slice none 0 0), (.slice none 0 0), (.slice none 0 0), (.bool false)]), ty := some (.pair (.int .i64) (.pair (.int .i64) (.pair (.int .i64) (.pair (.list (.pair (.int .i64) (.pair (.int .i64) (.int .i64)))) (.pair (.list (.pair (.int .i64) (.int .i64))) (.pair (.list (.pair (.int .i64) (.int .i64))) (.pair (.list (.int .i64)) (.pair (.list (.int .i64)) .bool)))))))), eq := true },
 {id := 41, d := (.slice 45), size := 1, bytes := 24, zero := (.slice none 0 0), ty := some (.list (.pair (.int .i64) (.int .i64))), eq := false },
 {id := 43, d := (.struct [(0, 1, 3), (1, 1, 3)]), size := 2, bytes := 16, zero := (.agg #[(.int .i64 (0)), (.int .i64 (0))]), ty := some (.pair (.int .i64) (.int .i64)), eq := true },
 {id := 44, d := (.struct [(0, 1, 3), (1, 1, 3)]), size := 2, bytes := 16, zero := (.agg #[(.int .i64 (0)), (.int .i64 (0))]), ty := some (.pair (.int .i64) (.int .i64)), eq := true },
 {id := 45, d := (.struct [(0, 1, 3), (1, 1, 3)]), size := 2, bytes := 16, zero := (.agg #[(.int .i64 (0)), (.int .i64 (0))]), ty := some (.pair (.int .i64) (.int .i64)), eq := true },
 {id := 49, d := (.struct [(0, 1, 3), (1, 1, 3), (2, 1, 3)]), size := 3, bytes := 24, zero := (.agg #[(.int .i64 (0)), (.int .i64 (0)), (.int .i64 (0))]), ty := some (.pair (.int .i64) (.pair (.int .i64) (.int .i64))), eq := true },
 {id := 50, d := (.struct [(0, 1, 3), (1, 1, 3), (2, 1, 3)]), size := 3, bytes := 24, zero := (.agg #[(.int .i64 (0)), (.int .i64 (0)), (.int .i64 (0))]), ty := some (.pair (.int .i64) (.pair (.int .i64) (.int .i64))), eq := true },
 {id := 54, d := (.struct [(0, 9, 27), (9, 1, 29)]), size := 10, bytes := 160, zero := (.agg #[(.slice none 0 0), (.slice none 0 0), (.slice none 0 0), (.slice none 0 0), (.int .i64 (0)), (.int .i64 (0)), (.int .i64 (0)), (.int .i64 (0)), (.bool false), (.slice none 0 0)]), ty := some (.pair (.pair (.list (.pair .str (.pair (.int .i64) (.int .i64)))) (.pair (.list (.pair (.pair (.int .i64) (.int .i64)) (.pair (.int .i64) (.int .i64)))) (.pair (.list (.pair .str (.pair (.pair (.int .i64) (.int .i64)) .bool))) (.pair (.list (.pair .str (.list (.int .i64)))) (.pair (.int .i64) (.pair (.int .i64) (.pair (.int .i64) (.pair (.int .i64) .bool)))))))) (.list (.pair (.int .i64) (.pair (.int .i64) (.pair (.int .i64) (.pair (.list (.pair (.int .i64) (.pair (.int .i64) (.int .i64)))) (.pair (.list (.pair (.int .i64) (.int .i64))) (.pair (.list (.pair (.int .i64) (.int .i64))) (.pair (.list (.int .i64)) (.pair (.list (.int .i64)) .bool)))))))))), eq := true },
 {id := 55, d := (.struct [(0, 9, 27), (9, 1, 29)]), size := 10, bytes := 160, zero := (.agg #[(.slice none 0 0), (.slice none 0 0), (.slice none 0 0), (.slice none 0 0), (.int .i64 (0)), (.int .i64 (0)), (.int .i64 (0)), (.int .i64 (0)), (.bool false), (.slice none 0 0)]), ty := some (.pair (.pair (.list (.pair .str (.pair (.int .i64) (.int .i64)))) (.pair (.list (.pair (.pair (.int .i64) (.int .i64)) (.pair (.int .i64) (.int .i64)))) (.pair (.list (.pair .str (.pair (.pair (.int .i64) (.int .i64)) .bool))) (.pair (.list (.pair .str (.list (.int .i64)))) (.pair (.int .i64) (.pair (.int .i64) (.pair (.int .i64) (.pair (.int .i64) .bool)))))))) (.list (.pair (.int .i64) (.pair (.int .i64) (.pair (.int .i64) (.pair (.list (.pair (.int .i64) (.pair (.int .i64) (.int .i64)))) (.pair (.list (.pair (.int .i64) (.int .i64))) (.pair (.list (.pair (.int .i64) (.int .i64))) (.pair (.list (.int .i64)) (.pair (.list (.int .i64)) .bool)))))))))), eq := true },
 {id := 57, d := (.slice 4), size := 1, bytes := 24, zero := (.slice none 0 0), ty := some (.list .bool), eq := false },
 {id := 58, d := (.struct [(0, 1, 57), (1, 1, 38), (2, 1, 57), (3, 1, 57)]), size := 4, bytes := 96, zero := (.agg #[(.slice none 0 0), (.slice none 0 0), (.slice none 0 0), (.slice none 0 0)]), ty := some (.pair (.list .bool) (.pair (.list (.int .i64)) (.pair (.list .bool) (.list .bool)))), eq := true },
 {id := 59, d := (.struct [(0, 1, 57), (1, 1, 38), (2, 1, 57), (3, 1, 57)]), size := 4, bytes := 96, zero := (.agg #[(.slice none 0 0), (.slice none 0 0), (.slice none 0 0), (.slice none 0 0)]), ty := some (.pair (.list .bool) (.pair (.list (.int .i64)) (.pair (.list .bool) (.list .bool)))), eq := true },
 {id := 61, d := (.struct [(0, 1, 3), (1, 1, 3)]), size := 2, bytes := 16, zero := (.agg #[(.int .i64 (0)), (.int .i64 (0))]), ty := some (.pair (.int .i64) (.int .i64)), eq := true },
 {id := 62, d := (.struct [(0, 1, 3), (1, 1, 3)]), size := 2, bytes := 16, zero := (.agg #[(.int .i64 (0)), (.int .i64 (0))]), ty := some (.pair (.int .i64) (.int .i64)), eq := true },
 {id := 66, d := (.int .i64), size := 1, bytes := 8, zero := (.int .i64 (0)), ty := some (.int .i64), eq := false },
 {id := 69, d := .pnt, size := 1, bytes := 8, zero := (.pointer none), ty := some (.ptr (.pair (.ptr (.pair (.pair (.list (.pair .str (.pair (.int .i64) (.int .i64)))) (.pair (.list (.pair (.pair (.int .i64) (.int .i64)) (.pair (.int .i64) (.int .i64)))) (.pair (.list (.pair .str (.pair (.pair (.int .i64) (.int .i64)) .bool))) (.pair (.list (.pair .str (.list (.int .i64)))) (.pair (.int .i64) (.pair (.int .i64) (.pair (.int .i64) (.pair (.int .i64) .bool)))))))) (.pair (.map (.pair (.int .i64) (.int .i64)) (.pair (.int .i64) (.int .i64))) (.pair (.map (.pair (.int .i64) (.int .i64)) (.int .i64)) (.pair (.map (.int .i64) (.pair (.int .i64) (.int .i64))) (.map (.int .i64) (.int .i64))))))) (.map (.pair (.int .i64) (.int .i64)) .bool))), eq := false },
 {id := 71, d := .pnt, size := 1, bytes := 8, zero := (.pointer none), ty := some (.ptr (.pair (.int .i64) (.pair (.map (.int .i64) (.list (.int .i64))) (.pair (.map (.int .i64) (.list (.int .i64))) (.pair (.map (.int .i64) (.list (.pair (.int .i64) (.int .i64)))) (.map (.int .i64) (.list (.pair (.int .i64) (.int .i64))))))))), eq := false },
 {id := 84, d := (.array 2 3), size := 2, bytes := 16, zero := (.agg #[(.int .i64 (0)), (.int .i64 (0))]), ty := some (.pair (.int .i64) (.int .i64)), eq := false },
 {id := 86, d := (.map 122 122), size := 1, bytes := 8, zero := (.map none), ty := some (.map (.pair (.int .i64) (.int .i64)) (.pair (.int .i64) (.int .i64))), eq := false },
 {id := 87, d := (.map 122 3), size := 1, bytes := 8, zero := (.map none), ty := some (.map (.pair (.int .i64) (.int .i64)) (.int .i64)), eq := false },
 {id := 88, d := (.map 3 84), size := 1, bytes := 8, zero := (.map none), ty := some (.map (.int .i64) (.pair (.int .i64) (.int .i64))), eq := false },
 {id := 89, d := (.map 3 3), size := 1, bytes := 8, zero := (.map none), ty := some (.map (.int .i64) (.int .i64)), eq := false },
 {id := 90, d := (.struct [(0, 9, 27), (9, 1, 86), (10, 1, 87), (11, 1, 88), (12, 1, 89)]), size := 13, bytes := 168, zero := (.agg #[(.slice none 0 0), (.slice none 0 0), (.slice none 0 0), (.slice none 0 0), (.int .i64 (0)), (.int .i64 (0)), (.int .i64 (0)), (.int .i64 (0)), (.bool false), (.map none), (.map none), (.map none), (.map none)]), ty := some (.pair (.pair (.list (.pair .str (.pair (.int .i64) (.int .i64)))) (.pair (.list (.pair (.pair (.int .i64) (.int .i64)) (.pair (.int .i64) (.int .i64)))) (.pair (.list (.pair .str (.pair (.pair (.int .i64) (.int .i64)) .bool))) (.pair (.list (.pair .str (.list (.int .i64)))) (.pair (.int .i64) (.pair (.int .i64) (.pair (.int .i64) (.pair (.int .i64) .bool)))))))) (.pair (.map (.pair (.int .i64) (.int .i64)) (.pair (.int .i64) (.int .i64))) (.pair (.map (.pair (.int .i64) (.int .i64)) (.int .i64)) (.pair (.map (.int .i64) (.pair (.int .i64) (.int .i64))) (.map (.int .i64) (.int .i64)))))), eq := true },
 {id := 91, d := (.struct [(0, 9, 27), (9, 1, 86), (10, 1, 87), (11, 1, 88), (12, 1, 89)]), size := 13, bytes := 168, zero := (.agg #[(.slice none 0 0), (.slice none 0 0), (.slice none 0 0), (.slice none 0 0), (.int .i64 (0)), (.int .i64 (0)), (.int .i64 (0)), (.int .i64 (0)), (.bool false), (.map none), (.map none), (.map none), (.map none)]), ty := some (.pair (.pair (.list (.pair .str (.pair (.int .i64) (.int .i64)))) (.pair (.list (.pair (.pair (.int .i64) (.int .i64)) (.pair (.int .i64) (.int .i64)))) (.pair (.list (.pair .str (.pair (.pair (.int .i64) (.int .i64)) .bool))) (.pair (.list (.pair .str (.list (.int .i64)))) (.pair (.int .i64) (.pair (.int .i64) (.pair (.int .i64) (.pair (.int .i64) .bool)))))))) (.pair (.map (.pair (.int .i64) (.int .i64)) (.pair (.int .i64) (.int .i64))) (.pair (.map (.pair (.int .i64) (.int .i64)) (.int .i64)) (.pair (.map (.int .i64) (.pair (.int .i64) (.int .i64))) (.map (.int .i64) (.int .i64)))))), eq := true },
 {id := 98, d := .pnt, size := 1, bytes := 8, zero := (.pointer none), ty := none, eq := false },
 {id := 100, d := (.slice 5), size := 1, bytes := 24, zero := (.slice none 0 0), ty := some (.list (.int .u8)), eq := false },
 {id := 101, d := (.slice 143), size := 1, bytes := 24, zero := (.slice none 0 0), ty := some (.list (.pair (.int .i64) (.pair (.int .i64) (.pair .bool (.list .bool))))), eq := false },
 {id := 102, d := .pnt, size := 1, bytes := 8, zero := (.pointer none), ty := some (.ptr (.pair (.int .i64) (.list (.pair (.int .i64) (.pair (.list (.int .i64)) (.pair (.list (.int .i64)) (.pair (.list (.pair (.int .i64) (.int .i64))) (.list (.pair (.int .i64) (.int .i64)))))))))), eq := false },
 {id := 103, d := (.struct [(0, 10, 55), (10, 1, 101), (11, 1, 71), (12, 1, 69), (13, 1, 102), (14, 1, 38)]), size := 15, bytes := 232, zero := (.agg #[(.slice none 0 0), (.slice none 0 0), (.slice none 0 0), (.slice none 0 0), (.int .i64 (0)), (.int .i64 (0)), (.int .i64 (0)), (.int .i64 (0)), (.bool false), (.slice none 0 0), (.slice none 0 0), (.pointer none), (.pointer none), (.pointer none), (.slice none 0 0)]), ty := none, eq := true },
 {id := 104, d := (.struct [(0, 10, 55), (10, 1, 101), (11, 1, 71), (12, 1, 69), (13, 1, 102), (14, 1, 38)]), size := 15, bytes := 232, zero := (.agg #[(.slice none 0 0), (.slice none 0 0), (.slice none 0 0), (.slice none 0 0), (.int .i64 (0)), (.int .i64 (0)), (.int .i64 (0)), (.int .i64 (0)), (.bool false), (.slice none 0 0), (.slice none 0 0), (.pointer none), (.pointer none), (.pointer none), (.slice none 0 0)]), ty := none, eq := true },
 {id := 108, d := (.struct [(0, 1, 9), (1, 1, 38)]), size := 2, bytes := 40, zero := (.agg #[(.string ⟨⟨[]⟩⟩), (.slice none 0 0)]), ty := some (.pair .str (.list (.int .i64))), eq := true },
 {id := 109, d := (.struct [(0, 1, 9), (1, 1, 38)]), size := 2, bytes := 40, zero := (.agg #[(.string ⟨⟨[]⟩⟩), (.slice none 0 0)]), ty := some (.pair .str (.list (.int .i64))), eq := true },
 {id := 114, d := (.map 44 4), size := 1, bytes := 8, zero := (.map none), ty := some (.map (.pair (.int .i64) (.int .i64)) .bool), eq := false },
 {id := 115, d := (.struct [(0, 1, 32), (1, 1, 114)]), size := 2, bytes := 16, zero := (.agg #[(.pointer none), (.map none)]), ty := some (.pair (.ptr (.pair (.pair (.list (.pair .str (.pair (.int .i64) (.int .i64)))) (.pair (.list (.pair (.pair (.int .i64) (.int .i64)) (.pair (.int .i64) (.int .i64)))) (.pair (.list (.pair .str (.pair (.pair (.int .i64) (.int .i64)) .bool))) (.pair (.list (.pair .str (.list (.int .i64)))) (.pair (.int .i64) (.pair (.int .i64) (.pair (.int .i64) (.pair (.int .i64) .bool)))))))) (.pair (.map (.pair (.int .i64) (.int .i64)) (.pair (.int .i64) (.int .i64))) (.pair (.map (.pair (.int .i64) (.int .i64)) (.int .i64)) (.pair (.map (.int .i64) (.pair (.int .i64) (.int .i64))) (.map (.int .i64) (.int .i64))))))) (.map (.pair (.int .i64) (.int .i64)) .bool)), eq := true },
 {id := 116, d := (.struct [(0, 1, 32), (1, 1, 114)]), size := 2, bytes := 16, zero := (.agg #[(.pointer none), (.map none)]), ty := some (.pair (.ptr (.pair (.pair (.list (.pair .str (.pair (.int .i64) (.int .i64)))) (.pair (.list (.pair (.pair (.int .i64) (.int .i64)) (.pair (.int .i64) (.int .i64)))) (.pair (.list (.pair .str (.pair (.pair (.int .i64) (.int .i64)) .bool))) (.pair (.list (.pair .str (.list (.int .i64)))) (.pair (.int .i64) (.pair (.int .i64) (.pair (.int .i64) (.pair (.int .i64) .bool)))))))) (.pair (.map (.pair (.int .i64) (.int .i64)) (.pair (.int .i64) (.int .i64))) (.pair (.map (.pair (.int .i64) (.int .i64)) (.int .i64)) (.pair (.map (.int .i64) (.pair (.int .i64) (.int .i64))) (.map (.int .i64) (.int .i64))))))) (.map (.pair (.int .i64) (.int .i64)) .bool)), eq := true },
 {id := 117, d := (.map 3 38), size := 1, bytes := 8, zero := (.map none), ty := some (.map (.int .i64) (.list (.int .i64))), eq := false },
 {id := 118, d := (.map 3 37), size := 1, bytes := 8, zero := (.map none), ty := some (.map (.int .i64) (.list (.pair (.int .i64) (.int .i64)))), eq := false },
 {id := 119, d := (.struct [(0, 1, 3), (1, 1, 117), (2, 1, 117), (3, 1, 118), (4, 1, 118)]), size := 5, bytes := 40, zero := (.agg #[(.int .i64 (0)), (.map none), (.map none), (.map none), (.map none)]), ty := some (.pair (.int .i64) (.pair (.map (.int .i64) (.list (.int .i64))) (.pair (.map (.int .i64) (.list (.int .i64))) (.pair (.map (.int .i64) (.list (.pair (.int .i64) (.int .i64)))) (.map (.int .i64) (.list (.pair (.int .i64) (.int .i64)))))))), eq := true },
 {id := 120, d := (.struct [(0, 1, 3), (1, 1, 117), (2, 1, 117), (3, 1, 118), (4, 1, 118)]), size := 5, bytes := 40, zero := (.agg #[(.int .i64 (0)), (.map none), (.map none), (.map none), (.map none)]), ty := some (.pair (.int .i64) (.pair (.map (.int .i64) (.list (.int .i64))) (.pair (.map (.int .i64) (.list (.int .i64))) (.pair (.map (.int .i64) (.list (.pair (.int .i64) (.int .i64)))) (.map (.int .i64) (.list (.pair (.int .i64) (.int .i64)))))))), eq := true },
 {id := 121, d := (.struct [(0, 1, 3), (1, 1, 3)]), size := 2, bytes := 16, zero := (.agg #[(.int .i64 (0)), (.int .i64 (0))]), ty := some (.pair (.int .i64) (.int .i64)), eq := true },
 {id := 122, d := (.struct [(0, 1, 3), (1, 1, 3)]), size := 2, bytes := 16, zero := (.agg #[(.int .i64 (0)), (.int .i64 (0))]), ty := some (.pair (.int .i64) (.int .i64)), eq := true },
 {id := 127, d := (.struct [(0, 2, 122), (2, 2, 122)]), size := 4, bytes := 32, zero := (.agg #[(.int .i64 (0)), (.int .i64 (0)), (.int .i64 (0)), (.int .i64 (0))]), ty := some (.pair (.pair (.int .i64) (.int .i64)) (.pair (.int .i64) (.int .i64))), eq := true },
 {id := 128, d := (.struct [(0, 2, 122), (2, 2, 122)]), size := 4, bytes := 32, zero := (.agg #[(.int .i64 (0)), (.int .i64 (0)), (.int .i64 (0)), (.int .i64 (0))]), ty := some (.pair (.pair (.int .i64) (.int .i64)) (.pair (.int .i64) (.int .i64))), eq := true },
 {id := 129, d := (.struct [(0, 1, 9), (1, 2, 122), (3, 1, 4)]), size := 4, bytes := 40, zero := (.agg #[(.string ⟨⟨[]⟩⟩), (.int .i64 (0)), (.int .i64 (0)), (.bool false)]), ty := some (.pair .str (.pair (.pair (.int .i64) (.int .i64)) .bool)), eq := true },
 {id := 130, d := (.struct [(0, 1, 9), (1, 2, 122), (3, 1, 4)]), size := 4, bytes := 40, zero := (.agg #[(.string ⟨⟨[]⟩⟩), (.int .i64 (0)), (.int .i64 (0)), (.bool false)]), ty := some (.pair .str (.pair (.pair (.int .i64) (.int .i64)) .bool)), eq := true },
 {id := 134, d := (.int .u64), size := 1, bytes := 8, zero := (.int .u64 (0)), ty := some (.int .u64), eq := false },
 {id := 142, d := (.struct [(0, 1, 3), (1, 1, 3), (2, 1, 4), (3, 1, 57)]), size := 4, bytes := 48, zero := (.agg #[(.int .i64 (0)), (.int .i64 (0)), (.bool false), (.slice none 0 0)]), ty := some (.pair (.int .i64) (.pair (.int .i64) (.pair .bool (.list .bool)))), eq := true },
 {id := 143, d := (.struct [(0, 1, 3), (1, 1, 3), (2, 1, 4), (3, 1, 57)]), size := 4, bytes := 48, zero := (.agg #[(.int .i64 (0)), (.int .i64 (0)), (.bool false), (.slice none 0 0)]), ty := some (.pair (.int .i64) (.pair (.int .i64) (.pair .bool (.list .bool)))), eq := true },
 {id := 145, d := (.struct [(0, 1, 9), (1, 1, 3), (2, 1, 3)]), size := 3, bytes := 32, zero := (.agg #[(.string ⟨⟨[]⟩⟩), (.int .i64 (0)), (.int .i64 (0))]), ty := some (.pair .str (.pair (.int .i64) (.int .i64))), eq := true },
 {id := 146, d := (.struct [(0, 1, 9), (1, 1, 3), (2, 1, 3)]), size := 3, bytes := 32, zero := (.agg #[(.string ⟨⟨[]⟩⟩), (.int .i64 (0)), (.int .i64 (0))]), ty := some (.pair .str (.pair (.int .i64) (.int .i64))), eq := true },
 {id := 150, d := (.slice 9), size := 1, bytes := 24, zero := (.slice none 0 0), ty := some (.list .str), eq := false },
 {id := 155, d := .pnt, size := 1, bytes := 8, zero := (.pointer none), ty := some (.ptr (.pair (.pair (.list (.pair .str (.pair (.int .i64) (.int .i64)))) (.pair (.list (.pair (.pair (.int .i64) (.int .i64)) (.pair (.int .i64) (.int .i64)))) (.pair (.list (.pair .str (.pair (.pair (.int .i64) (.int .i64)) .bool))) (.pair (.list (.pair .str (.list (.int .i64)))) (.pair (.int .i64) (.pair (.int .i64) (.pair (.int .i64) (.pair (.int .i64) .bool)))))))) (.pair (.pair (.int .i64) (.pair (.int .i64) (.pair (.int .i64) (.pair (.list (.pair (.int .i64) (.pair (.int .i64) (.int .i64)))) (.pair (.list (.pair (.int .i64) (.int .i64))) (.pair (.list (.pair (.int .i64) (.int .i64))) (.pair (.list (.int .i64)) (.pair (.list (.int .i64)) .bool)))))))) (.list (.pair (.int .i64) (.int .i64)))))), eq := false },
 {id := 156, d := (.slice 122), size := 1, bytes := 24, zero := (.slice none 0 0), ty := some (.list (.pair (.int .i64) (.int .i64))), eq := false },
 {id := 157, d := (.struct [(0, 9, 27), (9, 9, 40), (18, 1, 156)]), size := 19, bytes := 312, zero := (.agg #[(.slice none 0 0), (.slice none 0 0), (.slice none 0 0), (.slice none 0 0), (.int .i64 (0)), (.int .i64 (0)), (.int .i64 (0)), (.int .i64 (0)), (.bool false), (.int .i64 (0)), (.int .i64 (0)), (.int .i64 (0)), (.slice none 0 0), (.slice none 0 0), (.slice none 0 0), (.slice none 0 0), (.slice none 0 0), (.bool false), (.slice none 0 0)]), ty := some (.pair (.pair (.list (.pair .str (.pair (.int .i64) (.int .i64)))) (.pair (.list (.pair (.pair (.int .i64) (.int .i64)) (.pair (.int .i64) (.int .i64)))) (.pair (.list (.pair .str (.pair (.pair (.int .i64) (.int .i64)) .bool))) (.pair (.list (.pair .str (.list (.int .i64)))) (.pair (.int .i64) (.pair (.int .i64) (.pair (.int .i64) (.pair (.int .i64) .bool)))))))) (.pair (.pair (.int .i64) (.pair (.int .i64) (.pair (.int .i64) (.pair (.list (.pair (.int .i64) (.pair (.int .i64) (.int .i64)))) (.pair (.list (.pair (.int .i64) (.int .i64))) (.pair (.list (.pair (.int .i64) (.int .i64))) (.pair (.list (.int .i64)) (.pair (.list (.int .i64)) .bool)))))))) (.list (.pair (.int .i64) (.int .i64))))), eq := true },
 {id := 158, d := (.struct [(0, 9, 27), (9, 9, 40), (18, 1, 156)]), size := 19, bytes := 312, zero := (.agg #[(.slice none 0 0), (.slice none 0 0), (.slice none 0 0), (.slice none 0 0), (.int .i64 (0)), (.int .i64 (0)), (.int .i64 (0)), (.int .i64 (0)), (.bool false), (.int .i64 (0)), (.int .i64 (0)), (.int .i64 (0)), (.slice none 0 0), (.slice none 0 0), (.slice none 0 0), (.slice none 0 0), (.slice none 0 0), (.bool false), (.slice none 0 0)]), ty := some (.pair (.pair (.list (.pair .str (.pair (.int .i64) (.int .i64)))) (.pair (.list (.pair (.pair (.int .i64) (.int .i64)) (.pair (.int .i64) (.int .i64)))) (.pair (.list (.pair .str (.pair (.pair (.int .i64) (.int .i64)) .bool))) (.pair (.list (.pair .str (.list (.int .i64)))) (.pair (.int .i64) (.pair (.int .i64) (.pair (.int .i64) (.pair (.int .i64) .bool)))))))) (.pair (.pair (.int .i64) (.pair (.int .i64) (.pair (.int .i64) (.pair (.list (.pair (.int .i64) (.pair (.int .i64) (.int .i64)))) (.pair (.list (.pair (.int .i64) (.int .i64))) (.pair (.list (.pair (.int .i64) (.int .i64))) (.pair (.list (.int .i64)) (.pair (.list (.int .i64)) .bool)))))))) (.list (.pair (.int .i64) (.int .i64))))), eq := true },
 {id := 173, d := (.int .i64), size := 1, bytes := 8, zero := (.int .i64 (0)), ty := some (.int .i64), eq := false },
 {id := 180, d := (.int .u32), size := 1, bytes := 4, zero := (.int .u32 (0)), ty := some (.int .u32), eq := false },
 {id := 182, d := (.int .u64), size := 1, bytes := 8, zero := (.int .u64 (0)), ty := some (.int .u64), eq := false },
 {id := 185, d := (.slice 193), size := 1, bytes := 24, zero := (.slice none 0 0), ty := some (.list (.pair (.int .i64) (.pair (.list (.int .i64)) (.pair (.list (.int .i64)) (.pair (.list (.pair (.int .i64) (.int .i64))) (.list (.pair (.int .i64) (.int .i64)))))))), eq := false },
 {id := 186, d := (.struct [(0, 1, 3), (1, 1, 185)]), size := 2, bytes := 32, zero := (.agg #[(.int .i64 (0)), (.slice none 0 0)]), ty := some (.pair (.int .i64) (.list (.pair (.int .i64) (.pair (.list (.int .i64)) (.pair (.list (.int .i64)) (.pair (.list (.pair (.int .i64) (.int .i64))) (.list (.pair (.int .i64) (.int .i64))))))))), eq := true },
 {id := 187, d := (.struct [(0, 1, 3), (1, 1, 185)]), size := 2, bytes := 32, zero := (.agg #[(.int .i64 (0)), (.slice none 0 0)]), ty := some (.pair (.int .i64) (.list (.pair (.int .i64) (.pair (.list (.int .i64)) (.pair (.list (.int .i64)) (.pair (.list (.pair (.int .i64) (.int .i64))) (.list (.pair (.int .i64) (.int .i64))))))))), eq := true },
 {id := 192, d := (.struct [(0, 1, 3), (1, 1, 38), (2, 1, 38), (3, 1, 37), (4, 1, 37)]), size := 5, bytes := 104, zero := (.agg #[(.int .i64 (0)), (.slice none 0 0), (.slice none 0 0), (.slice none 0 0), (.slice none 0 0)]), ty := some (.pair (.int .i64) (.pair (.list (.int .i64)) (.pair (.list (.int .i64)) (.pair (.list (.pair (.int .i64) (.int .i64))) (.list (.pair (.int .i64) (.int .i64))))))), eq := true },
 {id := 193, d := (.struct [(0, 1, 3), (1, 1, 38), (2, 1, 38), (3, 1, 37), (4, 1, 37)]), size := 5, bytes := 104, zero := (.agg #[(.int .i64 (0)), (.slice none 0 0), (.slice none 0 0), (.slice none 0 0), (.slice none 0 0)]), ty := some (.pair (.int .i64) (.pair (.list (.int .i64)) (.pair (.list (.int .i64)) (.pair (.list (.pair (.int .i64) (.int .i64))) (.list (.pair (.int .i64) (.int .i64))))))), eq := true },
 {id := 198, d := (.slice 37), size := 1, bytes := 24, zero := (.slice none 0 0), ty := some (.list (.list (.pair (.int .i64) (.int .i64)))), eq := false },
 {id := 205, d := (.map 9 4), size := 1, bytes := 8, zero := (.map none), ty := some (.map .str .bool), eq := false },
 {id := 206, d := (.map 122 4), size := 1, bytes := 8, zero := (.map none), ty := some (.map (.pair (.int .i64) (.int .i64)) .bool), eq := false },
 {id := 207, d := (.map 3 4), size := 1, bytes := 8, zero := (.map none), ty := some (.map (.int .i64) .bool), eq := false },
 {id := 209, d := (.int .u64), size := 1, bytes := 8, zero := (.int .u64 (0)), ty := some (.int .u64), eq := false },
 {id := 213, d := .pnt, size := 1, bytes := 8, zero := (.pointer none), ty := some (.ptr (.int .i64)), eq := false },
 {id := 218, d := (.slice 221), size := 1, bytes := 24, zero := (.slice none 0 0), ty := some (.list (.pair (.int .i64) (.int .i64))), eq := false },
 {id := 220, d := (.struct [(0, 1, 3), (1, 1, 3)]), size := 2, bytes := 16, zero := (.agg #[(.int .i64 (0)), (.int .i64 (0))]), ty := some (.pair (.int .i64) (.int .i64)), eq := true },
 {id := 221, d := (.struct [(0, 1, 3), (1, 1, 3)]), size := 2, bytes := 16, zero := (.agg #[(.int .i64 (0)), (.int .i64 (0))]), ty := some (.pair (.int .i64) (.int .i64)), eq := true },
 {id := 226, d := .pnt, size := 1, bytes := 8, zero := (.pointer none), ty := some (.ptr (.int .u64)), eq := false },
 {id := 241, d := (.struct [(0, 1, 17), (1, 1, 17), (2, 1, 17), (3, 1, 9)]), size := 4, bytes := 40, zero := (.agg #[(.pointer none), (.pointer none), (.pointer none), (.string ⟨⟨[]⟩⟩)]), ty := none, eq := false },
 {id := 242, d := (.struct [(0, 1, 17), (1, 1, 17), (2, 1, 17), (3, 1, 9)]), size := 4, bytes := 40, zero := (.agg #[(.pointer none), (.pointer none), (.pointer none), (.string ⟨⟨[]⟩⟩)]), ty := none, eq := false },
 {id := 243, d := (.array 0 16), size := 0, bytes := 0, zero := (.agg #[]), ty := none, eq := false },
 {id := 244, d := (.struct [(0, 0, 243)]), size := 0, bytes := 0, zero := (.agg #[]), ty := none, eq := false },
 {id := 245, d := (.struct [(0, 0, 243)]), size := 0, bytes := 0, zero := (.agg #[]), ty := none, eq := false },
 {id := 246, d := (.int .u8), size := 1, bytes := 1, zero := (.int .u8 (0)), ty := some (.int .u8), eq := false },
 {id := 247, d := (.int .u8), size := 1, bytes := 1, zero := (.int .u8 (0)), ty := some (.int .u8), eq := false },
 {id := 249, d := .pnt, size := 1, bytes := 8, zero := (.pointer none), ty := some (.ptr (.int .u8)), eq := false },
 {id := 250, d := (.int .i32), size := 1, bytes := 4, zero := (.int .i32 (0)), ty := some (.int .i32), eq := false },
 {id := 251, d := (.int .i32), size := 1, bytes := 4, zero := (.int .i32 (0)), ty := some (.int .i32), eq := false }]
theorem tabOk : TabOk Tryz.prog tab where
 skels := by kernel_rfl
 infos := by kernel_rfl
 eqs := by kernel_rfl
 mixed := by kernel_rfl
end YtpnnfimacblhgaaGreat
end Go.Proofs
end

section
set_option maxRecDepth 100000
set_option linter.unusedVariables false
namespace Go.Proofs
open Go Go.Vc
namespace YtpnnfimacblhgaaGreat
abbrev I := Ty.int .i64
abbrev ElemT : Ty := .pair .str (.pair I I)
abbrev PortT : Ty := .pair I I
abbrev JoinT : Ty := .pair PortT PortT
abbrev SignalT : Ty := .pair .str (.pair PortT .bool)
abbrev LineT : Ty := .pair .str (.list I)
abbrev PlanT : Ty := .pair (.list ElemT) (.pair (.list JoinT) (.pair (.list SignalT) (.pair (.list LineT) (.pair I (.pair I (.pair I (.pair I .bool)))))))
abbrev WayT : Ty := .pair I I
abbrev Str := List UInt8
abbrev ElemD := Str × Int × Int
abbrev PortD := Int × Int
abbrev JoinD := PortD × PortD
abbrev SignalD := Str × PortD × Bool
abbrev LineD := Str × List Int
abbrev PlanD := List ElemD × List JoinD × List SignalD × List LineD × Int × Int × Int × Int × Bool
def zE : ElemD := ([], 0, 0)
def zP : PortD := (0, 0)
def zJ : JoinD := ((0, 0), (0, 0))
def zS : SignalD := ([], (0, 0), false)
def zL : LineD := ([], [])
def allTo (p : Nat → Bool) : Nat → Bool
 | 0 => true
 | k + 1 => allTo p k && p k
def anyTo (p : Nat → Bool) : Nat → Bool
 | 0 => false
 | k + 1 => anyTo p k || p k
def firstTo (p : Nat → Bool) (n : Nat) : Option Nat := (List.range n).find? p
def idxOr (o : Option Nat) : Int := match o with | some i => (i : Int) | none => -1
def fIn (lo hi n : Int) : Bool := decide (lo ≤ n) && decide (n ≤ hi)
@[irreducible] def fEnds (k : Int) : Int := bif k == 1 then 2 else bif k == 2 then 3 else bif k == 3 then 4 else bif k == 4 then 1 else 0
@[irreducible] def fKind (p : PlanD) (e : Int) : Int := bif decide (e < 0) || decide ((p.1.length : Int) ≤ e) then 0 else (p.1.getD e.toNat zE).2.1
@[irreducible] def fLength (p : PlanD) (e : Int) : Int := bif decide (e < 0) || decide ((p.1.length : Int) ≤ e) then 0 else (p.1.getD e.toNat zE).2.2
@[irreducible] def fHas (p : PlanD) (x : PortD) : Bool := decide (0 ≤ x.1) && (decide (x.1 < (p.1.length : Int)) && (decide (0 ≤ x.2) && decide (x.2 < fEnds (fKind p x.1))))
def nextOf (o : Option JoinD) (x : PortD) : PortD × Bool := match o with
 | some j => (bif j.1 == x then j.2 else j.1, true)
 | none => ((0, 0), false)
@[irreducible] def fNext (p : PlanD) (x : PortD) : PortD × Bool := nextOf (p.2.1.find? fun j => j.1 == x || j.2 == x) x
@[irreducible] def fReads (p : PlanD) (x : PortD) : Int := idxOr (firstTo (fun i => (p.2.2.1.getD i zS).2.1 == x) p.2.2.1.length)
@[irreducible] def fMem (l : List Int) (n : Int) : Bool := l.any fun y => y == n
def stopUp (v b : Int) : Nat → Int
 | 0 => 0
 | k + 1 => stopUp v b k + (v - b * ((k : Int) + 1))
def stopAt (v b : Int) : Nat := (firstTo (fun k => decide (v - b * ((k : Int) + 1) ≤ 0)) 100).getD 0
@[irreducible] def fStop (v b : Int) : Int := bif fIn 0 60 v && fIn 1 10 b then stopUp v b (stopAt v b) else 0
def fLetter (c : UInt8) : Bool := (decide (97 ≤ c.toNat) && decide (c.toNat ≤ 122)) || (decide (65 ≤ c.toNat) && decide (c.toNat ≤ 90))
def fDigit (c : UInt8) : Bool := decide (48 ≤ c.toNat) && decide (c.toNat ≤ 57)
def fNameAt (s : Str) (i : Nat) : Bool := fLetter (s.getD i 0) || (!(i == 0) && fDigit (s.getD i 0))
@[irreducible] def fName (s : Str) : Bool := allTo (fNameAt s) s.length && (decide (1 ≤ s.length) && decide (s.length ≤ 8))
@[irreducible] def fAt (p : PlanD) (s : Int) : PortD × Bool := bif decide (s < 0) || decide ((p.2.2.1.length : Int) ≤ s) then ((0, 0), false) else ((p.2.2.1.getD s.toNat zS).2.1, true)
def fCross (i : Int) : Int := bif i == 0 then 1 else bif i == 1 then 0 else bif i == 2 then 3 else 2
@[irreducible] def fOuts (p : PlanD) (e i : Int) : List (Int × Int) :=
 bif !fHas p (e, i) then [] else bif fKind p e == 1 then [(1 - i, 0)] else bif fKind p e == 3 then [(fCross i, 0)] else bif fKind p e == 2 then (bif i == 0 then [(1, 1), (2, 2)] else [(0, i)]) else []
def wayOf (o : Option (Int × Int)) : Int × Bool := match o with
 | some w => (w.1, true)
 | none => (0, false)
@[irreducible] def fThrough (p : PlanD) (e i pos : Int) : Int × Bool := wayOf ((fOuts p e i).find? fun w => w.2 == 0 || w.2 == pos)
def inOf (o : Option Nat) : Int × Bool := match o with
 | some i => ((i : Int), true)
 | none => (0, false)
@[irreducible] def fFrom (p : PlanD) (e out pos : Int) : Int × Bool := inOf (firstTo (fun i => (fThrough p e (i : Int) pos).2 && (fThrough p e (i : Int) pos).1 == out) (fEnds (fKind p e)).toNat)
@[irreducible] def fTwice (l : List Str) : Bool := anyTo (fun i => anyTo (fun k => l.getD i [] == l.getD k []) i) l.length
@[irreducible] def fElemOk (e : ElemD) : Bool := fName e.1 && (!(fEnds e.2.1 == 0) && (bif e.2.1 == 4 then e.2.2 == 0 else fIn 1 4000 e.2.2))
@[irreducible] def fNums (p : PlanD) : Bool := fIn 1 60 p.2.2.2.2.1 && (fIn 1 10 p.2.2.2.2.2.1 && (fIn 1 4000 p.2.2.2.2.2.2.1 && (fIn 1 20 p.2.2.2.2.2.2.2.1 && !decide (p.1.length = 0))))
@[irreducible] def fArgs (p : PlanD) : Bool := fNums p && (p.1.all fElemOk && ((p.2.2.1.all fun s => fName s.1) && p.2.2.2.1.all fun l => fName l.1))
def joinEnds (p : PlanD) : List PortD := p.2.1.flatMap fun j => [j.1, j.2]
def endOk (p : PlanD) (i : Nat) : Bool := fHas p ((joinEnds p).getD i zP) && !anyTo (fun k => (joinEnds p).getD k zP == (joinEnds p).getD i zP) i
def gateOk (p : PlanD) (i : Nat) : Bool := bif (p.1.getD i zE).2.1 == 4 then (fNext p ((i : Int), 0)).2 && !(fKind p (fNext p ((i : Int), 0)).1.1 == 4) else true
@[irreducible] def fJoined (p : PlanD) : Bool := allTo (endOk p) (joinEnds p).length && allTo (gateOk p) p.1.length
def sigOkX (p : PlanD) (x : PortD) (i : Int) : Bool := fHas p x && ((fKind p x.1 == 1 || fKind p x.1 == 4) && ((fNext p x).2 && (!(fKind p (fNext p x).1.1 == 4) && fReads p x == i)))
def sigOk (p : PlanD) (i : Nat) : Bool := sigOkX p (p.2.2.1.getD i zS).2.1 (i : Int)
def gateSig (p : PlanD) (i : Nat) : Bool := bif (p.1.getD i zE).2.1 == 4 then decide (0 ≤ fReads p ((i : Int), 0)) else true
@[irreducible] def fSignals (p : PlanD) : Bool := allTo (sigOk p) p.2.2.1.length && allTo (gateSig p) p.1.length
def outTo (p : PlanD) (l : List Int) (e : Int) : Bool := (fNext p (l.getD 0 0, e)).2 && (fNext p (l.getD 0 0, e)).1.1 == l.getD 1 0
def fOut0 (p : PlanD) (l : List Int) : Int := bif outTo p l 0 then 0 else bif outTo p l 1 then 1 else -1
def entGo (p : PlanD) (l : List Int) (k : Nat) (out : Int) : PortD × Bool := fNext p (l.getD k 0, out)
def fEnt (p : PlanD) (l : List Int) (out : Int) : Nat → List Int × Int × Bool
 | 0 => ([1 - out], out, true)
 | k + 1 => bif (fEnt p l out k).2.2 && ((entGo p l k (fEnt p l out k).2.1).2 && (entGo p l k (fEnt p l out k).2.1).1.1 == l.getD (k + 1) 0) then
   ((fEnt p l out k).1 ++ [(entGo p l k (fEnt p l out k).2.1).1.2], 1 - (entGo p l k (fEnt p l out k).2.1).1.2, true)
  else ((fEnt p l out k).1, (fEnt p l out k).2.1, false)
@[irreducible] def fEnters (p : PlanD) (l : List Int) : List Int × Bool :=
 bif decide (l.length = 0) || !l.all (fun e => fKind p e == 1) then ([], false) else bif decide (l.length = 1) then ([0], true) else bif decide (fOut0 p l < 0) then ([], false) else
  bif (fEnt p l (fOut0 p l) (l.length - 1)).2.2 then ((fEnt p l (fOut0 p l) (l.length - 1)).1, true) else ([], false)
def metBy (p : PlanD) (i : Nat) : List Int := (p.2.2.2.1.take i).flatMap fun l => l.2
def lineNew (p : PlanD) (i k : Nat) : Bool := !fMem (metBy p i ++ (p.2.2.2.1.getD i zL).2.take k) ((p.2.2.2.1.getD i zL).2.getD k 0)
def lineOk (p : PlanD) (i : Nat) : Bool := allTo (lineNew p i) (p.2.2.2.1.getD i zL).2.length && (fEnters p (p.2.2.2.1.getD i zL).2).2
@[irreducible] def fLines (p : PlanD) : Bool := allTo (lineOk p) p.2.2.2.1.length
def sigLong (p : PlanD) (s : SignalD) : Bool := !(fKind p s.2.1.1 == 1 && decide (fLength p s.2.1.1 < p.2.2.2.2.2.2.1))
def elemLong (p : PlanD) (e : ElemD) : Bool := !(!(e.2.1 == 4) && decide (e.2.2 < p.2.2.2.2.1))
@[irreducible] def fLong (p : PlanD) : Bool := !decide (p.2.2.2.2.2.2.1 < p.2.2.2.2.1 + fStop p.2.2.2.2.1 p.2.2.2.2.2.1) && (p.2.2.1.all (sigLong p) && p.1.all (elemLong p))
@[irreducible] def fSizes (p : PlanD) : Bool := decide (p.1.length ≤ 40) && (decide (p.2.2.1.length ≤ 24) && (decide (p.2.2.2.1.length ≤ 4) && decide (p.2.1.length ≤ 80)))
@[irreducible] def fCheck (p : PlanD) : Int :=
 bif !fSizes p then 3 else bif !fArgs p then 1 else bif fTwice (p.1.map fun e => e.1) || (fTwice (p.2.2.1.map fun s => s.1) || fTwice (p.2.2.2.1.map fun l => l.1)) then 4 else
 bif !fJoined p then 6 else bif !fSignals p then 7 else bif !fLines p then 8 else bif !fLong p then 9 else 0
@[irreducible] def fFew (p : PlanD) : Bool := decide (p.1.length ≤ 60) && (decide (p.2.1.length ≤ 120) && (decide (p.2.2.1.length ≤ 60) && (decide (p.2.2.2.1.length ≤ 20) &&
 ((p.2.2.2.1.all fun l => decide (l.2.length ≤ 60) && decide (l.1.length ≤ 100)) && ((p.1.all fun e => decide (e.1.length ≤ 100)) && p.2.2.1.all fun s => decide (s.1.length ≤ 100))))))
@[irreducible] def fFine (p : PlanD) : Bool := fFew p && fCheck p == 0
def shortLines (p : PlanD) : Prop := ∀ l ∈ p.2.2.2.1, l.2.length ≤ 1000
def keepP {A B C D E F G H J : Type} (p : A × B × C × D × E × F × G × H × J) (R : Prop) : Prop :=
 p.fst = p.fst ∧ p.snd.fst = p.snd.fst ∧ p.snd.snd.fst = p.snd.snd.fst ∧ p.snd.snd.snd.fst = p.snd.snd.snd.fst ∧ p.snd.snd.snd.snd.fst = p.snd.snd.snd.snd.fst ∧ p.snd.snd.snd.snd.snd.fst = p.snd.snd.snd.snd.snd.fst ∧
 p.snd.snd.snd.snd.snd.snd.fst = p.snd.snd.snd.snd.snd.snd.fst ∧ p.snd.snd.snd.snd.snd.snd.snd.fst = p.snd.snd.snd.snd.snd.snd.snd.fst ∧ p.snd.snd.snd.snd.snd.snd.snd.snd = p.snd.snd.snd.snd.snd.snd.snd.snd ∧ R
theorem keepP_eq {A B C D E F G H J : Type} (p : A × B × C × D × E × F × G × H × J) (R : Prop) : keepP p R = R := by
 unfold keepP
 simp only [true_and]
def c41 : DCon where
 args := [.list I, .list I]
 out := .data [.bool]
 pre := fun (x : List Int × List Int × Unit) => True
 fn := fun (x : List Int × List Int × Unit) => (x.1 == x.2.1, ())
def c64 : DCon where
 args := [I, I, I, I]
 out := .data [JoinT]
 pre := fun (x : Int × Int × Int × Int × Unit) => True
 fn := fun (x : Int × Int × Int × Int × Unit) => (((x.1, x.2.1), (x.2.2.1, x.2.2.2.1)), ())
def c118 : DCon where
 args := [I, I, I]
 out := .data [.bool]
 pre := fun (x : Int × Int × Int × Unit) => True
 fn := fun (x : Int × Int × Int × Unit) => (fIn x.2.1 x.2.2.1 x.1, ())
def c119 : DCon where
 args := [.str]
 out := .data [.bool]
 pre := fun (x : Str × Unit) => True
 fn := fun (x : Str × Unit) => (fName x.1, ())
def c105 : DCon where
 args := [I]
 out := .data [I]
 pre := fun (x : Int × Unit) => True
 fn := fun (x : Int × Unit) => (fEnds x.1, ())
def c56 : DCon where
 args := [PlanT, PortT]
 out := .data [.bool]
 pre := fun (x : PlanD × PortD × Unit) => True
 fn := fun (x : PlanD × PortD × Unit) => (fHas x.1 x.2.1, ())
def c107 : DCon where
 args := [PlanT, PortT]
 out := .data [PortT, .bool]
 pre := fun (x : PlanD × PortD × Unit) => True
 fn := fun (x : PlanD × PortD × Unit) => ((fNext x.1 x.2.1).1, (fNext x.1 x.2.1).2, ())
def c106 : DCon where
 args := [PlanT, I]
 out := .data [I]
 pre := fun (x : PlanD × Int × Unit) => True
 fn := fun (x : PlanD × Int × Unit) => (fKind x.1 x.2.1, ())
def c125 : DCon := c106
def c120 : DCon where
 args := [PlanT, PortT]
 out := .data [I]
 pre := fun (x : PlanD × PortD × Unit) => True
 fn := fun (x : PlanD × PortD × Unit) => (fReads x.1 x.2.1, ())
def c16 : DCon where
 args := [.list I, I]
 out := .data [.bool]
 pre := fun (x : List Int × Int × Unit) => True
 fn := fun (x : List Int × Int × Unit) => (fMem x.1 x.2.1, ())
def c121 : DCon where
 args := [I, I]
 out := .data [I]
 pre := fun (x : Int × Int × Unit) => True
 fn := fun (x : Int × Int × Unit) => (fStop x.1 x.2.1, ())
def c122 : DCon where
 args := [PlanT, I]
 out := .data [I]
 pre := fun (x : PlanD × Int × Unit) => True
 fn := fun (x : PlanD × Int × Unit) => (fLength x.1 x.2.1, ())
def c123 : DCon where
 args := [PlanT, I]
 out := .data [PortT, .bool]
 pre := fun (x : PlanD × Int × Unit) => True
 fn := fun (x : PlanD × Int × Unit) => ((fAt x.1 x.2.1).1, (fAt x.1 x.2.1).2, ())
def c147 : DCon where
 args := [PlanT, I, I]
 out := .data [.list WayT]
 pre := fun (x : PlanD × Int × Int × Unit) => True
 fn := fun (x : PlanD × Int × Int × Unit) => (fOuts x.1 x.2.1 x.2.2.1, ())
def c158 : DCon where
 args := [PlanT, I, I, I]
 out := .data [I, .bool]
 pre := fun (x : PlanD × Int × Int × Int × Unit) => True
 fn := fun (x : PlanD × Int × Int × Int × Unit) => ((fThrough x.1 x.2.1 x.2.2.1 x.2.2.2.1).1, (fThrough x.1 x.2.1 x.2.2.1 x.2.2.2.1).2, ())
def c151 : DCon where
 args := [PlanT, I, I, I]
 out := .data [I, .bool]
 pre := fun (x : PlanD × Int × Int × Int × Unit) => True
 fn := fun (x : PlanD × Int × Int × Int × Unit) => ((fFrom x.1 x.2.1 x.2.2.1 x.2.2.2.1).1, (fFrom x.1 x.2.1 x.2.2.1 x.2.2.2.1).2, ())
def c71 : DCon where
 args := [.list .str]
 out := .data [.bool]
 pre := fun (x : List Str × Unit) => True
 fn := fun (x : List Str × Unit) => (fTwice x.1, ())
def namesPre (p : PlanD) : Prop := p.1.length ≤ 1000 ∧ p.2.2.1.length ≤ 1000 ∧ p.2.2.2.1.length ≤ 1000
def c69 : DCon where
 args := [PlanT]
 out := .data [.list .str, .list .str, .list .str]
 pre := fun (x : PlanD × Unit) => namesPre x.1
 fn := fun (x : PlanD × Unit) => (x.1.1.map (fun e => e.1), x.1.2.2.1.map (fun s => s.1), x.1.2.2.2.1.map (fun l => l.1), ())
def c70 : DCon where
 args := [PlanT]
 out := .data [.bool]
 pre := fun (x : PlanD × Unit) => True
 fn := fun (x : PlanD × Unit) => (fArgs x.1, ())
def c72 : DCon where
 args := [PlanT]
 out := .data [.bool]
 pre := fun (x : PlanD × Unit) => x.1.2.1.length ≤ 1000
 fn := fun (x : PlanD × Unit) => (fJoined x.1, ())
def c73 : DCon where
 args := [PlanT]
 out := .data [.bool]
 pre := fun (x : PlanD × Unit) => True
 fn := fun (x : PlanD × Unit) => (fSignals x.1, ())
def c57 : DCon where
 args := [PlanT, .list I]
 out := .data [.list I, .bool]
 pre := fun (x : PlanD × List Int × Unit) => fJoined x.1 = true ∧ x.2.1.length ≤ 1000
 fn := fun (x : PlanD × List Int × Unit) => ((fEnters x.1 x.2.1).1, (fEnters x.1 x.2.1).2, ())
def c74 : DCon where
 args := [PlanT]
 out := .data [.bool]
 pre := fun (x : PlanD × Unit) => fJoined x.1 = true ∧ shortLines x.1 ∧ x.1.2.2.2.1.length ≤ 1000
 fn := fun (x : PlanD × Unit) => (fLines x.1, ())
def c75 : DCon where
 args := [PlanT]
 out := .data [.bool]
 pre := fun (x : PlanD × Unit) => fNums x.1 = true
 fn := fun (x : PlanD × Unit) => (fLong x.1, ())
def c45 : DCon where
 args := [PlanT]
 out := .data [I]
 pre := fun (x : PlanD × Unit) => shortLines x.1
 fn := fun (x : PlanD × Unit) => (fCheck x.1, ())
def c50 : DCon where
 args := [PlanT]
 out := .data [.bool]
 pre := fun (x : PlanD × Unit) => True
 fn := fun (x : PlanD × Unit) => (fFew x.1, ())
def c25 : DCon where
 args := [PlanT]
 out := .data [.bool]
 pre := fun (x : PlanD × Unit) => True
 fn := fun (x : PlanD × Unit) => (fFine x.1, ())
end YtpnnfimacblhgaaGreat
end Go.Proofs
end

section
set_option maxRecDepth 100000
set_option linter.unusedVariables false
namespace Go.Proofs
open Go Go.Vc
namespace YtpnnfimacblhgaaGreat
def upLoop (n : Nat) (ok : Nat → Prop) (slot : Nat) (keep keepB : List Nat) : LA where
 σ := Nat
 ok := fun k => k ≤ n ∧ ok k
 mu := fun k => n - k
 sl := fun k => [(slot, .one (.dat I (k : Int)))]
 bl := fun _ => []
 keep := keep
 keepB := keepB
def rowLoop (n : Nat) (slot row id e : Nat) (t : Ty) (xs : Nat → List t.den) (keep keepB : List Nat) : LA where
 σ := Nat
 ok := fun k => k ≤ n
 mu := fun k => n - k
 sl := fun k => [(slot, .one (.dat I (k : Int))), (row, .one (.row t id))]
 bl := fun k => [(id, .row false e t (xs k))]
 keep := keep
 keepB := keepB
def allT {α : Type} (p : α → Bool) (xs : List α) (k : Nat) : Prop := (xs.take k).all p = true
def allOf (p : Nat → Bool) (k : Nat) : Prop := allTo p k = true
def noneOf (p : Nat → Bool) (k : Nat) : Prop := anyTo p k = false
def noneT {α : Type} (p : α → Bool) (xs : List α) (k : Nat) : Prop := (xs.take k).any p = false
def sameT {α : Type} (xs ys : List α) (k : Nat) : Prop := xs.length = ys.length ∧ xs.take k = ys.take k
def slotI (S : St) (n : Nat) : Int :=
 match find S.sl n with
 | some (_, .one (.dat (.int _) x)) => Ty.I x
 | _ => 0
def a41 (x : List Int × List Int × Unit) : Ann := loopAnn [(4, fun _ => upLoop x.1.length (sameT x.1 x.2.1) 5 [0, 1] [])]
def a119 (x : Str × Unit) : Ann := loopAnn [(2, fun _ => upLoop x.1.length (allOf (fNameAt x.1)) 3 [0] [])]
def joinOf (x : PortD) (j : JoinD) : Bool := j.1 == x || j.2 == x
def a107 (x : PlanD × PortD × Unit) : Ann := loopAnn [(2, fun _ => upLoop x.1.2.1.length (noneT (joinOf x.2.1) x.1.2.1) 6 [2, 3, 4] [2, 3, 4])]
def readOf (p : PlanD) (x : PortD) (i : Nat) : Bool := (p.2.2.1.getD i zS).2.1 == x
def a120 (x : PlanD × PortD × Unit) : Ann := loopAnn [(2, fun _ => upLoop x.1.2.2.1.length (noneOf (readOf x.1 x.2.1)) 5 [2, 3] [2, 3])]
def a16 (x : List Int × Int × Unit) : Ann := loopAnn [(2, fun _ => upLoop x.1.length (noneT (fun y => y == x.2.1) x.1) 5 [0, 1] [])]
def stopDone (v b : Int) (k : Nat) : Bool := decide (v - b * ((k : Int) + 1) ≤ 0)
def a121 (x : Int × Int × Unit) : Ann := loopAnn [(5, fun _ => {
 σ := Nat
 ok := fun k => k ≤ 60 ∧ noneOf (stopDone x.1 x.2.1) k
 mu := fun k => 60 - k
 sl := fun k => [(0, .one (.dat I (x.1 - x.2.1 * ((k : Int) + 1)))), (5, .one (.dat I (stopUp x.1 x.2.1 k)))]
 bl := fun _ => []
 keep := [1]
 keepB := [] })]
def wayFits (pos : Int) (w : Int × Int) : Bool := w.2 == 0 || w.2 == pos
def a158 (x : PlanD × Int × Int × Int × Unit) : Ann := loopAnn [(3, fun _ => upLoop (fOuts x.1 x.2.1 x.2.2.1).length (noneT (wayFits x.2.2.2.1) (fOuts x.1 x.2.1 x.2.2.1)) 11 [3, 10] [])]
def fromOf (p : PlanD) (e out pos : Int) (i : Nat) : Bool := (fThrough p e (i : Int) pos).2 && (fThrough p e (i : Int) pos).1 == out
def a151 (x : PlanD × Int × Int × Int × Unit) : Ann := loopAnn [(2, fun _ => upLoop (fEnds (fKind x.1 x.2.1)).toNat (noneOf (fromOf x.1 x.2.1 x.2.2.1 x.2.2.2.1)) 10 [1, 2, 3, 4] [4])]
def sameText (l : List Str) (i k : Nat) : Bool := l.getD i [] == l.getD k []
def a71 (x : List Str × Unit) : Ann := loopAnn [(2, fun _ => upLoop x.1.length (noneOf (fun i => anyTo (sameText x.1 i) i)) 3 [0] []),
 (5, fun S => upLoop (slotI S 3).toNat (noneOf (sameText x.1 (slotI S 3).toNat)) 4 [0, 3] [])]
def a69 (x : PlanD × Unit) : Ann := loopAnn [(3, fun _ => rowLoop x.1.1.length 8 5 1000 9 .str (fun k => (x.1.1.take k).map fun e => e.1) [1, 6, 7] [1]),
 (7, fun _ => rowLoop x.1.2.2.1.length 9 6 1001 9 .str (fun k => (x.1.2.2.1.take k).map fun e => e.1) [1, 5, 7] [1, 1000]),
 (11, fun _ => rowLoop x.1.2.2.2.1.length 10 7 1002 9 .str (fun k => (x.1.2.2.2.1.take k).map fun e => e.1) [1, 5, 6] [1, 1000, 1001])]
def sigName (s : SignalD) : Bool := fName s.1
def lineName (l : LineD) : Bool := fName l.1
def a70 (x : PlanD × Unit) : Ann := loopAnn [(4, fun _ => upLoop x.1.1.length (allT fElemOk x.1.1) 3 [1] [1]),
 (10, fun _ => upLoop x.1.2.2.1.length (allT sigName x.1.2.2.1) 5 [1] [1]),
 (15, fun _ => upLoop x.1.2.2.2.1.length (allT lineName x.1.2.2.2.1) 6 [1] [1])]
def sameEnd (p : PlanD) (i k : Nat) : Bool := (joinEnds p).getD k zP == (joinEnds p).getD i zP
def a72 (x : PlanD × Unit) : Ann := loopAnn [(3, fun _ => rowLoop x.1.2.1.length 4 3 1000 122 PortT (fun k => (x.1.2.1.take k).flatMap fun j => [j.1, j.2]) [1] [1]),
 (7, fun _ => upLoop (joinEnds x.1).length (allOf (endOk x.1)) 5 [1, 3] [1, 1000]),
 (12, fun S => upLoop (slotI S 5).toNat (noneOf (sameEnd x.1 (slotI S 5).toNat)) 6 [1, 3, 5] [1, 1000]),
 (17, fun _ => upLoop x.1.1.length (allOf (gateOk x.1)) 7 [1] [1])]
def a73 (x : PlanD × Unit) : Ann := loopAnn [(2, fun _ => upLoop x.1.2.2.1.length (allOf (sigOk x.1)) 3 [1] [1]),
 (12, fun _ => upLoop x.1.1.length (allOf (gateSig x.1)) 8 [1] [1])]
def isTrack (p : PlanD) (e : Int) : Bool := fKind p e == 1
def outAt (p : PlanD) (l : List Int) : Nat → Int
 | 0 => -1
 | 1 => bif outTo p l 1 then 1 else -1
 | _ => fOut0 p l
def a57 (x : PlanD × List Int × Unit) : Ann := loopAnn [(4, fun _ => upLoop x.2.1.length (allT (isTrack x.1) x.2.1) 6 [1, 2] [2]),
 (12, fun _ => {
  σ := Nat
  ok := fun k => k ≤ 2
  mu := fun k => 2 - k
  sl := fun k => [(8, .one (.dat I (1 - (k : Int)))), (7, .one (.dat I (outAt x.1 x.2.1 k)))]
  bl := fun _ => []
  keep := [1, 2]
  keepB := [2] }),
 (21, fun _ => {
  σ := Nat
  ok := fun k => k < x.2.1.length ∧ (fEnt x.1 x.2.1 (fOut0 x.1 x.2.1) k).2.2 = true
  mu := fun k => x.2.1.length - k
  sl := fun k => [(12, .one (.dat I ((k : Int) + 1))), (7, .one (.dat I (fEnt x.1 x.2.1 (fOut0 x.1 x.2.1) k).2.1)), (11, .one (.row I 1000))]
  bl := fun k => [(1000, .row false 3 I (fEnt x.1 x.2.1 (fOut0 x.1 x.2.1) k).1)]
  keep := [1, 2]
  keepB := [2] })]
def a74 (x : PlanD × Unit) : Ann := loopAnn [(3, fun _ => {
  σ := Nat
  ok := fun k => k ≤ x.1.2.2.2.1.length ∧ allOf (lineOk x.1) k
  mu := fun k => x.1.2.2.2.1.length - k
  sl := fun k => [(4, .one (.dat I (k : Int))), (3, .one (.row I 1000))]
  bl := fun k => [(1000, .row false 3 I (metBy x.1 k))]
  keep := [1]
  keepB := [1] }),
 (7, fun S => {
  σ := Nat
  ok := fun k => k ≤ (x.1.2.2.2.1.getD (slotI S 4).toNat zL).2.length ∧ allOf (lineNew x.1 (slotI S 4).toNat) k
  mu := fun k => (x.1.2.2.2.1.getD (slotI S 4).toNat zL).2.length - k
  sl := fun k => [(6, .one (.dat I (k : Int))), (3, .one (.row I 1001))]
  bl := fun k => [(1001, .row false 3 I (metBy x.1 (slotI S 4).toNat ++ (x.1.2.2.2.1.getD (slotI S 4).toNat zL).2.take k))]
  keep := [1, 4, 5]
  keepB := [1] })]
def a75 (x : PlanD × Unit) : Ann := loopAnn [(4, fun _ => upLoop x.1.2.2.1.length (allT (sigLong x.1) x.1.2.2.1) 3 [1] [1]),
 (10, fun _ => upLoop x.1.1.length (allT (elemLong x.1) x.1.1) 5 [1] [1])]
def fewLine (l : LineD) : Bool := decide (l.2.length ≤ 60) && decide (l.1.length ≤ 100)
def fewElem (e : ElemD) : Bool := decide (e.1.length ≤ 100)
def fewSig (e : SignalD) : Bool := decide (e.1.length ≤ 100)
def a50 (x : PlanD × Unit) : Ann := loopAnn [(4, fun _ => upLoop x.1.2.2.2.1.length (allT fewLine x.1.2.2.2.1) 3 [1] [1]),
 (9, fun _ => upLoop x.1.1.length (allT fewElem x.1.1) 4 [1] [1]),
 (14, fun _ => upLoop x.1.2.2.1.length (allT fewSig x.1.2.2.1) 5 [1] [1])]
end YtpnnfimacblhgaaGreat
end Go.Proofs
end

section
set_option maxRecDepth 100000
set_option linter.unusedVariables false
set_option linter.unusedSimpArgs false
set_option maxHeartbeats 1000000
namespace Go.Proofs
open Go Go.Vc
namespace YtpnnfimacblhgaaGreat
theorem inR_of {n : Int} (h1 : -9223372036854775808 ≤ n) (h2 : n ≤ 9223372036854775807) : InR .i64 n := by
 show IntKind.min .i64 ≤ n ∧ n ≤ IntKind.max .i64
 have e1 : IntKind.min .i64 = -9223372036854775808 := by decide
 have e2 : IntKind.max .i64 = 9223372036854775807 := by decide
 omega
theorem inR64 {n : Int} (h1 : -1000000000000 ≤ n) (h2 : n ≤ 1000000000000) : InR .i64 n := inR_of (by omega) (by omega)
theorem inRlen {s n : Nat} (h : s < n) (hn : n ≤ maxLenI) : InR .i64 ((s : Int) + 1) := by
 have : maxLenI = 9223372036854775807 := rfl
 exact inR_of (by omega) (by omega)
theorem inR_u8 {n : Int} (h : InR .u8 n) : 0 ≤ n ∧ n ≤ 255 := by
 have h : IntKind.min .u8 ≤ n ∧ n ≤ IntKind.max .u8 := h
 have e1 : IntKind.min .u8 = 0 := by decide
 have e2 : IntKind.max .u8 = 255 := by decide
 omega
theorem roomB {n b : Nat} (h : n ≤ 2000000000) (hb : b ≤ 1000) : roomFor n b := by
 unfold roomFor
 have : n * (b + 1) ≤ 2000000000 * 1001 := Nat.mul_le_mul h (by omega)
 omega
theorem geN (a : Nat) (n : Int) (k : Nat) (e : n = (k : Int)) : decide ((a : Int) ≥ n) = decide (k ≤ a) := by
 rw [e]
 by_cases h : k ≤ a
 ·rw [decide_eq_true h, decide_eq_true (by omega)]
 ·rw [decide_eq_false h, decide_eq_false (by omega)]
theorem leN (a : Nat) (n : Int) (k : Nat) (e : n = (k : Int)) : decide ((a : Int) ≤ n) = decide (a ≤ k) := by
 rw [e]
 by_cases h : a ≤ k
 ·rw [decide_eq_true h, decide_eq_true (by omega)]
 ·rw [decide_eq_false h, decide_eq_false (by omega)]
theorem ltN (a : Nat) (n : Int) (k : Nat) (e : n = (k : Int)) : decide ((a : Int) < n) = !decide (k ≤ a) := by
 rw [e]
 by_cases h : k ≤ a
 ·rw [decide_eq_true h, decide_eq_false (by omega)]; rfl
 ·rw [decide_eq_false h, decide_eq_true (by omega)]; rfl
theorem gtN (a : Nat) (n : Int) (k : Nat) (e : n = (k : Int)) : decide ((a : Int) > n) = !decide (a ≤ k) := by
 rw [e]
 by_cases h : a ≤ k
 ·rw [decide_eq_true h, decide_eq_false (by omega)]; rfl
 ·rw [decide_eq_false h, decide_eq_true (by omega)]; rfl
theorem eqN (a : Nat) (n : Int) (k : Nat) (e : n = (k : Int)) : ((a : Int) == n) = (a == k) := by
 rw [e]
 by_cases h : a = k
 ·subst h; rw [beq_self_eq_true, beq_self_eq_true]
 ·rw [beq_eq_false_iff_ne.2 h, beq_eq_false_iff_ne.2 (by omega)]
theorem eqN' (a : Nat) (n : Int) (k : Nat) (e : n = (k : Int)) : ((a : Int) == n) = decide (a = k) := by
 rw [eqN a n k e]
 by_cases h : a = k
 ·subst h; rw [beq_self_eq_true, decide_eq_true rfl]
 ·rw [decide_eq_false h, beq_eq_false_iff_ne.2 h]
theorem ltI (a n : Int) : decide (a < n) = !decide (n ≤ a) := by
 by_cases h : n ≤ a
 ·rw [decide_eq_true h, decide_eq_false (by omega)]; rfl
 ·rw [decide_eq_false h, decide_eq_true (by omega)]; rfl
theorem gtI (a n : Int) : decide (a > n) = !decide (a ≤ n) := by
 by_cases h : a ≤ n
 ·rw [decide_eq_true h, decide_eq_false (by omega)]; rfl
 ·rw [decide_eq_false h, decide_eq_true (by omega)]; rfl
theorem geI (a n : Int) : decide (a ≥ n) = decide (n ≤ a) := rfl
theorem bneB (a b : Int) : (a != b) = !(a == b) := rfl
theorem lt_of_y {a b : Nat} {y : Bool} (e : y = decide ((a : Int) < (b : Int))) (h : y = true) : a < b := by
 rw [e] at h
 have := of_decide_eq_true h
 omega
theorem le_of_y {a b : Nat} {y : Bool} (e : y = decide ((a : Int) < (b : Int))) (h : y = false) : b ≤ a := by
 rw [e] at h
 have := of_decide_eq_false h
 omega
theorem bif_or {a b : Bool} (h : (bif a then true else b) = false) : a = false ∧ b = false := by
 cases a
 ·exact ⟨rfl, h⟩
 ·cases h
theorem portBeq (a b : PortD) : (a.1 == b.1 && (a.2 == b.2 && true)) = (a == b) := by
 rw [Bool.and_true]
 rfl
theorem allTo_iff {p : Nat → Bool} : ∀ {n : Nat}, allTo p n = true ↔ ∀ i, i < n → p i = true
 | 0 => ⟨fun _ i hi => by omega, fun _ => rfl⟩
 | n + 1 => by
  show (allTo p n && p n) = true ↔ _
  rw [Bool.and_eq_true, allTo_iff (n := n)]
  exact ⟨fun h i hi => by
   by_cases e : i = n
   ·rw [e]; exact h.2
   ·exact h.1 i (by omega), fun h => ⟨fun i hi => h i (by omega), h n (by omega)⟩⟩
theorem anyTo_none {p : Nat → Bool} : ∀ {n : Nat}, anyTo p n = false ↔ ∀ i, i < n → p i = false
 | 0 => ⟨fun _ i hi => by omega, fun _ => rfl⟩
 | n + 1 => by
  show (anyTo p n || p n) = false ↔ _
  rw [Bool.or_eq_false_iff, anyTo_none (n := n)]
  exact ⟨fun h i hi => by
   by_cases e : i = n
   ·rw [e]; exact h.2
   ·exact h.1 i (by omega), fun h => ⟨fun i hi => h i (by omega), h n (by omega)⟩⟩
theorem allTo_succ {p : Nat → Bool} {k : Nat} (h : allTo p k = true) (h1 : p k = true) : allTo p (k + 1) = true := by
 show (allTo p k && p k) = true
 rw [h, h1]; rfl
theorem anyTo_succ {p : Nat → Bool} {k : Nat} (h : anyTo p k = false) (h1 : p k = false) : anyTo p (k + 1) = false := by
 show (anyTo p k || p k) = false
 rw [h, h1]; rfl
theorem allTo_no {p : Nat → Bool} {n k : Nat} (hk : k < n) (h : p k = false) : allTo p n = false := by
 cases hc : allTo p n with
 | false => rfl
 | true => rw [allTo_iff.1 hc k hk] at h; cases h
theorem anyTo_yes {p : Nat → Bool} {n k : Nat} (hk : k < n) (h : p k = true) : anyTo p n = true := by
 cases hc : anyTo p n with
 | true => rfl
 | false => rw [anyTo_none.1 hc k hk] at h; cases h
theorem firstTo_at {p : Nat → Bool} {n k : Nat} (hk : k < n) (h0 : anyTo p k = false) (h : p k = true) : firstTo p n = some k := by
 unfold firstTo
 rw [List.find?_range_eq_some]
 refine ⟨h, by simpa using hk, fun j hj => ?_⟩
 rw [anyTo_none.1 h0 j hj]
 rfl
theorem firstTo_none {p : Nat → Bool} {n : Nat} (h0 : anyTo p n = false) : firstTo p n = none := by
 unfold firstTo
 rw [List.find?_eq_none]
 intro x hx
 rw [anyTo_none.1 h0 x (List.mem_range.1 hx)]
 simp
theorem firstTo_some {p : Nat → Bool} {n k : Nat} (h : firstTo p n = some k) : k < n ∧ p k = true := by
 unfold firstTo at h
 exact ⟨List.mem_range.1 (List.mem_of_find?_eq_some h), List.find?_some h⟩
theorem getD_at {α : Type} {xs : List α} {s : Nat} (d : α) (h : s < xs.length) : xs.getD s d = xs[s] := by simp [List.getD_eq_getElem?_getD, h]
theorem mem_getD {α : Type} {l : List α} {s : Nat} (d : α) (h : s < l.length) : l.getD s d ∈ l := by rw [getD_at d h]; exact List.getElem_mem h
theorem take_succ' {α : Type} {xs : List α} {s : Nat} (d : α) (h : s < xs.length) : xs.take (s + 1) = xs.take s ++ [xs.getD s d] := by
 rw [List.take_succ_eq_append_getElem h, getD_at d h]
theorem any_succ {α : Type} {p : α → Bool} {xs : List α} {s : Nat} (d : α) (h : s < xs.length) (h0 : (xs.take s).any p = false) (h1 : p (xs.getD s d) = false) : (xs.take (s + 1)).any p = false := by
 rw [take_succ' d h, List.any_append, h0]
 simp only [List.any_cons, List.any_nil, Bool.or_false, Bool.false_or]
 exact h1
theorem any_full {α : Type} {p : α → Bool} {l : List α} {s : Nat} (h : l.length ≤ s) (h0 : (l.take s).any p = false) : l.any p = false := by
 rw [List.take_of_length_le h] at h0
 exact h0
theorem any_yes {α : Type} {p : α → Bool} {l : List α} {s : Nat} (d : α) (h : s < l.length) (h1 : p (l.getD s d) = true) : l.any p = true :=
 List.any_eq_true.2 ⟨_, mem_getD d h, h1⟩
theorem all_succ {α : Type} {p : α → Bool} {l : List α} {s : Nat} (d : α) (h : s < l.length) (h0 : (l.take s).all p = true) (h1 : p (l.getD s d) = true) : (l.take (s + 1)).all p = true := by
 rw [take_succ' d h, List.all_append, h0]
 simpa using h1
theorem all_no {α : Type} {p : α → Bool} {l : List α} {s : Nat} (d : α) (h : s < l.length) (h1 : p (l.getD s d) = false) : l.all p = false := by
 cases hc : l.all p with
 | false => rfl
 | true =>
  have := List.all_eq_true.1 hc (l.getD s d) (mem_getD d h)
  rw [this] at h1
  cases h1
theorem all_full {α : Type} {p : α → Bool} {l : List α} {s : Nat} (h : l.length ≤ s) (h0 : (l.take s).all p = true) : l.all p = true := by
 rw [List.take_of_length_le h] at h0
 exact h0
theorem find_at {α : Type} {p : α → Bool} {xs : List α} {s : Nat} (d : α) (h : s < xs.length) (h0 : (xs.take s).any p = false) (h1 : p (xs.getD s d) = true) : xs.find? p = some (xs.getD s d) := by
 rw [getD_at d h] at h1 ⊢
 rw [List.find?_eq_some_iff_getElem]
 refine ⟨h1, s, h, rfl, fun j hj => ?_⟩
 have := List.any_eq_false.1 h0 xs[j] (by rw [List.mem_take_iff_getElem]; exact ⟨j, by omega, rfl⟩)
 simpa using this
theorem find_none {α : Type} {p : α → Bool} {xs : List α} {s : Nat} (h : xs.length ≤ s) (h0 : (xs.take s).any p = false) : xs.find? p = none := by
 rw [List.take_of_length_le h] at h0
 rw [List.find?_eq_none]
 intro x hx hp
 have := List.any_eq_false.1 h0 x hx
 exact this hp
theorem neq_of {α : Type} [BEq α] [LawfulBEq α] {xs ys : List α} {y : Bool} (e : y = ((xs.length : Int) != (ys.length : Int))) (h : y = true) : false = (xs == ys) := by
 rw [e] at h
 symm
 rw [beq_eq_false_iff_ne]
 rintro rfl
 simp at h
theorem eqlen_of {α : Type} {xs ys : List α} {y : Bool} (e : y = ((xs.length : Int) != (ys.length : Int))) (h : y = false) : xs.length = ys.length := by
 rw [e] at h
 have : (xs.length : Int) = ys.length := by simpa using h
 omega
theorem same_succ {α : Type} {xs ys : List α} {s : Nat} (d : α) (hl : xs.length = ys.length) (h : xs.take s = ys.take s) (hs : s < xs.length) (e : xs.getD s d = ys.getD s d) : xs.take (s + 1) = ys.take (s + 1) := by
 rw [take_succ' d hs, take_succ' d (hl ▸ hs), h, e]
theorem same_full {α : Type} [BEq α] [LawfulBEq α] {xs ys : List α} {s : Nat} (hl : xs.length = ys.length) (h : xs.take s = ys.take s) (hs : xs.length ≤ s) : true = (xs == ys) := by
 rw [List.take_of_length_le hs, List.take_of_length_le (hl ▸ hs)] at h
 simp [h]
theorem same_not {α : Type} [BEq α] [LawfulBEq α] {xs ys : List α} {s : Nat} (d : α) (e : xs.getD s d ≠ ys.getD s d) : false = (xs == ys) := by
 symm
 rw [beq_eq_false_iff_ne]
 rintro rfl
 exact e rfl
theorem flat_succ {α β : Type} (f : α → List β) {l : List α} {s : Nat} (d : α) (h : s < l.length) : (l.take (s + 1)).flatMap f = (l.take s).flatMap f ++ f (l.getD s d) := by
 rw [take_succ' d h, List.flatMap_append]
 simp
theorem map_succ {α β : Type} (f : α → β) {l : List α} {s : Nat} (d : α) (h : s < l.length) : (l.take (s + 1)).map f = (l.take s).map f ++ [f (l.getD s d)] := by
 rw [take_succ' d h, List.map_append]
 rfl
theorem take_all {α : Type} {l : List α} {s : Nat} {y : Bool} (e : y = decide ((s : Int) < (l.length : Int))) (h : y = false) : l.take s = l :=
 List.take_of_length_le (le_of_y e h)
def planWf (p : PlanD) : Prop := p.1.length ≤ maxLenI ∧ p.2.1.length ≤ maxLenI ∧ p.2.2.1.length ≤ maxLenI ∧ p.2.2.2.1.length ≤ maxLenI
theorem plan_wf {p : PlanD} (h : PlanT.wf p) : planWf p := ⟨h.1.1, h.2.1.1, h.2.2.1.1, h.2.2.2.1.1⟩
end YtpnnfimacblhgaaGreat
end Go.Proofs
end

section
set_option maxRecDepth 100000
set_option linter.unusedVariables false
set_option linter.unusedSimpArgs false
set_option maxHeartbeats 1000000
namespace Go.Proofs
open Go Go.Vc
namespace YtpnnfimacblhgaaGreat
theorem v41 (a : List Int) (b : List Int) : bodyVC (ctxOf tab []) Tryz.f41 c41 (a41 (a, b, ())) (a, b, ()) = (
lett ((↑a.length : Int) != (↑b.length : Int)) fun (y2 : Bool) =>
(y2 = true → false = (a == b) ∧ True) ∧
(y2 = false →
(∃ (s03 : Nat), (s03 ≤ a.length ∧ sameT a b s03) ∧ (↑s03 : Int) = (0 : Int) ∧ a = a ∧ b = b ∧ True) ∧
∀ (s3 : Nat),
lett (decide ((↑s3 : Int) < (↑a.length : Int))) fun (y4 : Bool) =>
lett (a.getD (↑s3 : Int).toNat (0 : Int) != b.getD (↑s3 : Int).toNat (0 : Int)) fun (y5 : Bool) =>
s3 ≤ a.length ∧ sameT a b s3 →
(y4 = true →
InB (↑s3 : Int) a.length ∧
InB (↑s3 : Int) b.length ∧
(y5 = true → false = (a == b) ∧ True) ∧
(y5 = false →
InR IntKind.i64 ((↑s3 : Int) + (1 : Int)) ∧
∃ (s'6 : Nat), (s'6 ≤ a.length ∧ sameT a b s'6) ∧ a.length - s'6 < a.length - s3 ∧ (↑s'6 : Int) = (↑s3 : Int) + (1 : Int) ∧ a = a ∧ b = b ∧ True)) ∧
(y4 = false → true = (a == b) ∧ True))) := by kernel_rfl
theorem b41 (a : List Int) (b : List Int) (hw : a.length ≤ maxLenI) : bodyVC (ctxOf tab []) Tryz.f41 c41 (a41 (a, b, ())) (a, b, ()) := by
 rw [v41]
 refine lett.mk fun y2 e2 => ?_
 simp only [true_and, and_true, Int.toNat_natCast]
 refine ⟨neq_of e2, fun h => ?_⟩
 have h := eqlen_of e2 h
 refine ⟨⟨0, ⟨by omega, h, rfl⟩, rfl⟩, fun s => lett.mk fun y4 e4 => lett.mk fun y5 e5 => ?_⟩
 rintro ⟨h1, h2, h3⟩
 refine ⟨fun hs => ?_, fun hs => ?_⟩
 ·have hs := lt_of_y e4 hs
  refine ⟨⟨by omega, by omega⟩, ⟨by omega, by omega⟩, fun e => ?_, fun e => ⟨inRlen hs hw, s + 1, ⟨by omega, h, ?_⟩, by omega, by omega⟩⟩
  ·exact same_not (s := s) 0 (by rw [e5] at e; simpa using e)
  ·exact same_succ 0 h h3 hs (by rw [e5] at e; simpa using e)
 ·exact same_full h h3 (le_of_y e4 hs)
theorem ok41 : DOk Tryz.prog 41 c41 :=
 DOk.of' (l := []) (A := a41) tabOk trivial Tryz.func41 (by kernel_rfl) (by kernel_rfl) fun x hw _ => b41 x.1 x.2.1 hw.1.1
theorem v64 (a : Int) (x : Int) (b : Int) (y : Int) : bodyVC (ctxOf tab []) Tryz.f64 c64 noAnn (a, x, b, y, ()) = (
lett ((a, x), b, y) fun (y4 : (Int × Int) × Int × Int) => y4 = y4 ∧ True) := by kernel_rfl
theorem ok64 : DOk Tryz.prog 64 c64 :=
 DOk.of' (l := []) (A := fun _ => noAnn) tabOk trivial Tryz.func64 (by kernel_rfl) (by kernel_rfl) fun x _ hp => by
  obtain ⟨a, x, b, y, ⟨⟩⟩ := x
  rw [v64]
  exact lett.mk fun y4 e4 => ⟨rfl, trivial⟩
theorem v118 (n : Int) (lo : Int) (hi : Int) : bodyVC (ctxOf tab []) Tryz.f118 c118 noAnn (n, lo, hi, ()) = (
(bif decide (n ≥ lo) then decide (n ≤ hi) else false) = fIn lo hi n ∧ True) := by kernel_rfl
theorem ok118 : DOk Tryz.prog 118 c118 :=
 DOk.of' (l := []) (A := fun _ => noAnn) tabOk trivial Tryz.func118 (by kernel_rfl) (by kernel_rfl) fun x _ hp => by
  obtain ⟨n, lo, hi, ⟨⟩⟩ := x
  rw [v118]
  refine ⟨?_, trivial⟩
  have key : ∀ a b : Bool, (bif a then b else false) = (a && b) := by decide
  exact key _ _
theorem v119 (s : List UInt8) : bodyVC (ctxOf tab []) Tryz.f119 c119 (a119 (s, ())) (s, ()) = (
(∃ (s01 : Nat), (s01 ≤ s.length ∧ allOf (fNameAt s) s01) ∧ (↑s01 : Int) = (0 : Int) ∧ s = s ∧ True) ∧
∀ (s1 : Nat),
lett (decide ((↑s1 : Int) < (↑s.length : Int))) fun (y2 : Bool) =>
lett
(bif
!bif bif decide ((↑(s.getD (↑s1 : Int).toNat (0 : UInt8)).toNat : Int) ≥ (97 : Int)) then decide ((↑(s.getD (↑s1 : Int).toNat (0 : UInt8)).toNat : Int) ≤ (122 : Int)) else false then true
else bif decide ((↑(s.getD (↑s1 : Int).toNat (0 : UInt8)).toNat : Int) ≥ (65 : Int)) then decide ((↑(s.getD (↑s1 : Int).toNat (0 : UInt8)).toNat : Int) ≤ (90 : Int)) else false then
bif bif (↑s1 : Int) == (0 : Int) then true else decide ((↑(s.getD (↑s1 : Int).toNat (0 : UInt8)).toNat : Int) < (48 : Int)) then true
else decide ((↑(s.getD (↑s1 : Int).toNat (0 : UInt8)).toNat : Int) > (57 : Int))
else false)
fun (y3 : Bool) =>
s1 ≤ s.length ∧ allOf (fNameAt s) s1 →
(y2 = true →
InB (↑s1 : Int) s.length ∧
(y3 = true → false = fName s ∧ True) ∧
(y3 = false →
InR IntKind.i64 ((↑s1 : Int) + (1 : Int)) ∧
∃ (s'4 : Nat), (s'4 ≤ s.length ∧ allOf (fNameAt s) s'4) ∧ s.length - s'4 < s.length - s1 ∧ (↑s'4 : Int) = (↑s1 : Int) + (1 : Int) ∧ s = s ∧ True)) ∧
(y2 = false → (bif decide ((↑s.length : Int) ≥ (1 : Int)) then decide ((↑s.length : Int) ≤ (8 : Int)) else false) = fName s ∧ True)) := by kernel_rfl
theorem b119 (s : Str) (hw : s.length ≤ maxLenI) : bodyVC (ctxOf tab []) Tryz.f119 c119 (a119 (s, ())) (s, ()) := by
 rw [v119]
 simp only [true_and, and_true, Int.toNat_natCast]
 refine ⟨⟨0, ⟨by omega, rfl⟩, rfl⟩, fun i => lett.mk fun y2 e2 => lett.mk fun y3 e3 => ?_⟩
 rintro ⟨h1, h2⟩
 have hc : fNameAt s i = !y3 := by
  rw [geN _ 97 97 rfl, leN _ 122 122 rfl, geN _ 65 65 rfl, leN _ 90 90 rfl, eqN _ 0 0 rfl, ltN _ 48 48 rfl, gtN _ 57 57 rfl] at e3
  rw [e3]
  unfold fNameAt fLetter fDigit
  have key : ∀ a b c d z e f : Bool, (((a && b) || (c && d)) || (!z && (e && f))) = !(bif !(bif (bif a then b else false) then true else (bif c then d else false)) then (bif (bif z then true else !e) then true else !f) else false) := by decide
  exact key _ _ _ _ _ _ _
 refine ⟨fun hs => ?_, fun hs => ?_⟩
 ·have hs := lt_of_y e2 hs
  refine ⟨⟨by omega, by omega⟩, fun e => ?_, fun e => ⟨inRlen hs hw, i + 1, ⟨by omega, ?_⟩, by omega, by omega⟩⟩
  ·unfold fName
   rw [allTo_no hs (by rw [hc, e]; rfl)]
   rfl
  ·exact allTo_succ h2 (by rw [hc, e]; rfl)
 ·have hs := le_of_y e2 hs
  have : i = s.length := by omega
  subst this
  have h2 : allTo (fNameAt s) s.length = true := h2
  unfold fName
  rw [h2, geN _ 1 1 rfl, leN _ 8 8 rfl]
  have key : ∀ a b : Bool, (bif a then b else false) = (true && (a && b)) := by decide
  exact key _ _
theorem ok119 : DOk Tryz.prog 119 c119 :=
 DOk.of' (l := []) (A := a119) tabOk trivial Tryz.func119 (by kernel_rfl) (by kernel_rfl) fun x hw _ => b119 x.1 hw.1
theorem v105 (k : Int) : bodyVC (ctxOf tab []) Tryz.f105 c105 noAnn (k, ()) = (
((k == (1 : Int)) = true → (2 : Int) = fEnds k ∧ True) ∧
((k == (1 : Int)) = false →
((k == (2 : Int)) = true → (3 : Int) = fEnds k ∧ True) ∧
((k == (2 : Int)) = false →
((k == (3 : Int)) = true → (4 : Int) = fEnds k ∧ True) ∧
((k == (3 : Int)) = false → ((k == (4 : Int)) = true → (1 : Int) = fEnds k ∧ True) ∧ ((k == (4 : Int)) = false → (0 : Int) = fEnds k ∧ True))))) := by kernel_rfl
theorem ok105 : DOk Tryz.prog 105 c105 :=
 DOk.of' (l := []) (A := fun _ => noAnn) tabOk trivial Tryz.func105 (by kernel_rfl) (by kernel_rfl) fun x _ hp => by
  obtain ⟨k, ⟨⟩⟩ := x
  rw [v105]
  unfold fEnds
  cases k == 1 <;> cases k == 2 <;> cases k == 3 <;> cases k == 4 <;> simp
theorem ends_range (k : Int) : 0 ≤ fEnds k ∧ fEnds k ≤ 4 := by
 unfold fEnds
 cases k == 1 <;> cases k == 2 <;> cases k == 3 <;> cases k == 4 <;> simp
theorem v106 (p : PlanD) (e : Int) : bodyVC (ctxOf tab []) Tryz.f106 c106 noAnn (p, e, ()) = (
lett (bif decide (e < (0 : Int)) then true else decide (e ≥ (↑p.1.length : Int))) fun (y2 : Bool) =>
(y2 = true → (0 : Int) = fKind p e ∧ True) ∧ (y2 = false → InB e p.1.length ∧ (p.1.getD e.toNat ([], (0 : Int), (0 : Int))).2.1 = fKind p e ∧ True)) := by kernel_rfl
theorem kind_bad {p : PlanD} {e : Int} (h : (decide (e < 0) || decide ((p.1.length : Int) ≤ e)) = true) : fKind p e = 0 := by
 unfold fKind
 rw [h]
 rfl
theorem kind_at {p : PlanD} {e : Int} (h0 : 0 ≤ e) (h1 : e < p.1.length) : fKind p e = (p.1.getD e.toNat zE).2.1 := by
 unfold fKind
 rw [decide_eq_false (by omega), decide_eq_false (by omega)]
 rfl
theorem ok106 : DOk Tryz.prog 106 c106 :=
 DOk.of' (l := []) (A := fun _ => noAnn) tabOk trivial Tryz.func106 (by kernel_rfl) (by kernel_rfl) fun x _ hp => by
  obtain ⟨p, e, ⟨⟩⟩ := x
  rw [v106]
  refine lett.mk fun y2 e2 => ⟨fun h => ⟨?_, trivial⟩, fun h => ?_⟩
  ·refine (kind_bad ?_).symm
   rw [← h, e2, geI]
   have key : ∀ a b : Bool, (a || b) = (bif a then true else b) := by decide
   exact key _ _
  ·rw [h] at e2
   obtain ⟨h1, h2⟩ := bif_or e2.symm
   have h1 := of_decide_eq_false h1
   have h2 := of_decide_eq_false h2
   exact ⟨⟨by omega, by omega⟩, (kind_at (by omega) (by omega)).symm, trivial⟩
theorem v125 (p : PlanD) (e : Int) : bodyVC (ctxOf tab [(106, c106)]) Tryz.f125 c125 noAnn (p, e, ()) = (
True ∧ fKind p e = fKind p e ∧ True) := by kernel_rfl
theorem ok125 : DOk Tryz.prog 125 c125 :=
 DOk.of' (l := [(106, c106)]) (A := fun _ => noAnn) tabOk ⟨ok106, trivial⟩ Tryz.func125 (by kernel_rfl) (by kernel_rfl) fun x _ hp => by
  obtain ⟨p, e, ⟨⟩⟩ := x
  rw [v125]
  exact ⟨trivial, rfl, trivial⟩
theorem v122 (p : PlanD) (e : Int) : bodyVC (ctxOf tab []) Tryz.f122 c122 noAnn (p, e, ()) = (
lett (bif decide (e < (0 : Int)) then true else decide (e ≥ (↑p.1.length : Int))) fun (y2 : Bool) =>
(y2 = true → (0 : Int) = fLength p e ∧ True) ∧ (y2 = false → InB e p.1.length ∧ (p.1.getD e.toNat ([], (0 : Int), (0 : Int))).2.2 = fLength p e ∧ True)) := by kernel_rfl
theorem ok122 : DOk Tryz.prog 122 c122 :=
 DOk.of' (l := []) (A := fun _ => noAnn) tabOk trivial Tryz.func122 (by kernel_rfl) (by kernel_rfl) fun x _ hp => by
  obtain ⟨p, e, ⟨⟩⟩ := x
  rw [v122]
  refine lett.mk fun y2 e2 => ⟨fun h => ⟨?_, trivial⟩, fun h => ?_⟩
  ·unfold fLength
   have : (decide (e < 0) || decide ((p.1.length : Int) ≤ e)) = true := by
    rw [← h, e2, geI]
    have key : ∀ a b : Bool, (a || b) = (bif a then true else b) := by decide
    exact key _ _
   rw [this]
   rfl
  ·rw [h] at e2
   obtain ⟨h1, h2⟩ := bif_or e2.symm
   have h1' := of_decide_eq_false h1
   have h2' := of_decide_eq_false h2
   refine ⟨⟨by omega, by omega⟩, ?_, trivial⟩
   unfold fLength
   rw [decide_eq_false (by omega), decide_eq_false (by omega)]
   rfl
theorem v123 (p : PlanD) (s : Int) : bodyVC (ctxOf tab []) Tryz.f123 c123 noAnn (p, s, ()) = (
lett (bif decide (s < (0 : Int)) then true else decide (s ≥ (↑p.2.2.1.length : Int))) fun (y2 : Bool) =>
(y2 = true → ((0 : Int), (0 : Int)) = (fAt p s).1 ∧ false = (fAt p s).2 ∧ True) ∧
(y2 = false → InB s p.2.2.1.length ∧ (p.2.2.1.getD s.toNat ([], ((0 : Int), (0 : Int)), false)).2.1 = (fAt p s).1 ∧ true = (fAt p s).2 ∧ True)) := by kernel_rfl
theorem ok123 : DOk Tryz.prog 123 c123 :=
 DOk.of' (l := []) (A := fun _ => noAnn) tabOk trivial Tryz.func123 (by kernel_rfl) (by kernel_rfl) fun x _ hp => by
  obtain ⟨p, e, ⟨⟩⟩ := x
  rw [v123]
  refine lett.mk fun y2 e2 => ⟨fun h => ?_, fun h => ?_⟩
  ·have : (decide (e < 0) || decide ((p.2.2.1.length : Int) ≤ e)) = true := by
    rw [← h, e2, geI]
    have key : ∀ a b : Bool, (a || b) = (bif a then true else b) := by decide
    exact key _ _
   unfold fAt
   rw [this]
   exact ⟨rfl, rfl, trivial⟩
  ·rw [h] at e2
   obtain ⟨h1, h2⟩ := bif_or e2.symm
   have h1' := of_decide_eq_false h1
   have h2' := of_decide_eq_false h2
   refine ⟨⟨by omega, by omega⟩, ?_⟩
   unfold fAt
   rw [decide_eq_false (by omega), decide_eq_false (by omega)]
   exact ⟨rfl, rfl, trivial⟩
theorem v56 (p : PlanD) (x : Int × Int) : bodyVC (ctxOf tab [(105, c105)]) Tryz.f56 c56 noAnn (p, x, ()) = (
lett (bif bif decide (x.1 ≥ (0 : Int)) then decide (x.1 < (↑p.1.length : Int)) else false then decide (x.2 ≥ (0 : Int)) else false) fun (y2 : Bool) =>
lett (fEnds (p.1.getD x.1.toNat ([], (0 : Int), (0 : Int))).2.1) fun (y3 : Int) =>
(y2 = true → InB x.1 p.1.length) ∧ (y2 = true → True) ∧ (bif y2 then decide (x.2 < y3) else false) = fHas p x ∧ True) := by kernel_rfl
theorem ok56 : DOk Tryz.prog 56 c56 :=
 DOk.of' (l := [(105, c105)]) (A := fun _ => noAnn) tabOk ⟨ok105, trivial⟩ Tryz.func56 (by kernel_rfl) (by kernel_rfl) fun x _ hp => by
  obtain ⟨p, x, ⟨⟩⟩ := x
  rw [v56]
  refine lett.mk fun y2 e2 => lett.mk fun y3 e3 => ?_
  rw [geI, geI] at e2
  cases h0 : decide (0 ≤ x.1) with
  | false =>
   rw [h0] at e2
   refine ⟨(fun h => by rw [e2] at h; cases h), fun _ => trivial, ?_, trivial⟩
   rw [e2]
   unfold fHas
   rw [h0]
   rfl
  | true =>
   cases h1 : decide (x.1 < (p.1.length : Int)) with
   | false =>
    rw [h0, h1] at e2
    refine ⟨(fun h => by rw [e2] at h; cases h), fun _ => trivial, ?_, trivial⟩
    rw [e2]
    unfold fHas
    rw [h0, h1]
    rfl
   | true =>
    have h0' := of_decide_eq_true h0
    have h1' := of_decide_eq_true h1
    refine ⟨fun h => ⟨h0', h1'⟩, fun _ => trivial, ?_, trivial⟩
    have e3 : y3 = fEnds (fKind p x.1) := by rw [e3, kind_at h0' h1']; rfl
    rw [e2, h0, h1, e3]
    unfold fHas
    rw [h0, h1]
    have key : ∀ a b : Bool, (bif (bif (bif true then true else false) then a else false) then b else false) = (true && (true && (a && b))) := by decide
    exact key _ _
theorem has_facts {p : PlanD} {x : PortD} (h : fHas p x = true) : (0 ≤ x.1 ∧ x.1 < p.1.length) ∧ 0 ≤ x.2 ∧ x.2 < fEnds (fKind p x.1) := by
 unfold fHas at h
 simp only [Bool.and_eq_true] at h
 exact ⟨⟨of_decide_eq_true h.1, of_decide_eq_true h.2.1⟩, of_decide_eq_true h.2.2.1, of_decide_eq_true h.2.2.2⟩
theorem has_end {p : PlanD} {x : PortD} (h : fHas p x = true) : 0 ≤ x.2 ∧ x.2 ≤ 3 := by
 have h1 := (has_facts h).2
 have h2 := ends_range (fKind p x.1)
 omega
theorem v107 (p : PlanD) (x : Int × Int) : bodyVC (ctxOf tab []) Tryz.f107 c107 (a107 (p, x, ())) (p, x, ()) = (
lett (((0 : Int), (0 : Int)), (0 : Int), (0 : Int)) fun (y2 : (Int × Int) × Int × Int) =>
(∃ (s03 : Nat),
(s03 ≤ p.2.1.length ∧ noneT (joinOf x) p.2.1 s03) ∧
(↑s03 : Int) = (0 : Int) ∧
keepP p (x.1 = x.1 ∧ x.2 = x.2 ∧ (0 : Int) = (0 : Int) ∧ (0 : Int) = (0 : Int) ∧ True)) ∧
∀ (s3 : Nat),
lett (decide ((↑s3 : Int) < (↑p.2.1.length : Int))) fun (y4 : Bool) =>
lett (p.2.1.getD (↑s3 : Int).toNat y2) fun (y5 : (Int × Int) × Int × Int) =>
lett (y5.1.1 == x.1 && (y5.1.2 == x.2 && true)) fun (y6 : Bool) =>
lett (y5.2.1 == x.1 && (y5.2.2 == x.2 && true)) fun (y7 : Bool) =>
s3 ≤ p.2.1.length ∧ noneT (joinOf x) p.2.1 s3 →
(y4 = true →
InB (↑s3 : Int) p.2.1.length ∧
(y6 = true → InB (↑s3 : Int) p.2.1.length ∧ y5.2 = (fNext p x).1 ∧ true = (fNext p x).2 ∧ True) ∧
(y6 = false →
InB (↑s3 : Int) p.2.1.length ∧
(y7 = true → InB (↑s3 : Int) p.2.1.length ∧ y5.1 = (fNext p x).1 ∧ true = (fNext p x).2 ∧ True) ∧
(y7 = false →
InR IntKind.i64 ((↑s3 : Int) + (1 : Int)) ∧
∃ (s'8 : Nat),
(s'8 ≤ p.2.1.length ∧ noneT (joinOf x) p.2.1 s'8) ∧
p.2.1.length - s'8 < p.2.1.length - s3 ∧
(↑s'8 : Int) = (↑s3 : Int) + (1 : Int) ∧
keepP p (x.1 = x.1 ∧ x.2 = x.2 ∧ (0 : Int) = (0 : Int) ∧ (0 : Int) = (0 : Int) ∧ True)))) ∧
(y4 = false → ((0 : Int), (0 : Int)) = (fNext p x).1 ∧ false = (fNext p x).2 ∧ True)) := by kernel_rfl
theorem b107 (p : PlanD) (x : PortD) (hw : planWf p) : bodyVC (ctxOf tab []) Tryz.f107 c107 (a107 (p, x, ())) (p, x, ()) := by
 rw [v107]
 refine lett.mk fun y2 e2 => ?_
 simp only [keepP_eq, true_and, and_true, Int.toNat_natCast]
 refine ⟨⟨0, ⟨by omega, rfl⟩, rfl⟩, fun s => lett.mk fun y4 e4 => lett.mk fun y5 e5 => lett.mk fun y6 e6 => lett.mk fun y7 e7 => ?_⟩
 rintro ⟨h1, h2⟩
 have h2 : (p.2.1.take s).any (joinOf x) = false := h2
 have e6 : y6 = (y5.1 == x) := by rw [e6]; exact portBeq _ _
 have e7 : y7 = (y5.2 == x) := by rw [e7]; exact portBeq _ _
 have hj : joinOf x y5 = (y6 || y7) := by rw [e6, e7]; rfl
 refine ⟨fun hs => ?_, fun hs => ?_⟩
 ·have hs := lt_of_y e4 hs
  have hin : InB (s : Int) p.2.1.length := ⟨by omega, by omega⟩
  have hf : joinOf x y5 = true → fNext p x = (bif y5.1 == x then y5.2 else y5.1, true) := fun h => by
   have hf : p.2.1.find? (joinOf x) = some y5 := by
    rw [e5] at h ⊢
    exact find_at y2 hs h2 h
   unfold fNext
   exact congrArg (fun o => nextOf o x) hf
  refine ⟨hin, fun h6 => ⟨hin, ?_⟩, fun h6 => ⟨hin, fun h7 => ⟨hin, ?_⟩, fun h7 => ⟨inRlen hs hw.2.1, s + 1, ⟨by omega, ?_⟩, by omega, by omega⟩⟩⟩
  ·rw [hf (by rw [hj, h6]; rfl), ← e6, h6]
   exact ⟨rfl, rfl⟩
  ·rw [hf (by rw [hj, h6, h7]; rfl), ← e6, h6]
   exact ⟨rfl, rfl⟩
  ·exact any_succ y2 hs h2 (by rw [← e5, hj, h6, h7]; rfl)
 ·have hf : p.2.1.find? (joinOf x) = none := find_none (le_of_y e4 hs) h2
  have : fNext p x = ((0, 0), false) := by
   unfold fNext
   exact congrArg (fun o => nextOf o x) hf
  rw [this]
  exact ⟨rfl, rfl⟩
theorem ok107 : DOk Tryz.prog 107 c107 :=
 DOk.of' (l := []) (A := a107) tabOk trivial Tryz.func107 (by kernel_rfl) (by kernel_rfl) fun x hw _ => b107 x.1 x.2.1 (plan_wf hw.1)
theorem next_mem {p : PlanD} {x : PortD} (h : (fNext p x).2 = true) : (fNext p x).1 ∈ joinEnds p := by
 unfold fNext at h ⊢
 cases hf : p.2.1.find? (fun j => j.1 == x || j.2 == x) with
 | none => rw [hf] at h; cases h
 | some j =>
  have hm := List.mem_of_find?_eq_some hf
  unfold joinEnds
  rw [List.mem_flatMap]
  refine ⟨j, hm, ?_⟩
  show (bif j.1 == x then j.2 else j.1) ∈ [j.1, j.2]
  cases j.1 == x <;> simp
theorem v120 (p : PlanD) (x : Int × Int) : bodyVC (ctxOf tab []) Tryz.f120 c120 (a120 (p, x, ())) (p, x, ()) = (
(∃ (s02 : Nat),
(s02 ≤ p.2.2.1.length ∧ noneOf (readOf p x) s02) ∧
(↑s02 : Int) = (0 : Int) ∧
keepP p (x.1 = x.1 ∧ x.2 = x.2 ∧ True)) ∧
∀ (s2 : Nat),
lett (decide ((↑s2 : Int) < (↑p.2.2.1.length : Int))) fun (y3 : Bool) =>
lett (p.2.2.1.getD (↑s2 : Int).toNat ([], ((0 : Int), (0 : Int)), false)).2.1 fun (y4 : Int × Int) =>
lett (y4.1 == x.1 && (y4.2 == x.2 && true)) fun (y5 : Bool) =>
s2 ≤ p.2.2.1.length ∧ noneOf (readOf p x) s2 →
(y3 = true →
InB (↑s2 : Int) p.2.2.1.length ∧
(y5 = true → (↑s2 : Int) = fReads p x ∧ True) ∧
(y5 = false →
InR IntKind.i64 ((↑s2 : Int) + (1 : Int)) ∧
∃ (s'6 : Nat),
(s'6 ≤ p.2.2.1.length ∧ noneOf (readOf p x) s'6) ∧
p.2.2.1.length - s'6 < p.2.2.1.length - s2 ∧
(↑s'6 : Int) = (↑s2 : Int) + (1 : Int) ∧
keepP p (x.1 = x.1 ∧ x.2 = x.2 ∧ True))) ∧
(y3 = false → (-1 : Int) = fReads p x ∧ True)) := by kernel_rfl
theorem b120 (p : PlanD) (x : PortD) (hw : planWf p) : bodyVC (ctxOf tab []) Tryz.f120 c120 (a120 (p, x, ())) (p, x, ()) := by
 rw [v120]
 simp only [keepP_eq, true_and, and_true, Int.toNat_natCast]
 refine ⟨⟨0, ⟨by omega, rfl⟩, rfl⟩, fun s => lett.mk fun y3 e3 => lett.mk fun y4 e4 => lett.mk fun y5 e5 => ?_⟩
 rintro ⟨h1, h2⟩
 have h2 : anyTo (readOf p x) s = false := h2
 have e5 : readOf p x s = y5 := by rw [e5, portBeq, e4]; rfl
 refine ⟨fun hs => ?_, fun hs => ?_⟩
 ·have hs := lt_of_y e3 hs
  refine ⟨⟨by omega, by omega⟩, fun h => ?_, fun h => ⟨inRlen hs hw.2.2.1, s + 1, ⟨by omega, ?_⟩, by omega, by omega⟩⟩
  ·unfold fReads
   exact (congrArg idxOr (firstTo_at (p := readOf p x) hs h2 (by rw [e5, h]))).symm
  ·exact anyTo_succ h2 (by rw [e5, h])
 ·have hs := le_of_y e3 hs
  have : s = p.2.2.1.length := by omega
  subst this
  unfold fReads
  exact (congrArg idxOr (firstTo_none (p := readOf p x) h2)).symm
theorem ok120 : DOk Tryz.prog 120 c120 :=
 DOk.of' (l := []) (A := a120) tabOk trivial Tryz.func120 (by kernel_rfl) (by kernel_rfl) fun x hw _ => b120 x.1 x.2.1 (plan_wf hw.1)
theorem v16 (l : List Int) (n : Int) : bodyVC (ctxOf tab []) Tryz.f16 c16 (a16 (l, n, ())) (l, n, ()) = (
(∃ (s02 : Nat), (s02 ≤ l.length ∧ noneT (fun (y : Int) => y == n) l s02) ∧ (↑s02 : Int) = (0 : Int) ∧ l = l ∧ n = n ∧ True) ∧
∀ (s2 : Nat),
lett (decide ((↑s2 : Int) < (↑l.length : Int))) fun (y3 : Bool) =>
lett (l.getD (↑s2 : Int).toNat (0 : Int) == n) fun (y4 : Bool) =>
s2 ≤ l.length ∧ noneT (fun (y : Int) => y == n) l s2 →
(y3 = true →
InB (↑s2 : Int) l.length ∧
(y4 = true → true = fMem l n ∧ True) ∧
(y4 = false →
InR IntKind.i64 ((↑s2 : Int) + (1 : Int)) ∧
∃ (s'5 : Nat), (s'5 ≤ l.length ∧ noneT (fun (y : Int) => y == n) l s'5) ∧ l.length - s'5 < l.length - s2 ∧ (↑s'5 : Int) = (↑s2 : Int) + (1 : Int) ∧ l = l ∧ n = n ∧ True)) ∧
(y3 = false → false = fMem l n ∧ True)) := by kernel_rfl
theorem b16 (l : List Int) (n : Int) (hw : l.length ≤ maxLenI) : bodyVC (ctxOf tab []) Tryz.f16 c16 (a16 (l, n, ())) (l, n, ()) := by
 rw [v16]
 simp only [true_and, and_true, Int.toNat_natCast]
 refine ⟨⟨0, ⟨by omega, rfl⟩, rfl⟩, fun s => lett.mk fun y3 e3 => lett.mk fun y4 e4 => ?_⟩
 rintro ⟨h1, h2⟩
 have h2 : (l.take s).any (fun y => y == n) = false := h2
 refine ⟨fun hs => ?_, fun hs => ?_⟩
 ·have hs := lt_of_y e3 hs
  refine ⟨⟨by omega, by omega⟩, fun h => ?_, fun h => ⟨inRlen hs hw, s + 1, ⟨by omega, ?_⟩, by omega, by omega⟩⟩
  ·unfold fMem
   exact (any_yes (p := fun y => y == n) 0 hs (by rw [← h, e4])).symm
  ·exact any_succ (p := fun y => y == n) 0 hs h2 (by rw [← h, e4])
 ·unfold fMem
  exact (any_full (le_of_y e3 hs) h2).symm
theorem ok16 : DOk Tryz.prog 16 c16 :=
 DOk.of' (l := []) (A := a16) tabOk trivial Tryz.func16 (by kernel_rfl) (by kernel_rfl) fun x hw _ => b16 x.1 x.2.1 hw.1.1
theorem v121 (v : Int) (b : Int) : bodyVC (ctxOf tab []) Tryz.f121 c121 (a121 (v, b, ())) (v, b, ()) = (
lett (bif bif bif decide (v < (0 : Int)) then true else decide (v > (60 : Int)) then true else decide (b < (1 : Int)) then true else decide (b > (10 : Int))) fun (y2 : Bool) =>
(y2 = true → (0 : Int) = fStop v b ∧ True) ∧
(y2 = false →
InR IntKind.i64 (v - b) ∧
(∃ (s03 : Nat), (s03 ≤ (60 : Nat) ∧ noneOf (stopDone v b) s03) ∧ v - b * ((↑s03 : Int) + (1 : Int)) = v - b ∧ stopUp v b s03 = (0 : Int) ∧ b = b ∧ True) ∧
∀ (s3 : Nat),
lett (v - b * ((↑s3 : Int) + (1 : Int))) fun (y4 : Int) =>
lett (stopUp v b s3 + y4) fun (y5 : Int) =>
s3 ≤ (60 : Nat) ∧ noneOf (stopDone v b) s3 →
(decide (y4 > (0 : Int)) = true →
InR IntKind.i64 y5 ∧
InR IntKind.i64 (y4 - b) ∧
∃ (s'6 : Nat),
(s'6 ≤ (60 : Nat) ∧ noneOf (stopDone v b) s'6) ∧ (60 : Nat) - s'6 < (60 : Nat) - s3 ∧ v - b * ((↑s'6 : Int) + (1 : Int)) = y4 - b ∧ stopUp v b s'6 = y5 ∧ b = b ∧ True) ∧
(decide (y4 > (0 : Int)) = false → stopUp v b s3 = fStop v b ∧ True))) := by kernel_rfl
theorem stop_small {v b : Int} (hb : 1 ≤ b) (k : Nat) : b * ((k : Int) + 1) ≥ (k : Int) + 1 := by
 have := Int.mul_le_mul_of_nonneg_right hb (show (0 : Int) ≤ (k : Int) + 1 by omega)
 rw [Int.one_mul] at this
 exact this
theorem stop_range {v b : Int} (hv : 0 ≤ v ∧ v ≤ 60) (hb : 1 ≤ b) : ∀ k, anyTo (stopDone v b) k = false → 0 ≤ stopUp v b k ∧ stopUp v b k ≤ 60 * (k : Int)
 | 0, _ => by show (0 : Int) ≤ 0 ∧ (0 : Int) ≤ 60 * ((0 : Nat) : Int); omega
 | k + 1, h => by
  have h' : (anyTo (stopDone v b) k || stopDone v b k) = false := h
  rw [Bool.or_eq_false_iff] at h'
  obtain ⟨i1, i2⟩ := stop_range hv hb k h'.1
  have h2 := of_decide_eq_false h'.2
  have h3 := stop_small (v := v) hb k
  show 0 ≤ stopUp v b k + (v - b * ((k : Int) + 1)) ∧ stopUp v b k + (v - b * ((k : Int) + 1)) ≤ 60 * ((k + 1 : Nat) : Int)
  generalize b * ((k : Int) + 1) = q at *
  omega
theorem b121 (v : Int) (b : Int) : bodyVC (ctxOf tab []) Tryz.f121 c121 (a121 (v, b, ())) (v, b, ()) := by
 rw [v121]
 refine lett.mk fun y2 e2 => ?_
 simp only [true_and, and_true, Int.toNat_natCast]
 have e2 : y2 = !(fIn 0 60 v && fIn 1 10 b) := by
  rw [e2, ltI, gtI, ltI, gtI]
  unfold fIn
  have key : ∀ a b c d : Bool, (bif (bif (bif !a then true else !b) then true else !c) then true else !d) = !((a && b) && (c && d)) := by decide
  exact key _ _ _ _
 refine ⟨fun h => ?_, fun h => ?_⟩
 ·rw [e2] at h
  simp only [Bool.not_eq_true'] at h
  unfold fStop
  rw [h]
  rfl
 rw [e2] at h
 simp only [Bool.not_eq_false'] at h
 have hS : fStop v b = stopUp v b (stopAt v b) := by
  unfold fStop
  rw [h]
  rfl
 rw [Bool.and_eq_true] at h
 unfold fIn at h
 rw [Bool.and_eq_true, Bool.and_eq_true] at h
 obtain ⟨⟨h1, h2⟩, h3, h4⟩ := h
 have h1 := of_decide_eq_true h1
 have h2 := of_decide_eq_true h2
 have h3 := of_decide_eq_true h3
 have h4 := of_decide_eq_true h4
 refine ⟨inR64 (by omega) (by omega), ⟨0, ⟨by omega, rfl⟩, by simp, rfl⟩, fun s => lett.mk fun y4 e4 => lett.mk fun y5 e5 => ?_⟩
 rintro ⟨g1, g2⟩
 have g2 : anyTo (stopDone v b) s = false := g2
 have hr := stop_range ⟨h1, h2⟩ h3 s g2
 have hq := stop_small (v := v) h3 s
 refine ⟨fun h => ?_, fun h => ?_⟩
 ·have h := of_decide_eq_true h
  refine ⟨inR64 (by omega) (by omega), inR64 (by omega) (by omega), s + 1, ⟨by omega, ?_⟩, by omega, ?_, ?_⟩
  ·exact anyTo_succ g2 (decide_eq_false (by omega))
  ·have : ((s + 1 : Nat) : Int) = (s : Int) + 1 := by omega
   rw [this, e4, Int.mul_add b ((s : Int) + 1) 1, Int.mul_one]
   omega
  ·rw [e5, e4]
   rfl
 ·have h := of_decide_eq_false h
  have : stopAt v b = s := by
   unfold stopAt
   have := firstTo_at (p := stopDone v b) (n := 100) (k := s) (by omega) g2 (decide_eq_true (by omega))
   exact congrArg (fun o => Option.getD o 0) this
  rw [hS, this]
theorem ok121 : DOk Tryz.prog 121 c121 :=
 DOk.of' (l := []) (A := a121) tabOk trivial Tryz.func121 (by kernel_rfl) (by kernel_rfl) fun x hw _ => b121 x.1 x.2.1
theorem fStop_range (v b : Int) : 0 ≤ fStop v b ∧ fStop v b ≤ 10000 := by
 unfold fStop
 cases h : (fIn 0 60 v && fIn 1 10 b) with
 | false => exact ⟨Int.le_refl 0, show (0 : Int) ≤ 10000 by decide⟩
 | true =>
  rw [Bool.and_eq_true] at h
  unfold fIn at h
  rw [Bool.and_eq_true, Bool.and_eq_true] at h
  obtain ⟨⟨h1, h2⟩, h3, h4⟩ := h
  have h1 := of_decide_eq_true h1
  have h2 := of_decide_eq_true h2
  have h3 := of_decide_eq_true h3
  show 0 ≤ stopUp v b (stopAt v b) ∧ stopUp v b (stopAt v b) ≤ 10000
  have hk : stopAt v b ≤ 99 ∧ anyTo (stopDone v b) (stopAt v b) = false := by
   unfold stopAt
   cases hf : firstTo (fun k => decide (v - b * ((k : Int) + 1) ≤ 0)) 100 with
   | none => exact ⟨by decide, rfl⟩
   | some k =>
    have h5 := (firstTo_some hf).1
    refine ⟨by show k ≤ 99; omega, ?_⟩
    show anyTo (stopDone v b) k = false
    rw [anyTo_none]
    intro i hi
    unfold firstTo at hf
    rw [List.find?_range_eq_some] at hf
    have := hf.2.2 i hi
    simp only [Bool.not_eq_true'] at this
    exact this
  have := stop_range ⟨h1, h2⟩ h3 _ hk.2
  omega
theorem v147 (p : PlanD) (e : Int) (i : Int) : bodyVC (ctxOf tab [(56, c56), (106, c106)]) Tryz.f147 c147 noAnn (p, e, i, ()) = (
lett (!fHas p (e, i)) fun (y3 : Bool) =>
True ∧
(y3 = true → [] = fOuts p e i ∧ True) ∧
(y3 = false →
True ∧
((fKind p e == (1 : Int)) = true → InR IntKind.i64 ((1 : Int) - i) ∧ (List.replicate (1 : Nat) ((0 : Int), (0 : Int))).set (0 : Nat) ((1 : Int) - i, (0 : Int)) = fOuts p e i ∧ True) ∧
((fKind p e == (1 : Int)) = false →
((fKind p e == (3 : Int)) = true → (List.replicate (1 : Nat) ((0 : Int), (0 : Int))).set (0 : Nat) (bitsOf BinOp.xor IntKind.i64 i (1 : Int), (0 : Int)) = fOuts p e i ∧ True) ∧
((fKind p e == (3 : Int)) = false →
((fKind p e == (2 : Int)) = true →
((i == (0 : Int)) = true → ((List.replicate (2 : Nat) ((0 : Int), (0 : Int))).set (0 : Nat) ((1 : Int), (1 : Int))).set (1 : Nat) ((2 : Int), (2 : Int)) = fOuts p e i ∧ True) ∧
((i == (0 : Int)) = false → (List.replicate (1 : Nat) ((0 : Int), (0 : Int))).set (0 : Nat) ((0 : Int), i) = fOuts p e i ∧ True)) ∧
((fKind p e == (2 : Int)) = false → [] = fOuts p e i ∧ True))))) := by kernel_rfl
theorem xor_cross {i : Int} (he : 0 ≤ i ∧ i ≤ 3) : bitsOf BinOp.xor IntKind.i64 i 1 = fCross i := by
 have hc : i = 0 ∨ i = 1 ∨ i = 2 ∨ i = 3 := by omega
 rcases hc with rfl | rfl | rfl | rfl <;> decide
theorem ok147 : DOk Tryz.prog 147 c147 :=
 DOk.of' (l := [(56, c56), (106, c106)]) (A := fun _ => noAnn) tabOk ⟨ok56, ok106, trivial⟩ Tryz.func147 (by kernel_rfl) (by kernel_rfl) fun x _ hp => by
  obtain ⟨p, e, i, ⟨⟩⟩ := x
  rw [v147]
  refine lett.mk fun y3 e3 => ⟨trivial, fun h => ⟨?_, trivial⟩, fun h => ?_⟩
  ·unfold fOuts
   rw [← e3, h]
   rfl
  rw [e3] at h
  have hh : fHas p (e, i) = true := by simpa using h
  have he := has_end hh
  have he : 0 ≤ i ∧ i ≤ 3 := he
  refine ⟨trivial, fun h1 => ⟨inR64 (by omega) (by omega), ?_, trivial⟩, fun h1 => ⟨fun h3 => ⟨?_, trivial⟩, fun h3 => ⟨fun h2 => ⟨fun h0 => ⟨?_, trivial⟩, fun h0 => ⟨?_, trivial⟩⟩, fun h2 => ⟨?_, trivial⟩⟩⟩⟩
  ·unfold fOuts
   rw [h, h1]
   rfl
  ·unfold fOuts
   rw [h, h1, h3]
   rw [xor_cross he]
   rfl
  ·unfold fOuts
   rw [h, h1, h3, h2, h0]
   rfl
  ·unfold fOuts
   rw [h, h1, h3, h2, h0]
   rfl
  ·unfold fOuts
   rw [h, h1, h3, h2]
   rfl
theorem outs_len (p : PlanD) (e i : Int) : (fOuts p e i).length ≤ 2 := by
 unfold fOuts
 cases !fHas p (e, i) <;> cases fKind p e == 1 <;> cases fKind p e == 3 <;> cases fKind p e == 2 <;> cases i == 0 <;> simp
theorem v158 (p : PlanD) (e : Int) (i : Int) (pos : Int) : bodyVC (ctxOf tab [(147, c147)]) Tryz.f158 c158 (a158 (p, e, i, pos, ())) (p, e, i, pos, ()) = (
lett (fThrough p e i pos).1 fun (y4 : Int) =>
lett (fThrough p e i pos).2 fun (y5 : Bool) =>
True ∧
(∃ (s06 : Nat), (s06 ≤ (fOuts p e i).length ∧ noneT (wayFits pos) (fOuts p e i) s06) ∧ (↑s06 : Int) = (0 : Int) ∧ pos = pos ∧ fOuts p e i = fOuts p e i ∧ True) ∧
∀ (s6 : Nat),
lett (decide ((↑s6 : Int) < (↑(fOuts p e i).length : Int))) fun (y7 : Bool) =>
lett ((fOuts p e i).getD (↑s6 : Int).toNat ((0 : Int), (0 : Int))) fun (y8 : Int × Int) =>
lett (bif y8.2 == (0 : Int) then true else y8.2 == pos) fun (y9 : Bool) =>
s6 ≤ (fOuts p e i).length ∧ noneT (wayFits pos) (fOuts p e i) s6 →
(y7 = true →
InB (↑s6 : Int) (fOuts p e i).length ∧
((y8.2 == (0 : Int)) = false → InB (↑s6 : Int) (fOuts p e i).length) ∧
(y9 = true → InB (↑s6 : Int) (fOuts p e i).length ∧ y8.1 = y4 ∧ true = y5 ∧ True) ∧
(y9 = false →
InR IntKind.i64 ((↑s6 : Int) + (1 : Int)) ∧
∃ (s'10 : Nat),
(s'10 ≤ (fOuts p e i).length ∧ noneT (wayFits pos) (fOuts p e i) s'10) ∧
(fOuts p e i).length - s'10 < (fOuts p e i).length - s6 ∧ (↑s'10 : Int) = (↑s6 : Int) + (1 : Int) ∧ pos = pos ∧ fOuts p e i = fOuts p e i ∧ True)) ∧
(y7 = false → (0 : Int) = y4 ∧ false = y5 ∧ True)) := by kernel_rfl
theorem b158 (p : PlanD) (e : Int) (i : Int) (pos : Int) : bodyVC (ctxOf tab [(147, c147)]) Tryz.f158 c158 (a158 (p, e, i, pos, ())) (p, e, i, pos, ()) := by
 have hl := outs_len p e i
 rw [v158]
 refine lett.mk fun y4 e4 => lett.mk fun y5 e5 => ?_
 simp only [true_and, and_true, Int.toNat_natCast]
 refine ⟨⟨0, ⟨by omega, rfl⟩, rfl⟩, fun s => lett.mk fun y7 e7 => lett.mk fun y8 e8 => lett.mk fun y9 e9 => ?_⟩
 rintro ⟨h1, h2⟩
 have h2 : ((fOuts p e i).take s).any (wayFits pos) = false := h2
 have e9 : wayFits pos y8 = y9 := by
  rw [e9]
  unfold wayFits
  have key : ∀ a b : Bool, (a || b) = (bif a then true else b) := by decide
  exact key _ _
 refine ⟨fun hs => ?_, fun hs => ?_⟩
 ·have hs := lt_of_y e7 hs
  have hin : InB (s : Int) (fOuts p e i).length := ⟨by omega, by omega⟩
  refine ⟨hin, fun _ => hin, fun h => ⟨hin, ?_⟩, fun h => ⟨inR64 (by omega) (by omega), s + 1, ⟨by omega, ?_⟩, by omega, by omega⟩⟩
  ·have hf : (fOuts p e i).find? (wayFits pos) = some y8 := by
    rw [e8]
    exact find_at (0, 0) hs h2 (by rw [← e8, e9, h])
   have : fThrough p e i pos = (y8.1, true) := by
    unfold fThrough
    exact congrArg wayOf hf
   rw [e4, e5, this]
   exact ⟨rfl, rfl⟩
  ·exact any_succ (0, 0) hs h2 (by rw [← e8, e9, h])
 ·have hf : (fOuts p e i).find? (wayFits pos) = none := find_none (le_of_y e7 hs) h2
  have : fThrough p e i pos = (0, false) := by
   unfold fThrough
   exact congrArg wayOf hf
  rw [e4, e5, this]
  exact ⟨rfl, rfl⟩
theorem ok158 : DOk Tryz.prog 158 c158 :=
 DOk.of' (l := [(147, c147)]) (A := a158) tabOk ⟨ok147, trivial⟩ Tryz.func158 (by kernel_rfl) (by kernel_rfl) fun x _ _ => b158 x.1 x.2.1 x.2.2.1 x.2.2.2.1
theorem v151 (p : PlanD) (e : Int) (out : Int) (pos : Int) : bodyVC (ctxOf tab [(106, c106), (105, c105), (158, c158)]) Tryz.f151 c151 (a151 (p, e, out, pos, ())) (p, e, out, pos, ()) = (
lett (fFrom p e out pos).1 fun (y4 : Int) =>
lett (fFrom p e out pos).2 fun (y5 : Bool) =>
(∃ (s06 : Nat),
(s06 ≤ (fEnds (fKind p e)).toNat ∧ noneOf (fromOf p e out pos) s06) ∧
(↑s06 : Int) = (0 : Int) ∧
e = e ∧
out = out ∧
pos = pos ∧
keepP p (True)) ∧
∀ (s6 : Nat),
lett (decide ((↑s6 : Int) < fEnds (fKind p e))) fun (y7 : Bool) =>
lett (fThrough p e (↑s6 : Int) pos) fun (y8 : Int × Bool) =>
lett (bif y8.2 then y8.1 == out else false) fun (y9 : Bool) =>
s6 ≤ (fEnds (fKind p e)).toNat ∧ noneOf (fromOf p e out pos) s6 →
True ∧
True ∧
(y7 = true →
True ∧
(y9 = true → (↑s6 : Int) = y4 ∧ true = y5 ∧ True) ∧
(y9 = false →
InR IntKind.i64 ((↑s6 : Int) + (1 : Int)) ∧
∃ (s'10 : Nat),
(s'10 ≤ (fEnds (fKind p e)).toNat ∧ noneOf (fromOf p e out pos) s'10) ∧
(fEnds (fKind p e)).toNat - s'10 < (fEnds (fKind p e)).toNat - s6 ∧
(↑s'10 : Int) = (↑s6 : Int) + (1 : Int) ∧
e = e ∧
out = out ∧
pos = pos ∧
keepP p (True))) ∧
(y7 = false → (0 : Int) = y4 ∧ false = y5 ∧ True)) := by kernel_rfl
theorem b151 (p : PlanD) (e : Int) (out : Int) (pos : Int) : bodyVC (ctxOf tab [(106, c106), (105, c105), (158, c158)]) Tryz.f151 c151 (a151 (p, e, out, pos, ())) (p, e, out, pos, ()) := by
 have hr := ends_range (fKind p e)
 rw [v151]
 refine lett.mk fun y4 e4 => lett.mk fun y5 e5 => ?_
 simp only [keepP_eq, true_and, and_true, Int.toNat_natCast]
 refine ⟨⟨0, ⟨by omega, rfl⟩, rfl⟩, fun s => lett.mk fun y7 e7 => lett.mk fun y8 e8 => lett.mk fun y9 e9 => ?_⟩
 rintro ⟨h1, h2⟩
 have h2 : anyTo (fromOf p e out pos) s = false := h2
 have e9 : fromOf p e out pos s = y9 := by
  rw [e9, e8]
  unfold fromOf
  have key : ∀ a b : Bool, (a && b) = (bif a then b else false) := by decide
  exact key _ _
 refine ⟨fun hs => ?_, fun hs => ?_⟩
 ·rw [e7] at hs
  have hs := of_decide_eq_true hs
  have hs : s < (fEnds (fKind p e)).toNat := by omega
  refine ⟨fun h => ?_, fun h => ⟨inR64 (by omega) (by omega), s + 1, ⟨by omega, ?_⟩, by omega, by omega⟩⟩
  ·have : fFrom p e out pos = ((s : Int), true) := by
    unfold fFrom
    exact congrArg inOf (firstTo_at (p := fromOf p e out pos) hs h2 (by rw [e9, h]))
   rw [e4, e5, this]
   exact ⟨rfl, rfl⟩
  ·exact anyTo_succ h2 (by rw [e9, h])
 ·rw [e7] at hs
  have hs := of_decide_eq_false hs
  have : s = (fEnds (fKind p e)).toNat := by omega
  subst this
  have : fFrom p e out pos = (0, false) := by
   unfold fFrom
   exact congrArg inOf (firstTo_none (p := fromOf p e out pos) h2)
  rw [e4, e5, this]
  exact ⟨rfl, rfl⟩
theorem ok151 : DOk Tryz.prog 151 c151 :=
 DOk.of' (l := [(106, c106), (105, c105), (158, c158)]) (A := a151) tabOk ⟨ok106, ok105, ok158, trivial⟩ Tryz.func151 (by kernel_rfl) (by kernel_rfl) fun x _ _ => b151 x.1 x.2.1 x.2.2.1 x.2.2.2.1
theorem v71 (l : List (List UInt8)) : bodyVC (ctxOf tab []) Tryz.f71 c71 (a71 (l, ())) (l, ()) = (
(∃ (s01 : Nat), (s01 ≤ l.length ∧ noneOf (fun (i : Nat) => anyTo (sameText l i) i) s01) ∧ (↑s01 : Int) = (0 : Int) ∧ l = l ∧ True) ∧
∀ (s1 : Nat),
lett (decide ((↑s1 : Int) < (↑l.length : Int))) fun (y2 : Bool) =>
s1 ≤ l.length ∧ noneOf (fun (i : Nat) => anyTo (sameText l i) i) s1 →
(y2 = true →
(∃ (s03 : Nat), (s03 ≤ (↑s1 : Int).toNat ∧ noneOf (sameText l (↑s1 : Int).toNat) s03) ∧ (↑s03 : Int) = (0 : Int) ∧ l = l ∧ (↑s1 : Int) = (↑s1 : Int) ∧ True) ∧
∀ (s3 : Nat),
lett (decide ((↑s3 : Int) < (↑s1 : Int))) fun (y4 : Bool) =>
lett (l.getD (↑s1 : Int).toNat [] == l.getD (↑s3 : Int).toNat []) fun (y5 : Bool) =>
s3 ≤ (↑s1 : Int).toNat ∧ noneOf (sameText l (↑s1 : Int).toNat) s3 →
(y4 = true →
InB (↑s1 : Int) l.length ∧
InB (↑s3 : Int) l.length ∧
(y5 = true → true = fTwice l ∧ True) ∧
(y5 = false →
InR IntKind.i64 ((↑s3 : Int) + (1 : Int)) ∧
∃ (s'6 : Nat),
(s'6 ≤ (↑s1 : Int).toNat ∧ noneOf (sameText l (↑s1 : Int).toNat) s'6) ∧
(↑s1 : Int).toNat - s'6 < (↑s1 : Int).toNat - s3 ∧ (↑s'6 : Int) = (↑s3 : Int) + (1 : Int) ∧ l = l ∧ (↑s1 : Int) = (↑s1 : Int) ∧ True)) ∧
(y4 = false →
InR IntKind.i64 ((↑s1 : Int) + (1 : Int)) ∧
∃ (s'6 : Nat),
(s'6 ≤ l.length ∧ noneOf (fun (i : Nat) => anyTo (sameText l i) i) s'6) ∧ l.length - s'6 < l.length - s1 ∧ (↑s'6 : Int) = (↑s1 : Int) + (1 : Int) ∧ l = l ∧ True)) ∧
(y2 = false → false = fTwice l ∧ True)) := by kernel_rfl
theorem b71 (l : List Str) (hw : l.length ≤ maxLenI) : bodyVC (ctxOf tab []) Tryz.f71 c71 (a71 (l, ())) (l, ()) := by
 rw [v71]
 simp only [true_and, and_true, Int.toNat_natCast]
 refine ⟨⟨0, ⟨by omega, rfl⟩, rfl⟩, fun s => lett.mk fun y2 e2 => ?_⟩
 rintro ⟨h1, h2⟩
 have h2 : anyTo (fun i => anyTo (sameText l i) i) s = false := h2
 refine ⟨fun hs => ?_, fun hs => ?_⟩
 ·have hs := lt_of_y e2 hs
  refine ⟨⟨0, ⟨by omega, rfl⟩, rfl⟩, fun t => lett.mk fun y4 e4 => lett.mk fun y5 e5 => ?_⟩
  rintro ⟨g1, g2⟩
  have g2 : anyTo (sameText l s) t = false := g2
  refine ⟨fun ht => ?_, fun ht => ?_⟩
  ·have ht := lt_of_y e4 ht
   refine ⟨⟨by omega, by omega⟩, ⟨by omega, by omega⟩, fun h => ?_, fun h => ⟨inRlen (n := l.length) (by omega) hw, t + 1, ⟨by omega, ?_⟩, by omega, by omega⟩⟩
   ·unfold fTwice
    exact (anyTo_yes (p := fun i => anyTo (sameText l i) i) hs (anyTo_yes ht (by rw [← h, e5]; rfl))).symm
   ·exact anyTo_succ g2 (by rw [← h, e5]; rfl)
  ·have ht := le_of_y e4 ht
   have : t = s := by omega
   subst this
   refine ⟨inRlen hs hw, t + 1, ⟨by omega, ?_⟩, by omega, by omega⟩
   exact anyTo_succ (p := fun i => anyTo (sameText l i) i) h2 g2
 ·have hs := le_of_y e2 hs
  have : s = l.length := by omega
  subst this
  unfold fTwice
  exact h2.symm
theorem ok71 : DOk Tryz.prog 71 c71 :=
 DOk.of' (l := []) (A := a71) tabOk trivial Tryz.func71 (by kernel_rfl) (by kernel_rfl) fun x hw _ => b71 x.1 hw.1.1
end YtpnnfimacblhgaaGreat
end Go.Proofs
end

section
set_option maxRecDepth 100000
set_option linter.unusedVariables false
set_option linter.unusedSimpArgs false
set_option maxHeartbeats 2000000
namespace Go.Proofs
open Go Go.Vc
namespace YtpnnfimacblhgaaGreat
theorem v69 (p : PlanD) : bodyVC (ctxOf tab []) Tryz.f69 c69 (a69 (p, ())) (p, ()) = (
lett ([], ((0 : Int), (0 : Int)), false) fun (y1 : List UInt8 × (Int × Int) × Bool) =>
(∃ (s02 : Nat),
s02 ≤ p.1.length ∧
(↑s02 : Int) = (0 : Int) ∧
List.map (fun (e : ElemD) => e.1) (List.take s02 p.1) = [] ∧
keepP p (True)) ∧
∀ (s2 : Nat),
lett (decide ((↑s2 : Int) < (↑p.1.length : Int))) fun (y3 : Bool) =>
lett (List.map (fun (e : ElemD) => e.1) (List.take s2 p.1)) fun (y4 : List (List UInt8)) =>
lett ((List.replicate (1 : Nat) []).set (0 : Nat) (p.1.getD (↑s2 : Int).toNat ([], (0 : Int), (0 : Int))).1) fun (y5 : List (List UInt8)) =>
s2 ≤ p.1.length →
(y3 = true →
InB (↑s2 : Int) p.1.length ∧
roomFor (y4.length + y5.length) (16 : Nat) ∧
InR IntKind.i64 ((↑s2 : Int) + (1 : Int)) ∧
∃ (s'6 : Nat),
s'6 ≤ p.1.length ∧
p.1.length - s'6 < p.1.length - s2 ∧
(↑s'6 : Int) = (↑s2 : Int) + (1 : Int) ∧
List.map (fun (e : ElemD) => e.1) (List.take s'6 p.1) = y4 ++ y5 ∧
keepP p (True)) ∧
(y3 = false →
(∃ (s06 : Nat),
s06 ≤ p.2.2.1.length ∧
(↑s06 : Int) = (0 : Int) ∧
List.map (fun (e : SignalD) => e.1) (List.take s06 p.2.2.1) = [] ∧
keepP p (y4 = y4 ∧ True)) ∧
∀ (s6 : Nat),
lett (decide ((↑s6 : Int) < (↑p.2.2.1.length : Int))) fun (y7 : Bool) =>
lett (List.map (fun (e : SignalD) => e.1) (List.take s6 p.2.2.1)) fun (y8 : List (List UInt8)) =>
lett ((List.replicate (1 : Nat) []).set (0 : Nat) (p.2.2.1.getD (↑s6 : Int).toNat y1).1) fun (y9 : List (List UInt8)) =>
s6 ≤ p.2.2.1.length →
(y7 = true →
InB (↑s6 : Int) p.2.2.1.length ∧
roomFor (y8.length + y9.length) (16 : Nat) ∧
InR IntKind.i64 ((↑s6 : Int) + (1 : Int)) ∧
∃ (s'10 : Nat),
s'10 ≤ p.2.2.1.length ∧
p.2.2.1.length - s'10 < p.2.2.1.length - s6 ∧
(↑s'10 : Int) = (↑s6 : Int) + (1 : Int) ∧
List.map (fun (e : SignalD) => e.1) (List.take s'10 p.2.2.1) = y8 ++ y9 ∧
keepP p (y4 = y4 ∧ True)) ∧
(y7 = false →
(∃ (s010 : Nat),
s010 ≤ p.2.2.2.1.length ∧
(↑s010 : Int) = (0 : Int) ∧
List.map (fun (e : LineD) => e.1) (List.take s010 p.2.2.2.1) = [] ∧
keepP p (y4 = y4 ∧ y8 = y8 ∧ True)) ∧
∀ (s10 : Nat),
lett (decide ((↑s10 : Int) < (↑p.2.2.2.1.length : Int))) fun (y11 : Bool) =>
lett (List.map (fun (e : LineD) => e.1) (List.take s10 p.2.2.2.1)) fun (y12 : List (List UInt8)) =>
lett ((List.replicate (1 : Nat) []).set (0 : Nat) (p.2.2.2.1.getD (↑s10 : Int).toNat ([], [])).1) fun (y13 : List (List UInt8)) =>
s10 ≤ p.2.2.2.1.length →
(y11 = true →
InB (↑s10 : Int) p.2.2.2.1.length ∧
roomFor (y12.length + y13.length) (16 : Nat) ∧
InR IntKind.i64 ((↑s10 : Int) + (1 : Int)) ∧
∃ (s'14 : Nat),
s'14 ≤ p.2.2.2.1.length ∧
p.2.2.2.1.length - s'14 < p.2.2.2.1.length - s10 ∧
(↑s'14 : Int) = (↑s10 : Int) + (1 : Int) ∧
List.map (fun (e : LineD) => e.1) (List.take s'14 p.2.2.2.1) = y12 ++ y13 ∧
keepP p (y4 = y4 ∧ y8 = y8 ∧ True)) ∧
(y11 = false →
y4 = List.map (fun (e : ElemD) => e.1) p.1 ∧
y8 = List.map (fun (s : SignalD) => s.1) p.2.2.1 ∧ y12 = List.map (fun (l : LineD) => l.1) p.2.2.2.1 ∧ True)))) := by kernel_rfl
theorem b69 (p : PlanD) (hp : namesPre p) : bodyVC (ctxOf tab []) Tryz.f69 c69 (a69 (p, ())) (p, ()) := by
 obtain ⟨p1, p2, p3⟩ := hp
 rw [v69]
 refine lett.mk fun y1 e1 => ?_
 simp only [keepP_eq, true_and, and_true, Int.toNat_natCast]
 refine ⟨⟨0, by omega, rfl, rfl⟩, fun s => lett.mk fun y3 e3 => lett.mk fun y4 e4 => lett.mk fun y5 e5 => ?_⟩
 intro hs
 have e5 : y5 = [(p.1.getD s zE).1] := e5
 refine ⟨fun h => ?_, fun h => ?_⟩
 ·have h := lt_of_y e3 h
  refine ⟨⟨by omega, by omega⟩, roomB (by rw [e4, e5]; simp; omega) (by omega), inR64 (by omega) (by omega), s + 1, by omega, by omega, by omega, ?_⟩
  rw [map_succ _ zE h, e4, e5]
 have a1 := take_all e3 h
 refine ⟨⟨0, by omega, rfl, rfl⟩, fun t => lett.mk fun y7 e7 => lett.mk fun y8 e8 => lett.mk fun y9 e9 => ?_⟩
 intro ht
 have e9 : y9 = [(p.2.2.1.getD t zS).1] := by rw [e9, e1]; rfl
 refine ⟨fun h => ?_, fun h => ?_⟩
 ·have h := lt_of_y e7 h
  refine ⟨⟨by omega, by omega⟩, roomB (by rw [e8, e9]; simp; omega) (by omega), inR64 (by omega) (by omega), t + 1, by omega, by omega, by omega, ?_⟩
  rw [map_succ _ zS h, e8, e9]
 have a2 := take_all e7 h
 refine ⟨⟨0, by omega, rfl, rfl⟩, fun u => lett.mk fun y11 e11 => lett.mk fun y12 e12 => lett.mk fun y13 e13 => ?_⟩
 intro hu
 have e13 : y13 = [(p.2.2.2.1.getD u zL).1] := e13
 refine ⟨fun h => ?_, fun h => ?_⟩
 ·have h := lt_of_y e11 h
  refine ⟨⟨by omega, by omega⟩, roomB (by rw [e12, e13]; simp; omega) (by omega), inR64 (by omega) (by omega), u + 1, by omega, by omega, by omega, ?_⟩
  rw [map_succ _ zL h, e12, e13]
 have a3 := take_all e11 h
 rw [e4, e8, e12, a1, a2, a3]
 exact ⟨rfl, rfl, rfl⟩
theorem ok69 : DOk Tryz.prog 69 c69 :=
 DOk.of' (l := []) (A := a69) tabOk trivial Tryz.func69 (by kernel_rfl) (by kernel_rfl) fun x _ hp => b69 x.1 hp
theorem v70 (p : PlanD) : bodyVC (ctxOf tab [(118, c118), (119, c119), (105, c105)]) Tryz.f70 c70 (a70 (p, ())) (p, ()) = (
lett (!fIn (1 : Int) (60 : Int) p.2.2.2.2.1) fun (y1 : Bool) =>
lett (bif y1 then true else !fIn (1 : Int) (10 : Int) p.2.2.2.2.2.1) fun (y2 : Bool) =>
lett (bif y2 then true else !fIn (1 : Int) (4000 : Int) p.2.2.2.2.2.2.1) fun (y3 : Bool) =>
lett (bif bif y3 then true else !fIn (1 : Int) (20 : Int) p.2.2.2.2.2.2.2.1 then true else (↑p.1.length : Int) == (0 : Int)) fun (y4 : Bool) =>
True ∧
(y1 = false → True) ∧
(y2 = false → True) ∧
(y3 = false → True) ∧
(y4 = true → false = fArgs p ∧ True) ∧
(y4 = false →
(∃ (s05 : Nat),
(s05 ≤ p.1.length ∧ allT fElemOk p.1 s05) ∧
(↑s05 : Int) = (0 : Int) ∧
keepP p (True)) ∧
∀ (s5 : Nat),
lett (decide ((↑s5 : Int) < (↑p.1.length : Int))) fun (y6 : Bool) =>
lett (p.1.getD (↑s5 : Int).toNat ([], (0 : Int), (0 : Int))) fun (y7 : List UInt8 × Int × Int) =>
lett (bif bif !fName y7.1 then true else fEnds y7.2.1 == (0 : Int) then true else bif y7.2.1 == (4 : Int) then y7.2.2 != (0 : Int) else false)
fun (y8 : Bool) =>
lett (bif y8 then true else bif y7.2.1 != (4 : Int) then !fIn (1 : Int) (4000 : Int) y7.2.2 else false) fun (y9 : Bool) =>
s5 ≤ p.1.length ∧ allT fElemOk p.1 s5 →
(y6 = true →
InB (↑s5 : Int) p.1.length ∧
True ∧
((!fName y7.1) = false → True) ∧
(y8 = false → (y7.2.1 != (4 : Int)) = true → True) ∧
(y9 = true → false = fArgs p ∧ True) ∧
(y9 = false →
InR IntKind.i64 ((↑s5 : Int) + (1 : Int)) ∧
∃ (s'10 : Nat),
(s'10 ≤ p.1.length ∧ allT fElemOk p.1 s'10) ∧
p.1.length - s'10 < p.1.length - s5 ∧
(↑s'10 : Int) = (↑s5 : Int) + (1 : Int) ∧
keepP p (True))) ∧
(y6 = false →
(∃ (s010 : Nat),
(s010 ≤ p.2.2.1.length ∧ allT sigName p.2.2.1 s010) ∧
(↑s010 : Int) = (0 : Int) ∧
keepP p (True)) ∧
∀ (s10 : Nat),
lett (decide ((↑s10 : Int) < (↑p.2.2.1.length : Int))) fun (y11 : Bool) =>
lett (!fName (p.2.2.1.getD (↑s10 : Int).toNat ([], ((0 : Int), (0 : Int)), false)).1) fun (y12 : Bool) =>
s10 ≤ p.2.2.1.length ∧ allT sigName p.2.2.1 s10 →
(y11 = true →
InB (↑s10 : Int) p.2.2.1.length ∧
True ∧
(y12 = true → false = fArgs p ∧ True) ∧
(y12 = false →
InR IntKind.i64 ((↑s10 : Int) + (1 : Int)) ∧
∃ (s'13 : Nat),
(s'13 ≤ p.2.2.1.length ∧ allT sigName p.2.2.1 s'13) ∧
p.2.2.1.length - s'13 < p.2.2.1.length - s10 ∧
(↑s'13 : Int) = (↑s10 : Int) + (1 : Int) ∧
keepP p (True))) ∧
(y11 = false →
(∃ (s013 : Nat),
(s013 ≤ p.2.2.2.1.length ∧ allT lineName p.2.2.2.1 s013) ∧
(↑s013 : Int) = (0 : Int) ∧
keepP p (True)) ∧
∀ (s13 : Nat),
lett (decide ((↑s13 : Int) < (↑p.2.2.2.1.length : Int))) fun (y14 : Bool) =>
lett (!fName (p.2.2.2.1.getD (↑s13 : Int).toNat ([], [])).1) fun (y15 : Bool) =>
s13 ≤ p.2.2.2.1.length ∧ allT lineName p.2.2.2.1 s13 →
(y14 = true →
InB (↑s13 : Int) p.2.2.2.1.length ∧
True ∧
(y15 = true → false = fArgs p ∧ True) ∧
(y15 = false →
InR IntKind.i64 ((↑s13 : Int) + (1 : Int)) ∧
∃ (s'16 : Nat),
(s'16 ≤ p.2.2.2.1.length ∧ allT lineName p.2.2.2.1 s'16) ∧
p.2.2.2.1.length - s'16 < p.2.2.2.1.length - s13 ∧
(↑s'16 : Int) = (↑s13 : Int) + (1 : Int) ∧
keepP p (True))) ∧
(y14 = false → true = fArgs p ∧ True))))) := by kernel_rfl
theorem elem_key : ∀ n z g l0 f : Bool, (n && (!z && (bif g then l0 else f))) = !(bif (bif (bif !n then true else z) then true else (bif g then !l0 else false)) then true else (bif !g then !f else false)) := by decide
theorem b70 (p : PlanD) (hw : planWf p) : bodyVC (ctxOf tab [(118, c118), (119, c119), (105, c105)]) Tryz.f70 c70 (a70 (p, ())) (p, ()) := by
 rw [v70]
 refine lett.mk fun y1 e1 => lett.mk fun y2 e2 => lett.mk fun y3 e3 => lett.mk fun y4 e4 => ?_
 simp only [keepP_eq, true_and, and_true, Int.toNat_natCast]
 have hN : fNums p = !y4 := by
  rw [e4, e3, e2, e1, eqN' _ 0 0 rfl]
  unfold fNums
  have key : ∀ a b c d e : Bool, (a && (b && (c && (d && !e)))) = !(bif (bif (bif (bif !a then true else !b) then true else !c) then true else !d) then true else e) := by decide
  exact key _ _ _ _ _
 refine ⟨fun _ => trivial, fun _ => trivial, fun _ => trivial, fun h => ?_, fun h => ?_⟩
 ·unfold fArgs
  rw [hN, h]
  rfl
 have hA : fArgs p = (p.1.all fElemOk && (p.2.2.1.all sigName && p.2.2.2.1.all lineName)) := by
  unfold fArgs
  rw [hN, h]
  rfl
 rw [hA]
 refine ⟨⟨0, ⟨by omega, rfl⟩, rfl⟩, fun s => lett.mk fun y6 e6 => lett.mk fun y7 e7 => lett.mk fun y8 e8 => lett.mk fun y9 e9 => ?_⟩
 rintro ⟨h1, h2⟩
 have h2 : (p.1.take s).all fElemOk = true := h2
 have e7 : y7 = p.1.getD s zE := e7
 have hE : fElemOk y7 = !y9 := by
  rw [e9, e8, bneB, bneB]
  unfold fElemOk
  exact elem_key _ _ _ _ _
 refine ⟨fun h => ?_, fun h => ?_⟩
 ·have h := lt_of_y e6 h
  refine ⟨⟨by omega, by omega⟩, fun _ => trivial, fun _ _ => trivial, fun h9 => ?_, fun h9 => ⟨inRlen h hw.1, s + 1, ⟨by omega, ?_⟩, by omega, by omega⟩⟩
  ·rw [all_no zE h (by rw [← e7, hE, h9]; rfl)]
   rfl
  ·exact all_succ zE h h2 (by rw [← e7, hE, h9]; rfl)
 rw [all_full (le_of_y e6 h) h2, Bool.true_and]
 refine ⟨⟨0, ⟨by omega, rfl⟩, rfl⟩, fun t => lett.mk fun y11 e11 => lett.mk fun y12 e12 => ?_⟩
 rintro ⟨h1, h2⟩
 have h2 : (p.2.2.1.take t).all sigName = true := h2
 have e12 : sigName (p.2.2.1.getD t zS) = !y12 := by rw [e12, Bool.not_not]; rfl
 refine ⟨fun h => ?_, fun h => ?_⟩
 ·have h := lt_of_y e11 h
  refine ⟨⟨by omega, by omega⟩, fun h9 => ?_, fun h9 => ⟨inRlen h hw.2.2.1, t + 1, ⟨by omega, ?_⟩, by omega, by omega⟩⟩
  ·rw [all_no zS h (by rw [e12, h9]; rfl)]
   rfl
  ·exact all_succ zS h h2 (by rw [e12, h9]; rfl)
 rw [all_full (le_of_y e11 h) h2, Bool.true_and]
 refine ⟨⟨0, ⟨by omega, rfl⟩, rfl⟩, fun u => lett.mk fun y14 e14 => lett.mk fun y15 e15 => ?_⟩
 rintro ⟨h1, h2⟩
 have h2 : (p.2.2.2.1.take u).all lineName = true := h2
 have e15 : lineName (p.2.2.2.1.getD u zL) = !y15 := by rw [e15, Bool.not_not]; rfl
 refine ⟨fun h => ?_, fun h => ?_⟩
 ·have h := lt_of_y e14 h
  refine ⟨⟨by omega, by omega⟩, fun h9 => ?_, fun h9 => ⟨inRlen h hw.2.2.2, u + 1, ⟨by omega, ?_⟩, by omega, by omega⟩⟩
  ·rw [all_no zL h (by rw [e15, h9]; rfl)]
  ·exact all_succ zL h h2 (by rw [e15, h9]; rfl)
 rw [all_full (le_of_y e14 h) h2]
theorem ok70 : DOk Tryz.prog 70 c70 :=
 DOk.of' (l := [(118, c118), (119, c119), (105, c105)]) (A := a70) tabOk ⟨ok118, ok119, ok105, trivial⟩ Tryz.func70 (by kernel_rfl) (by kernel_rfl) fun x hw hp => b70 x.1 (plan_wf hw.1)
theorem args_nums {p : PlanD} (h : fArgs p = true) : fNums p = true := by
 unfold fArgs at h
 rw [Bool.and_eq_true] at h
 exact h.1
theorem v72 (p : PlanD) : bodyVC (ctxOf tab [(56, c56), (107, c107), (106, c106)]) Tryz.f72 c72 (a72 (p, ())) (p, ()) = (
lett (((0 : Int), (0 : Int)), (0 : Int), (0 : Int)) fun (y1 : (Int × Int) × Int × Int) =>
(∃ (s02 : Nat),
s02 ≤ p.2.1.length ∧
(↑s02 : Int) = (0 : Int) ∧
List.flatMap (fun (j : JoinD) => [j.1, j.2]) (List.take s02 p.2.1) = [] ∧
keepP p (True)) ∧
∀ (s2 : Nat),
lett (decide ((↑s2 : Int) < (↑p.2.1.length : Int))) fun (y3 : Bool) =>
lett (List.flatMap (fun (j : JoinD) => [j.1, j.2]) (List.take s2 p.2.1)) fun (y4 : List (Int × Int)) =>
lett (p.2.1.getD (↑s2 : Int).toNat y1) fun (y5 : (Int × Int) × Int × Int) =>
lett (((List.replicate (2 : Nat) ((0 : Int), (0 : Int))).set (0 : Nat) y5.1).set (1 : Nat) y5.2) fun (y6 : List (Int × Int)) =>
s2 ≤ p.2.1.length →
(y3 = true →
InB (↑s2 : Int) p.2.1.length ∧
InB (↑s2 : Int) p.2.1.length ∧
roomFor (y4.length + y6.length) (16 : Nat) ∧
InR IntKind.i64 ((↑s2 : Int) + (1 : Int)) ∧
∃ (s'7 : Nat),
s'7 ≤ p.2.1.length ∧
p.2.1.length - s'7 < p.2.1.length - s2 ∧
(↑s'7 : Int) = (↑s2 : Int) + (1 : Int) ∧
List.flatMap (fun (j : JoinD) => [j.1, j.2]) (List.take s'7 p.2.1) = y4 ++ y6 ∧
keepP p (True)) ∧
(y3 = false →
(∃ (s07 : Nat),
(s07 ≤ (joinEnds p).length ∧ allOf (endOk p) s07) ∧
(↑s07 : Int) = (0 : Int) ∧
keepP p (y4 = y4 ∧ True)) ∧
∀ (s7 : Nat),
lett (decide ((↑s7 : Int) < (↑y4.length : Int))) fun (y8 : Bool) =>
lett (y4.getD (↑s7 : Int).toNat ((0 : Int), (0 : Int))) fun (y9 : Int × Int) =>
s7 ≤ (joinEnds p).length ∧ allOf (endOk p) s7 →
(y8 = true →
InB (↑s7 : Int) y4.length ∧
True ∧
((!fHas p y9) = true → false = fJoined p ∧ True) ∧
((!fHas p y9) = false →
(∃ (s010 : Nat),
(s010 ≤ (↑s7 : Int).toNat ∧ noneOf (sameEnd p (↑s7 : Int).toNat) s010) ∧
(↑s010 : Int) = (0 : Int) ∧
(↑s7 : Int) = (↑s7 : Int) ∧
keepP p (y4 = y4 ∧ True)) ∧
∀ (s10 : Nat),
lett (decide ((↑s10 : Int) < (↑s7 : Int))) fun (y11 : Bool) =>
lett (y4.getD (↑s10 : Int).toNat ((0 : Int), (0 : Int))) fun (y12 : Int × Int) =>
lett (y12.1 == y9.1 && (y12.2 == y9.2 && true)) fun (y13 : Bool) =>
s10 ≤ (↑s7 : Int).toNat ∧ noneOf (sameEnd p (↑s7 : Int).toNat) s10 →
(y11 = true →
InB (↑s10 : Int) y4.length ∧
InB (↑s7 : Int) y4.length ∧
(y13 = true → false = fJoined p ∧ True) ∧
(y13 = false →
InR IntKind.i64 ((↑s10 : Int) + (1 : Int)) ∧
∃ (s'14 : Nat),
(s'14 ≤ (↑s7 : Int).toNat ∧ noneOf (sameEnd p (↑s7 : Int).toNat) s'14) ∧
(↑s7 : Int).toNat - s'14 < (↑s7 : Int).toNat - s10 ∧
(↑s'14 : Int) = (↑s10 : Int) + (1 : Int) ∧
(↑s7 : Int) = (↑s7 : Int) ∧
keepP p (y4 = y4 ∧ True))) ∧
(y11 = false →
InR IntKind.i64 ((↑s7 : Int) + (1 : Int)) ∧
∃ (s'14 : Nat),
(s'14 ≤ (joinEnds p).length ∧ allOf (endOk p) s'14) ∧
(joinEnds p).length - s'14 < (joinEnds p).length - s7 ∧
(↑s'14 : Int) = (↑s7 : Int) + (1 : Int) ∧
keepP p (y4 = y4 ∧ True)))) ∧
(y8 = false →
(∃ (s010 : Nat),
(s010 ≤ p.1.length ∧ allOf (gateOk p) s010) ∧
(↑s010 : Int) = (0 : Int) ∧
keepP p (True)) ∧
∀ (s10 : Nat),
lett (decide ((↑s10 : Int) < (↑p.1.length : Int))) fun (y11 : Bool) =>
lett ((p.1.getD (↑s10 : Int).toNat ([], (0 : Int), (0 : Int))).2.1 == (4 : Int)) fun (y12 : Bool) =>
lett (fNext p ((↑s10 : Int), (0 : Int))) fun (y13 : PortD × Bool) =>
lett (bif !y13.2 then true else fKind p y13.1.1 == (4 : Int)) fun (y14 : Bool) =>
s10 ≤ p.1.length ∧ allOf (gateOk p) s10 →
(y11 = true →
InB (↑s10 : Int) p.1.length ∧
(y12 = true →
True ∧
((!y13.2) = false → True) ∧
(y14 = true → false = fJoined p ∧ True) ∧
(y14 = false →
InR IntKind.i64 ((↑s10 : Int) + (1 : Int)) ∧
∃ (s'15 : Nat),
(s'15 ≤ p.1.length ∧ allOf (gateOk p) s'15) ∧
p.1.length - s'15 < p.1.length - s10 ∧
(↑s'15 : Int) = (↑s10 : Int) + (1 : Int) ∧
keepP p (True))) ∧
(y12 = false →
InR IntKind.i64 ((↑s10 : Int) + (1 : Int)) ∧
∃ (s'15 : Nat),
(s'15 ≤ p.1.length ∧ allOf (gateOk p) s'15) ∧
p.1.length - s'15 < p.1.length - s10 ∧
(↑s'15 : Int) = (↑s10 : Int) + (1 : Int) ∧
keepP p (True))) ∧
(y11 = false → true = fJoined p ∧ True)))) := by kernel_rfl
theorem b72 (p : PlanD) (hp : p.2.1.length ≤ 1000) (hw : planWf p) : bodyVC (ctxOf tab [(56, c56), (107, c107), (106, c106)]) Tryz.f72 c72 (a72 (p, ())) (p, ()) := by
 have hJ : fJoined p = (allTo (endOk p) (joinEnds p).length && allTo (gateOk p) p.1.length) := by unfold fJoined; rfl
 have hlen : ∀ l : List JoinD, (l.flatMap fun j => [j.1, j.2]).length = 2 * l.length := fun l => by
  induction l with
  | nil => rfl
  | cons x l ih => rw [List.flatMap_cons, List.length_append, ih, List.length_cons]; simp; omega
 have hEl : (joinEnds p).length = 2 * p.2.1.length := hlen p.2.1
 rw [v72, hJ]
 refine lett.mk fun y1 e1 => ?_
 simp only [keepP_eq, true_and, and_true, Int.toNat_natCast]
 refine ⟨⟨0, by omega, rfl, rfl⟩, fun s => lett.mk fun y3 e3 => lett.mk fun y4 e4 => lett.mk fun y5 e5 => lett.mk fun y6 e6 => ?_⟩
 intro hs
 have e6 : y6 = [y5.1, y5.2] := e6
 have e5 : y5 = p.2.1.getD s zJ := by rw [e5, e1]; rfl
 refine ⟨fun h => ?_, fun h => ?_⟩
 ·have h := lt_of_y e3 h
  refine ⟨⟨by omega, by omega⟩, ⟨by omega, by omega⟩, roomB (by rw [e4, e6, hlen, List.length_take]; simp; omega) (by omega), inR64 (by omega) (by omega), s + 1, by omega, by omega, by omega, ?_⟩
  rw [flat_succ _ zJ h, e4, e6, e5]
 have hall := take_all e3 h
 have e4 : y4 = joinEnds p := by rw [e4, hall]; rfl
 subst e4
 refine ⟨⟨0, ⟨by omega, rfl⟩, rfl⟩, fun t => lett.mk fun y8 e8 => lett.mk fun y9 e9 => ?_⟩
 rintro ⟨h1, h2⟩
 have h2 : allTo (endOk p) t = true := h2
 have e9 : y9 = (joinEnds p).getD t zP := e9
 refine ⟨fun h => ?_, fun h => ?_⟩
 ·have h := lt_of_y e8 h
  refine ⟨⟨by omega, by omega⟩, fun hh => ?_, fun hh => ⟨⟨0, ⟨by omega, rfl⟩, rfl⟩, fun u => lett.mk fun y11 e11 => lett.mk fun y12 e12 => lett.mk fun y13 e13 => ?_⟩⟩
  ·simp only [Bool.not_eq_true'] at hh
   rw [allTo_no (p := endOk p) h (by unfold endOk; rw [← e9, hh]; rfl)]
   rfl
  simp only [Bool.not_eq_false'] at hh
  rintro ⟨g1, g2⟩
  have g2 : anyTo (sameEnd p t) u = false := g2
  have e13 : sameEnd p t u = y13 := by rw [e13, portBeq, e12, e9]; rfl
  refine ⟨fun hu => ?_, fun hu => ?_⟩
  ·have hu := lt_of_y e11 hu
   refine ⟨⟨by omega, by omega⟩, ⟨by omega, by omega⟩, fun h13 => ?_, fun h13 => ⟨inR64 (by omega) (by omega), u + 1, ⟨by omega, ?_⟩, by omega, by omega⟩⟩
   ·have hn : anyTo (sameEnd p t) t = true := anyTo_yes hu (by rw [e13, h13])
    rw [allTo_no (p := endOk p) h (by
     show (fHas p _ && !anyTo (sameEnd p t) t) = false
     rw [hn, Bool.not_true, Bool.and_false])]
    rfl
   ·exact anyTo_succ g2 (by rw [e13, h13])
  ·have hu := le_of_y e11 hu
   have : u = t := by omega
   subst this
   refine ⟨inR64 (by omega) (by omega), u + 1, ⟨by omega, ?_⟩, by omega, by omega⟩
   exact allTo_succ h2 (by
    show (fHas p _ && !anyTo (sameEnd p u) u) = true
    rw [← e9, hh, g2]; rfl)
 have hle := le_of_y e8 h
 have ht : t = (joinEnds p).length := by omega
 subst ht
 rw [h2, Bool.true_and]
 refine ⟨⟨0, ⟨by omega, rfl⟩, rfl⟩, fun u => lett.mk fun y11 e11 => lett.mk fun y12 e12 => lett.mk fun y13 e13 => lett.mk fun y14 e14 => ?_⟩
 rintro ⟨g1, g2⟩
 have g2 : allTo (gateOk p) u = true := g2
 have hG : gateOk p u = !(bif y12 then y14 else false) := by
  rw [e14, e12, e13]
  unfold gateOk
  have key : ∀ a b c : Bool, (bif a then (b && !c) else true) = !(bif a then (bif !b then true else c) else false) := by decide
  exact key _ _ _
 refine ⟨fun h => ?_, fun h => ?_⟩
 ·have h := lt_of_y e11 h
  refine ⟨⟨by omega, by omega⟩, fun h12 => ⟨fun _ => trivial, fun h14 => ?_, fun h14 => ⟨inRlen h hw.1, u + 1, ⟨by omega, ?_⟩, by omega, by omega⟩⟩, fun h12 => ⟨inRlen h hw.1, u + 1, ⟨by omega, ?_⟩, by omega, by omega⟩⟩
  ·exact (allTo_no h (by rw [hG, h12, h14]; rfl)).symm
  ·exact allTo_succ g2 (by rw [hG, h12, h14]; rfl)
  ·exact allTo_succ g2 (by rw [hG, h12]; rfl)
 have hle := le_of_y e11 h
 have hu : u = p.1.length := by omega
 subst hu
 exact g2.symm
theorem ok72 : DOk Tryz.prog 72 c72 :=
 DOk.of' (l := [(56, c56), (107, c107), (106, c106)]) (A := a72) tabOk ⟨ok56, ok107, ok106, trivial⟩ Tryz.func72 (by kernel_rfl) (by kernel_rfl) fun x hw hp => b72 x.1 hp (plan_wf hw.1)
theorem next_has {p : PlanD} (hj : fJoined p = true) {x : PortD} (h : (fNext p x).2 = true) : fHas p (fNext p x).1 = true := by
 have hm := next_mem h
 obtain ⟨i, hi, he⟩ := List.mem_iff_getElem.1 hm
 unfold fJoined at hj
 rw [Bool.and_eq_true] at hj
 have := allTo_iff.1 hj.1 i hi
 unfold endOk at this
 rw [Bool.and_eq_true, getD_at zP hi, he] at this
 exact this.1
theorem v73 (p : PlanD) : bodyVC (ctxOf tab [(56, c56), (107, c107), (106, c106), (120, c120)]) Tryz.f73 c73 (a73 (p, ())) (p, ()) = (
lett ([], ((0 : Int), (0 : Int)), false) fun (y1 : List UInt8 × (Int × Int) × Bool) =>
(∃ (s02 : Nat),
(s02 ≤ p.2.2.1.length ∧ allOf (sigOk p) s02) ∧
(↑s02 : Int) = (0 : Int) ∧
keepP p (True)) ∧
∀ (s2 : Nat),
lett (decide ((↑s2 : Int) < (↑p.2.2.1.length : Int))) fun (y3 : Bool) =>
lett (p.2.2.1.getD (↑s2 : Int).toNat y1).2.1 fun (y4 : Int × Int) =>
lett (bif !fHas p y4 then true else bif fKind p y4.1 != (1 : Int) then fKind p y4.1 != (4 : Int) else false) fun (y5 : Bool) =>
lett (bif !(fNext p y4).2 then true else fKind p (fNext p y4).1.1 == (4 : Int)) fun (y6 : Bool) =>
lett (bif y6 then true else fReads p y4 != (↑s2 : Int)) fun (y7 : Bool) =>
s2 ≤ p.2.2.1.length ∧ allOf (sigOk p) s2 →
(y3 = true →
InB (↑s2 : Int) p.2.2.1.length ∧
True ∧
True ∧
(y5 = true → false = fSignals p ∧ True) ∧
(y5 = false →
True ∧
((!(fNext p y4).2) = false → True) ∧
(y6 = false → True) ∧
(y7 = true → false = fSignals p ∧ True) ∧
(y7 = false →
InR IntKind.i64 ((↑s2 : Int) + (1 : Int)) ∧
∃ (s'8 : Nat),
(s'8 ≤ p.2.2.1.length ∧ allOf (sigOk p) s'8) ∧
p.2.2.1.length - s'8 < p.2.2.1.length - s2 ∧
(↑s'8 : Int) = (↑s2 : Int) + (1 : Int) ∧
keepP p (True)))) ∧
(y3 = false →
(∃ (s08 : Nat),
(s08 ≤ p.1.length ∧ allOf (gateSig p) s08) ∧
(↑s08 : Int) = (0 : Int) ∧
keepP p (True)) ∧
∀ (s8 : Nat),
lett (decide ((↑s8 : Int) < (↑p.1.length : Int))) fun (y9 : Bool) =>
lett ((p.1.getD (↑s8 : Int).toNat ([], (0 : Int), (0 : Int))).2.1 == (4 : Int)) fun (y10 : Bool) =>
lett (fReads p ((↑s8 : Int), (0 : Int))) fun (y11 : Int) =>
lett (bif y10 then decide (y11 < (0 : Int)) else false) fun (y12 : Bool) =>
s8 ≤ p.1.length ∧ allOf (gateSig p) s8 →
(y9 = true →
InB (↑s8 : Int) p.1.length ∧
(y10 = true → True) ∧
(y12 = true → false = fSignals p ∧ True) ∧
(y12 = false →
InR IntKind.i64 ((↑s8 : Int) + (1 : Int)) ∧
∃ (s'13 : Nat),
(s'13 ≤ p.1.length ∧ allOf (gateSig p) s'13) ∧
p.1.length - s'13 < p.1.length - s8 ∧
(↑s'13 : Int) = (↑s8 : Int) + (1 : Int) ∧
keepP p (True))) ∧
(y9 = false → true = fSignals p ∧ True))) := by kernel_rfl
theorem b73 (p : PlanD) (hw : planWf p) : bodyVC (ctxOf tab [(56, c56), (107, c107), (106, c106), (120, c120)]) Tryz.f73 c73 (a73 (p, ())) (p, ()) := by
 have hJ : fSignals p = (allTo (sigOk p) p.2.2.1.length && allTo (gateSig p) p.1.length) := by unfold fSignals; rfl
 rw [v73, hJ]
 refine lett.mk fun y1 e1 => ?_
 simp only [keepP_eq, true_and, and_true, Int.toNat_natCast]
 refine ⟨⟨0, ⟨by omega, rfl⟩, rfl⟩, fun s => lett.mk fun y3 e3 => lett.mk fun y4 e4 => lett.mk fun y5 e5 => lett.mk fun y6 e6 => lett.mk fun y7 e7 => ?_⟩
 rintro ⟨h1, h2⟩
 have h2 : allTo (sigOk p) s = true := h2
 have e4 : y4 = (p.2.2.1.getD s zS).2.1 := by rw [e4, e1]; rfl
 have hS : sigOk p s = (!y5 && !y7) := by
  rw [e7, e6, e5, bneB, bneB, bneB]
  unfold sigOk sigOkX
  rw [← e4]
  have key : ∀ a b c d e f : Bool, (a && ((b || c) && (d && (!e && f)))) = (!(bif !a then true else (bif !b then !c else false)) && !(bif (bif !d then true else e) then true else !f)) := by decide
  exact key _ _ _ _ _ _
 refine ⟨fun h => ?_, fun h => ?_⟩
 ·have h := lt_of_y e3 h
  refine ⟨⟨by omega, by omega⟩, fun h5 => ?_, fun h5 => ⟨fun _ => trivial, fun _ => trivial, fun h7 => ?_, fun h7 => ⟨inRlen h hw.2.2.1, s + 1, ⟨by omega, ?_⟩, by omega, by omega⟩⟩⟩
  ·rw [allTo_no (p := sigOk p) h (by rw [hS, h5]; rfl)]
   rfl
  ·rw [allTo_no (p := sigOk p) h (by rw [hS, h5, h7]; rfl)]
   rfl
  ·exact allTo_succ h2 (by rw [hS, h5, h7]; rfl)
 have hle := le_of_y e3 h
 have ht : s = p.2.2.1.length := by omega
 subst ht
 rw [h2, Bool.true_and]
 refine ⟨⟨0, ⟨by omega, rfl⟩, rfl⟩, fun u => lett.mk fun y9 e9 => lett.mk fun y10 e10 => lett.mk fun y11 e11 => lett.mk fun y12 e12 => ?_⟩
 rintro ⟨g1, g2⟩
 have g2 : allTo (gateSig p) u = true := g2
 have hG : gateSig p u = !y12 := by
  rw [e12, e10, ltI, e11]
  unfold gateSig
  have key : ∀ a b : Bool, (bif a then b else true) = !(bif a then !b else false) := by decide
  exact key _ _
 refine ⟨fun h => ?_, fun h => ?_⟩
 ·have h := lt_of_y e9 h
  refine ⟨⟨by omega, by omega⟩, fun _ => trivial, fun h12 => ?_, fun h12 => ⟨inRlen h hw.1, u + 1, ⟨by omega, ?_⟩, by omega, by omega⟩⟩
  ·exact (allTo_no h (by rw [hG, h12]; rfl)).symm
  ·exact allTo_succ g2 (by rw [hG, h12]; rfl)
 have hle := le_of_y e9 h
 have hu : u = p.1.length := by omega
 subst hu
 exact g2.symm
theorem ok73 : DOk Tryz.prog 73 c73 :=
 DOk.of' (l := [(56, c56), (107, c107), (106, c106), (120, c120)]) (A := a73) tabOk ⟨ok56, ok107, ok106, ok120, trivial⟩ Tryz.func73 (by kernel_rfl) (by kernel_rfl) fun x hw hp => b73 x.1 (plan_wf hw.1)
theorem v57 (p : PlanD) (l : List Int) : bodyVC (ctxOf tab [(107, c107), (106, c106)]) Tryz.f57 c57 (a57 (p, l, ())) (p, l, ()) = (
(((↑l.length : Int) == (0 : Int)) = true → [] = (fEnters p l).1 ∧ false = (fEnters p l).2 ∧ True) ∧
(((↑l.length : Int) == (0 : Int)) = false →
(∃ (s02 : Nat),
(s02 ≤ l.length ∧ allT (isTrack p) l s02) ∧
(↑s02 : Int) = (0 : Int) ∧
l = l ∧
keepP p (True)) ∧
∀ (s2 : Nat),
lett (decide ((↑s2 : Int) < (↑l.length : Int))) fun (y3 : Bool) =>
lett (fKind p (l.getD (↑s2 : Int).toNat (0 : Int)) != (1 : Int)) fun (y4 : Bool) =>
s2 ≤ l.length ∧ allT (isTrack p) l s2 →
(y3 = true →
InB (↑s2 : Int) l.length ∧
True ∧
(y4 = true → [] = (fEnters p l).1 ∧ false = (fEnters p l).2 ∧ True) ∧
(y4 = false →
InR IntKind.i64 ((↑s2 : Int) + (1 : Int)) ∧
∃ (s'5 : Nat),
(s'5 ≤ l.length ∧ allT (isTrack p) l s'5) ∧
l.length - s'5 < l.length - s2 ∧
(↑s'5 : Int) = (↑s2 : Int) + (1 : Int) ∧
l = l ∧
keepP p (True))) ∧
(y3 = false →
(((↑l.length : Int) == (1 : Int)) = true → (List.replicate (1 : Nat) (0 : Int)).set (0 : Nat) (0 : Int) = (fEnters p l).1 ∧ true = (fEnters p l).2 ∧ True) ∧
(((↑l.length : Int) == (1 : Int)) = false →
(∃ (s05 : Nat),
s05 ≤ (2 : Nat) ∧
(1 : Int) - (↑s05 : Int) = (1 : Int) ∧
outAt p l s05 = (-1 : Int) ∧
l = l ∧
keepP p (True)) ∧
∀ (s5 : Nat),
lett (decide ((1 : Int) - (↑s5 : Int) ≥ (0 : Int))) fun (y6 : Bool) =>
lett (fNext p (l.getD (Int.toNat (0 : Int)) (0 : Int), (1 : Int) - (↑s5 : Int))) fun (y7 : PortD × Bool) =>
lett ((1 : Int) - (↑s5 : Int) - (1 : Int)) fun (y8 : Int) =>
lett (decide (outAt p l s5 < (0 : Int))) fun (y9 : Bool) =>
lett ((1 : Int) - outAt p l s5) fun (y10 : Int) =>
s5 ≤ (2 : Nat) →
(y6 = true →
InB (0 : Int) l.length ∧
True ∧
(y7.2 = true → InB (1 : Int) l.length) ∧
InR IntKind.i64 y8 ∧
∃ (s'11 : Nat),
s'11 ≤ (2 : Nat) ∧
(2 : Nat) - s'11 < (2 : Nat) - s5 ∧
(1 : Int) - (↑s'11 : Int) = y8 ∧
(outAt p l s'11 =
bif bif y7.2 then y7.1.1 == l.getD (Int.toNat (1 : Int)) (0 : Int) else false then (1 : Int) - (↑s5 : Int) else outAt p l s5) ∧
l = l ∧
keepP p (True)) ∧
(y6 = false →
(y9 = true → [] = (fEnters p l).1 ∧ false = (fEnters p l).2 ∧ True) ∧
(y9 = false →
InR IntKind.i64 y10 ∧
(∃ (s011 : Nat),
(s011 < l.length ∧ (fEnt p l (fOut0 p l) s011).2.2 = true) ∧
(↑s011 : Int) + (1 : Int) = (1 : Int) ∧
(fEnt p l (fOut0 p l) s011).2.1 = outAt p l s5 ∧
l = l ∧
(fEnt p l (fOut0 p l) s011).1 = (List.replicate (1 : Nat) (0 : Int)).set (0 : Nat) y10 ∧
keepP p (True)) ∧
∀ (s11 : Nat),
lett (fEnt p l (fOut0 p l) s11) fun (y12 : List Int × Int × Bool) =>
lett (decide ((↑s11 : Int) + (1 : Int) < (↑l.length : Int))) fun (y13 : Bool) =>
lett ((↑s11 : Int) + (1 : Int) - (1 : Int)) fun (y14 : Int) =>
lett (fNext p (l.getD y14.toNat (0 : Int), y12.2.1)) fun (y15 : PortD × Bool) =>
lett (bif !y15.2 then true else y15.1.1 != l.getD ((↑s11 : Int) + (1 : Int)).toNat (0 : Int)) fun (y16 : Bool) =>
lett ((List.replicate (1 : Nat) (0 : Int)).set (0 : Nat) y15.1.2) fun (y17 : List Int) =>
lett ((↑s11 : Int) + (1 : Int) + (1 : Int)) fun (y18 : Int) =>
s11 < l.length ∧ y12.2.2 = true →
(y13 = true →
InR IntKind.i64 y14 ∧
InB y14 l.length ∧
True ∧
((!y15.2) = false → InB ((↑s11 : Int) + (1 : Int)) l.length) ∧
(y16 = true → [] = (fEnters p l).1 ∧ false = (fEnters p l).2 ∧ True) ∧
(y16 = false →
roomFor (y12.1.length + y17.length) (8 : Nat) ∧
InR IntKind.i64 ((1 : Int) - y15.1.2) ∧
InR IntKind.i64 y18 ∧
∃ (s'19 : Nat),
(s'19 < l.length ∧ (fEnt p l (fOut0 p l) s'19).2.2 = true) ∧
l.length - s'19 < l.length - s11 ∧
(↑s'19 : Int) + (1 : Int) = y18 ∧
(fEnt p l (fOut0 p l) s'19).2.1 = (1 : Int) - y15.1.2 ∧
l = l ∧
(fEnt p l (fOut0 p l) s'19).1 = y12.1 ++ y17 ∧
keepP p (True))) ∧
(y13 = false → y12.1 = (fEnters p l).1 ∧ true = (fEnters p l).2 ∧ True))))))) := by kernel_rfl
theorem ent_false {p : PlanD} {l : List Int} {o : Int} {k : Nat} (h : (fEnt p l o k).2.2 = false) : ∀ m, k ≤ m → (fEnt p l o m).2.2 = false
 | 0, hm => by
  have : k = 0 := by omega
  rw [this] at h
  exact h
 | m + 1, hm => by
  by_cases e : k = m + 1
  ·rw [← e]; exact h
  ·have ih := ent_false h m (by omega)
   show (bif (fEnt p l o m).2.2 && _ then _ else _ : List Int × Int × Bool).2.2 = false
   rw [ih]
   rfl
theorem ent_len {p : PlanD} {l : List Int} {o : Int} : ∀ k, (fEnt p l o k).1.length ≤ k + 1
 | 0 => Nat.le_refl _
 | k + 1 => by
  have := ent_len (p := p) (l := l) (o := o) k
  show (bif (fEnt p l o k).2.2 && _ then _ else _ : List Int × Int × Bool).1.length ≤ _
  cases (fEnt p l o k).2.2 && ((entGo p l k (fEnt p l o k).2.1).2 && (entGo p l k (fEnt p l o k).2.1).1.1 == l.getD (k + 1) 0) with
  | true => rw [cond_true, List.length_append]; show _ + 1 ≤ _; omega
  | false => rw [cond_false]; show (fEnt p l o k).1.length ≤ _; omega
theorem out_range (p : PlanD) (l : List Int) (k : Nat) : -1 ≤ outAt p l k ∧ outAt p l k ≤ 1 := by
 match k with
 | 0 => show -1 ≤ (-1 : Int) ∧ (-1 : Int) ≤ 1; exact ⟨by decide, by decide⟩
 | 1 => show -1 ≤ (bif outTo p l 1 then 1 else -1 : Int) ∧ (bif outTo p l 1 then 1 else -1 : Int) ≤ 1; cases outTo p l 1 <;> exact ⟨by decide, by decide⟩
 | _ + 2 => show -1 ≤ fOut0 p l ∧ fOut0 p l ≤ 1; unfold fOut0; cases outTo p l 0 <;> cases outTo p l 1 <;> exact ⟨by decide, by decide⟩
theorem b57 (p : PlanD) (l : List Int) (hj : fJoined p = true) (hl : l.length ≤ 1000) : bodyVC (ctxOf tab [(107, c107), (106, c106)]) Tryz.f57 c57 (a57 (p, l, ())) (p, l, ()) := by
 have hE : fEnters p l = bif decide (l.length = 0) || !l.all (isTrack p) then ([], false) else bif decide (l.length = 1) then ([0], true) else bif decide (fOut0 p l < 0) then ([], false) else
  bif (fEnt p l (fOut0 p l) (l.length - 1)).2.2 then ((fEnt p l (fOut0 p l) (l.length - 1)).1, true) else ([], false) := by unfold fEnters; rfl
 rw [v57, eqN' _ 0 0 rfl, eqN' _ 1 1 rfl]
 simp only [keepP_eq, true_and, and_true, Int.toNat_natCast]
 refine ⟨fun h => ?_, fun h0 => ⟨⟨0, ⟨by omega, rfl⟩, rfl⟩, fun s => lett.mk fun y3 e3 => lett.mk fun y4 e4 => ?_⟩⟩
 ·rw [hE, h]
  exact ⟨rfl, rfl⟩
 rintro ⟨h1, h2⟩
 have h2 : (l.take s).all (isTrack p) = true := h2
 have hl0 := of_decide_eq_false h0
 have e4 : isTrack p (l.getD s 0) = !y4 := by rw [e4, bneB, Bool.not_not]; rfl
 refine ⟨fun h => ?_, fun h => ?_⟩
 ·have h := lt_of_y e3 h
  refine ⟨⟨by omega, by omega⟩, fun h4 => ?_, fun h4 => ⟨inR64 (by omega) (by omega), s + 1, ⟨by omega, ?_⟩, by omega, by omega⟩⟩
  ·rw [hE, all_no 0 h (by rw [e4, h4]; rfl), h0]
   exact ⟨rfl, rfl⟩
  ·exact all_succ 0 h h2 (by rw [e4, h4]; rfl)
 have hall := all_full (le_of_y e3 h) h2
 rw [h0, hall] at hE
 refine ⟨fun h1 => ?_, fun h1 => ⟨⟨0, by omega, rfl, rfl⟩, fun t => lett.mk fun y6 e6 => lett.mk fun y7 e7 => lett.mk fun y8 e8 => lett.mk fun y9 e9 => lett.mk fun y10 e10 => ?_⟩⟩
 ·rw [hE, h1]
  exact ⟨rfl, rfl⟩
 rw [h1] at hE
 have hl1 := of_decide_eq_false h1
 intro ht
 have hor := out_range p l t
 refine ⟨fun h6 => ?_, fun h6 => ?_⟩
 ·rw [e6] at h6
  have h6 := of_decide_eq_true h6
  refine ⟨⟨by omega, by omega⟩, fun _ => ⟨by omega, by omega⟩, inR64 (by omega) (by omega), t + 1, by omega, by omega, by omega, ?_⟩
  have hb : (bif y7.2 then y7.1.1 == l.getD (Int.toNat 1) 0 else false) = outTo p l (1 - (t : Int)) := by
   rw [e7]
   unfold outTo
   have key : ∀ a b : Bool, (bif a then b else false) = (a && b) := by decide
   exact key _ _
  rw [hb]
  have hc : t = 0 ∨ t = 1 := by omega
  rcases hc with rfl | rfl
  ·rfl
  ·show fOut0 p l = _
   unfold fOut0
   rfl
 ·rw [e6] at h6
  have h6 := of_decide_eq_false h6
  have ht2 : t = 2 := by omega
  subst ht2
  have hO : outAt p l 2 = fOut0 p l := rfl
  rw [hO] at e9 e10 hor
  refine ⟨fun h9 => ?_, fun h9 => ?_⟩
  ·rw [hE, ← e9, h9]
   exact ⟨rfl, rfl⟩
  rw [← e9, h9] at hE
  have hE : fEnters p l = bif (fEnt p l (fOut0 p l) (l.length - 1)).2.2 then ((fEnt p l (fOut0 p l) (l.length - 1)).1, true) else ([], false) := hE
  refine ⟨inR64 (by omega) (by omega), ⟨0, ⟨by omega, rfl⟩, rfl, rfl, by rw [e10]; rfl⟩, fun u => lett.mk fun y12 e12 => lett.mk fun y13 e13 => lett.mk fun y14 e14 => lett.mk fun y15 e15 => lett.mk fun y16 e16 => lett.mk fun y17 e17 => lett.mk fun y18 e18 => ?_⟩
  rintro ⟨g1, g2⟩
  have hut : ((u : Int) + 1).toNat = u + 1 := by omega
  have hu14 : y14.toNat = u := by omega
  rw [hut] at e16
  rw [hu14] at e15
  have e17 : y17 = [y15.1.2] := e17
  have hgo : fEnt p l (fOut0 p l) (u + 1) = bif !y16 then (y12.1 ++ [y15.1.2], 1 - y15.1.2, true) else (y12.1, y12.2.1, false) := by
   have hb : ((fEnt p l (fOut0 p l) u).2.2 && ((entGo p l u (fEnt p l (fOut0 p l) u).2.1).2 && (entGo p l u (fEnt p l (fOut0 p l) u).2.1).1.1 == l.getD (u + 1) 0)) = !y16 := by
    rw [e16, bneB, e15, ← e12, g2]
    unfold entGo
    have key : ∀ a b : Bool, (true && (a && b)) = !(bif !a then true else !b) := by decide
    exact key _ _
   show (bif _ then _ else _) = _
   rw [hb, ← e12, e15]
   rfl
  refine ⟨fun h13 => ?_, fun h13 => ?_⟩
  ·rw [e13] at h13
   have h13 := of_decide_eq_true h13
   refine ⟨inR64 (by omega) (by omega), ⟨by omega, by omega⟩, fun _ => ⟨by omega, by omega⟩, fun h16 => ?_, fun h16 => ?_⟩
   ·have hf : (fEnt p l (fOut0 p l) (u + 1)).2.2 = false := by rw [hgo, h16]; rfl
    rw [hE, ent_false hf (l.length - 1) (by omega)]
    exact ⟨rfl, rfl⟩
   ·have h15 : y15.2 = true := by
     rw [h16] at e16
     have := (bif_or e16.symm).1
     simpa using this
    have he : 0 ≤ y15.1.2 ∧ y15.1.2 ≤ 3 := by
     rw [e15] at h15 ⊢
     exact has_end (next_has hj h15)
    have hln := ent_len (p := p) (l := l) (o := fOut0 p l) u
    rw [← e12] at hln
    rw [h16] at hgo
    refine ⟨roomB (by rw [e17]; simp; omega) (by omega), inR64 (by omega) (by omega), inR64 (by omega) (by omega), u + 1, ⟨by omega, by rw [hgo]; rfl⟩, by omega, by omega, ?_, ?_⟩
    ·rw [hgo]; rfl
    ·rw [hgo, e17]; rfl
  ·rw [e13] at h13
   have h13 := of_decide_eq_false h13
   have hu : u = l.length - 1 := by omega
   subst hu
   rw [hE, ← e12, g2]
   exact ⟨rfl, rfl⟩
theorem ok57 : DOk Tryz.prog 57 c57 :=
 DOk.of' (l := [(107, c107), (106, c106)]) (A := a57) tabOk ⟨ok107, ok106, trivial⟩ Tryz.func57 (by kernel_rfl) (by kernel_rfl) fun x hw hp => b57 x.1 x.2.1 hp.1 hp.2
theorem v74 (p : PlanD) : bodyVC (ctxOf tab [(16, c16), (57, c57)]) Tryz.f74 c74 (a74 (p, ())) (p, ()) = (
(∃ (s01 : Nat),
(s01 ≤ p.2.2.2.1.length ∧ allOf (lineOk p) s01) ∧
(↑s01 : Int) = (0 : Int) ∧
metBy p s01 = [] ∧
keepP p (True)) ∧
∀ (s1 : Nat),
lett (decide ((↑s1 : Int) < (↑p.2.2.2.1.length : Int))) fun (y2 : Bool) =>
lett (p.2.2.2.1.getD (↑s1 : Int).toNat zL).2 fun (y3 : List Int) =>
lett (p.2.2.2.1.getD (↑s1 : Int).toNat ([], [])).2 fun (y4 : List Int) =>
s1 ≤ p.2.2.2.1.length ∧ allOf (lineOk p) s1 →
(y2 = true →
InB (↑s1 : Int) p.2.2.2.1.length ∧
(∃ (s05 : Nat),
(s05 ≤ y3.length ∧ allOf (lineNew p (↑s1 : Int).toNat) s05) ∧
(↑s05 : Int) = (0 : Int) ∧
(↑s1 : Int) = (↑s1 : Int) ∧
y4 = y4 ∧
metBy p (↑s1 : Int).toNat ++ List.take s05 y3 = metBy p s1 ∧
keepP p (True)) ∧
∀ (s5 : Nat),
lett (decide ((↑s5 : Int) < (↑y4.length : Int))) fun (y6 : Bool) =>
lett (metBy p (↑s1 : Int).toNat ++ List.take s5 y3) fun (y7 : List Int) =>
lett (y4.getD (↑s5 : Int).toNat (0 : Int)) fun (y8 : Int) =>
lett ((List.replicate (1 : Nat) (0 : Int)).set (0 : Nat) y8) fun (y9 : List Int) =>
s5 ≤ y3.length ∧ allOf (lineNew p (↑s1 : Int).toNat) s5 →
(y6 = true →
InB (↑s5 : Int) y4.length ∧
True ∧
(fMem y7 y8 = true → false = fLines p ∧ True) ∧
(fMem y7 y8 = false →
InB (↑s5 : Int) y4.length ∧
roomFor (y7.length + y9.length) (8 : Nat) ∧
InR IntKind.i64 ((↑s5 : Int) + (1 : Int)) ∧
∃ (s'10 : Nat),
(s'10 ≤ y3.length ∧ allOf (lineNew p (↑s1 : Int).toNat) s'10) ∧
y3.length - s'10 < y3.length - s5 ∧
(↑s'10 : Int) = (↑s5 : Int) + (1 : Int) ∧
(↑s1 : Int) = (↑s1 : Int) ∧
y4 = y4 ∧
metBy p (↑s1 : Int).toNat ++ List.take s'10 y3 = y7 ++ y9 ∧
keepP p (True))) ∧
(y6 = false →
(fJoined p = true ∧ y4.length ≤ (1000 : Nat)) ∧
((!(fEnters p y4).2) = true → false = fLines p ∧ True) ∧
((!(fEnters p y4).2) = false →
InR IntKind.i64 ((↑s1 : Int) + (1 : Int)) ∧
∃ (s'10 : Nat),
(s'10 ≤ p.2.2.2.1.length ∧ allOf (lineOk p) s'10) ∧
p.2.2.2.1.length - s'10 < p.2.2.2.1.length - s1 ∧
(↑s'10 : Int) = (↑s1 : Int) + (1 : Int) ∧
metBy p s'10 = y7 ∧
keepP p (True)))) ∧
(y2 = false → true = fLines p ∧ True)) := by kernel_rfl
theorem met_len {p : PlanD} (hs : shortLines p) : ∀ i, (metBy p i).length ≤ i * 1000
 | 0 => Nat.le_refl _
 | i + 1 => by
  have ih := met_len hs i
  by_cases h : i < p.2.2.2.1.length
  ·have := hs _ (mem_getD zL h)
   show ((p.2.2.2.1.take (i + 1)).flatMap fun l => l.2).length ≤ _
   rw [flat_succ _ zL h, List.length_append]
   show (metBy p i).length + _ ≤ _
   omega
  ·have e : metBy p (i + 1) = metBy p i := by
    unfold metBy
    rw [List.take_of_length_le (by omega), List.take_of_length_le (by omega)]
   rw [e]
   omega
theorem b74 (p : PlanD) (hj : fJoined p = true) (hs : shortLines p) (hl : p.2.2.2.1.length ≤ 1000) : bodyVC (ctxOf tab [(16, c16), (57, c57)]) Tryz.f74 c74 (a74 (p, ())) (p, ()) := by
 have hF : fLines p = allTo (lineOk p) p.2.2.2.1.length := by unfold fLines; rfl
 rw [v74, hF]
 simp only [keepP_eq, true_and, and_true, Int.toNat_natCast]
 refine ⟨⟨0, ⟨by omega, rfl⟩, rfl, rfl⟩, fun s => lett.mk fun y2 e2 => lett.mk fun y3 e3 => lett.mk fun y4 e4 => ?_⟩
 rintro ⟨h1, h2⟩
 have h2 : allTo (lineOk p) s = true := h2
 have e4 : y4 = y3 := by rw [e4, e3]; rfl
 subst e4
 refine ⟨fun h => ?_, fun h => ?_⟩
 ·have h := lt_of_y e2 h
  have hsh : y4.length ≤ 1000 := by rw [e3]; exact hs _ (mem_getD zL h)
  have hml := met_len hs s
  refine ⟨⟨by omega, by omega⟩, ⟨0, ⟨by omega, rfl⟩, rfl, by simp⟩, fun t => lett.mk fun y6 e6 => lett.mk fun y7 e7 => lett.mk fun y8 e8 => lett.mk fun y9 e9 => ?_⟩
  rintro ⟨g1, g2⟩
  have g2 : allTo (lineNew p s) t = true := g2
  have e9 : y9 = [y8] := e9
  have hN : lineNew p s t = !fMem y7 y8 := by rw [e7, e8, e3]; rfl
  refine ⟨fun ht => ?_, fun ht => ?_⟩
  ·have ht := lt_of_y e6 ht
   refine ⟨⟨by omega, by omega⟩, fun hm => ?_, fun hm => ⟨⟨by omega, by omega⟩, roomB (by rw [e7, e9, List.length_append, List.length_take]; simp; omega) (by omega), inR64 (by omega) (by omega), t + 1, ⟨by omega, ?_⟩, by omega, by omega, ?_⟩⟩
   ·refine (allTo_no h ?_).symm
    unfold lineOk
    rw [← e3, allTo_no ht (by rw [hN, hm]; rfl)]
    rfl
   ·exact allTo_succ g2 (by rw [hN, hm]; rfl)
   ·rw [take_succ' 0 ht, ← List.append_assoc, ← e7, e9, e8]
  ·have hle := le_of_y e6 ht
   have hte : t = y4.length := by omega
   have hall : allTo (lineNew p s) (p.2.2.2.1.getD s zL).2.length = true := by rw [← e3, ← hte]; exact g2
   refine ⟨⟨hj, hsh⟩, fun hb => ?_, fun hb => ⟨inR64 (by omega) (by omega), s + 1, ⟨by omega, ?_⟩, by omega, by omega, ?_⟩⟩
   ·refine (allTo_no h ?_).symm
    unfold lineOk
    simp only [Bool.not_eq_true'] at hb
    rw [← e3, hb, Bool.and_false]
   ·refine allTo_succ h2 ?_
    unfold lineOk
    simp only [Bool.not_eq_false'] at hb
    rw [hall, ← e3, hb]
    rfl
   ·show ((p.2.2.2.1.take (s + 1)).flatMap fun l => l.2) = _
    have ht2 : y4.take t = y4 := List.take_of_length_le hle
    rw [flat_succ _ zL h, e7, ht2, e3]
    rfl
 ·have hle := le_of_y e2 h
  have : s = p.2.2.2.1.length := by omega
  subst this
  exact h2.symm
theorem ok74 : DOk Tryz.prog 74 c74 :=
 DOk.of' (l := [(16, c16), (57, c57)]) (A := a74) tabOk ⟨ok16, ok57, trivial⟩ Tryz.func74 (by kernel_rfl) (by kernel_rfl) fun x hw hp => b74 x.1 hp.1 hp.2.1 hp.2.2
theorem v75 (p : PlanD) : bodyVC (ctxOf tab [(121, c121), (106, c106), (122, c122)]) Tryz.f75 c75 (a75 (p, ())) (p, ()) = (
lett (p.2.2.2.2.1 + fStop p.2.2.2.2.1 p.2.2.2.2.2.1) fun (y1 : Int) =>
lett (decide (p.2.2.2.2.2.2.1 < y1)) fun (y2 : Bool) =>
True ∧
InR IntKind.i64 y1 ∧
(y2 = true → false = fLong p ∧ True) ∧
(y2 = false →
(∃ (s03 : Nat),
(s03 ≤ p.2.2.1.length ∧ allT (sigLong p) p.2.2.1 s03) ∧
(↑s03 : Int) = (0 : Int) ∧
keepP p (True)) ∧
∀ (s3 : Nat),
lett (decide ((↑s3 : Int) < (↑p.2.2.1.length : Int))) fun (y4 : Bool) =>
lett (p.2.2.1.getD (↑s3 : Int).toNat ([], ((0 : Int), (0 : Int)), false)).2.1.1 fun (y5 : Int) =>
lett (bif fKind p y5 == (1 : Int) then decide (fLength p y5 < p.2.2.2.2.2.2.1) else false) fun (y6 : Bool) =>
s3 ≤ p.2.2.1.length ∧ allT (sigLong p) p.2.2.1 s3 →
(y4 = true →
InB (↑s3 : Int) p.2.2.1.length ∧
True ∧
((fKind p y5 == (1 : Int)) = true → True) ∧
(y6 = true → false = fLong p ∧ True) ∧
(y6 = false →
InR IntKind.i64 ((↑s3 : Int) + (1 : Int)) ∧
∃ (s'7 : Nat),
(s'7 ≤ p.2.2.1.length ∧ allT (sigLong p) p.2.2.1 s'7) ∧
p.2.2.1.length - s'7 < p.2.2.1.length - s3 ∧
(↑s'7 : Int) = (↑s3 : Int) + (1 : Int) ∧
keepP p (True))) ∧
(y4 = false →
(∃ (s07 : Nat),
(s07 ≤ p.1.length ∧ allT (elemLong p) p.1 s07) ∧
(↑s07 : Int) = (0 : Int) ∧
keepP p (True)) ∧
∀ (s7 : Nat),
lett (decide ((↑s7 : Int) < (↑p.1.length : Int))) fun (y8 : Bool) =>
lett (p.1.getD (↑s7 : Int).toNat ([], (0 : Int), (0 : Int))).2 fun (y9 : Int × Int) =>
lett (bif y9.1 != (4 : Int) then decide (y9.2 < p.2.2.2.2.1) else false) fun (y10 : Bool) =>
s7 ≤ p.1.length ∧ allT (elemLong p) p.1 s7 →
(y8 = true →
InB (↑s7 : Int) p.1.length ∧
((y9.1 != (4 : Int)) = true → InB (↑s7 : Int) p.1.length) ∧
(y10 = true → false = fLong p ∧ True) ∧
(y10 = false →
InR IntKind.i64 ((↑s7 : Int) + (1 : Int)) ∧
∃ (s'11 : Nat),
(s'11 ≤ p.1.length ∧ allT (elemLong p) p.1 s'11) ∧
p.1.length - s'11 < p.1.length - s7 ∧
(↑s'11 : Int) = (↑s7 : Int) + (1 : Int) ∧
keepP p (True))) ∧
(y8 = false → true = fLong p ∧ True)))) := by kernel_rfl
theorem nums_facts {p : PlanD} (h : fNums p = true) : (1 ≤ p.2.2.2.2.1 ∧ p.2.2.2.2.1 ≤ 60) ∧ (1 ≤ p.2.2.2.2.2.1 ∧ p.2.2.2.2.2.1 ≤ 10) ∧ (1 ≤ p.2.2.2.2.2.2.1 ∧ p.2.2.2.2.2.2.1 ≤ 4000) := by
 unfold fNums fIn at h
 simp only [Bool.and_eq_true] at h
 obtain ⟨⟨h1, h2⟩, ⟨h3, h4⟩, ⟨h5, h6⟩, _⟩ := h
 exact ⟨⟨of_decide_eq_true h1, of_decide_eq_true h2⟩, ⟨of_decide_eq_true h3, of_decide_eq_true h4⟩, of_decide_eq_true h5, of_decide_eq_true h6⟩
theorem b75 (p : PlanD) (hn : fNums p = true) (hw : planWf p) : bodyVC (ctxOf tab [(121, c121), (106, c106), (122, c122)]) Tryz.f75 c75 (a75 (p, ())) (p, ()) := by
 have hL : fLong p = (!decide (p.2.2.2.2.2.2.1 < p.2.2.2.2.1 + fStop p.2.2.2.2.1 p.2.2.2.2.2.1) && (p.2.2.1.all (sigLong p) && p.1.all (elemLong p))) := by unfold fLong; rfl
 obtain ⟨n1, n2, n3⟩ := nums_facts hn
 have hst := fStop_range p.2.2.2.2.1 p.2.2.2.2.2.1
 rw [v75, hL]
 refine lett.mk fun y1 e1 => lett.mk fun y2 e2 => ?_
 rw [← e1, ← e2]
 simp only [keepP_eq, true_and, and_true, Int.toNat_natCast]
 refine ⟨inR64 (by omega) (by omega), fun h => by rw [h]; rfl, fun h => ?_⟩
 rw [h, Bool.not_false, Bool.true_and]
 refine ⟨⟨0, ⟨by omega, rfl⟩, rfl⟩, fun s => lett.mk fun y4 e4 => lett.mk fun y5 e5 => lett.mk fun y6 e6 => ?_⟩
 rintro ⟨h1, h2⟩
 have h2 : (p.2.2.1.take s).all (sigLong p) = true := h2
 have hS : sigLong p (p.2.2.1.getD s zS) = !y6 := by
  have e5 : y5 = (p.2.2.1.getD s zS).2.1.1 := e5
  rw [e6]
  unfold sigLong
  rw [← e5]
  have key : ∀ a b : Bool, (!(a && b)) = !(bif a then b else false) := by decide
  exact key _ _
 refine ⟨fun h => ?_, fun h => ?_⟩
 ·have h := lt_of_y e4 h
  refine ⟨⟨by omega, by omega⟩, fun _ => trivial, fun h6 => ?_, fun h6 => ⟨inRlen h hw.2.2.1, s + 1, ⟨by omega, ?_⟩, by omega, by omega⟩⟩
  ·rw [all_no zS h (by rw [hS, h6]; rfl)]
   rfl
  ·exact all_succ zS h h2 (by rw [hS, h6]; rfl)
 rw [all_full (le_of_y e4 h) h2, Bool.true_and]
 refine ⟨⟨0, ⟨by omega, rfl⟩, rfl⟩, fun u => lett.mk fun y8 e8 => lett.mk fun y9 e9 => lett.mk fun y10 e10 => ?_⟩
 rintro ⟨g1, g2⟩
 have g2 : (p.1.take u).all (elemLong p) = true := g2
 have hS : elemLong p (p.1.getD u zE) = !y10 := by
  have e9 : y9 = (p.1.getD u zE).2 := e9
  rw [e10, bneB]
  unfold elemLong
  rw [← e9]
  have key : ∀ a b : Bool, (!(!a && b)) = !(bif !a then b else false) := by decide
  exact key _ _
 refine ⟨fun h => ?_, fun h => ?_⟩
 ·have h := lt_of_y e8 h
  refine ⟨⟨by omega, by omega⟩, fun _ => ⟨by omega, by omega⟩, fun h6 => ?_, fun h6 => ⟨inRlen h hw.1, u + 1, ⟨by omega, ?_⟩, by omega, by omega⟩⟩
  ·rw [all_no zE h (by rw [hS, h6]; rfl)]
  ·exact all_succ zE h g2 (by rw [hS, h6]; rfl)
 rw [all_full (le_of_y e8 h) g2]
theorem ok75 : DOk Tryz.prog 75 c75 :=
 DOk.of' (l := [(121, c121), (106, c106), (122, c122)]) (A := a75) tabOk ⟨ok121, ok106, ok122, trivial⟩ Tryz.func75 (by kernel_rfl) (by kernel_rfl) fun x hw hp => b75 x.1 hp (plan_wf hw.1)
theorem v45 (p : PlanD) : bodyVC (ctxOf tab [(69, c69), (70, c70), (71, c71), (72, c72), (73, c73), (74, c74), (75, c75)]) Tryz.f45 c45 noAnn (p, ()) = (
lett
(bif bif bif decide ((↑p.1.length : Int) > (40 : Int)) then true else decide ((↑p.2.2.1.length : Int) > (24 : Int)) then true else decide ((↑p.2.2.2.1.length : Int) > (4 : Int)) then
true
else decide ((↑p.2.1.length : Int) > (80 : Int)))
fun (y1 : Bool) =>
lett (fTwice (List.map (fun (e : ElemD) => e.1) p.1)) fun (y2 : Bool) =>
lett (bif y2 then true else fTwice (List.map (fun (s : SignalD) => s.1) p.2.2.1)) fun (y3 : Bool) =>
lett (bif y3 then true else fTwice (List.map (fun (l : LineD) => l.1) p.2.2.2.1)) fun (y4 : Bool) =>
(y1 = true → (3 : Int) = fCheck p ∧ True) ∧
(y1 = false →
namesPre p ∧
True ∧
((!fArgs p) = true → (1 : Int) = fCheck p ∧ True) ∧
((!fArgs p) = false →
True ∧
(y2 = false → True) ∧
(y3 = false → True) ∧
(y4 = true → (4 : Int) = fCheck p ∧ True) ∧
(y4 = false →
p.2.1.length ≤ (1000 : Nat) ∧
((!fJoined p) = true → (6 : Int) = fCheck p ∧ True) ∧
((!fJoined p) = false →
True ∧
((!fSignals p) = true → (7 : Int) = fCheck p ∧ True) ∧
((!fSignals p) = false →
(fJoined p = true ∧ shortLines p ∧ p.2.2.2.1.length ≤ (1000 : Nat)) ∧
((!fLines p) = true → (8 : Int) = fCheck p ∧ True) ∧
((!fLines p) = false → fNums p = true ∧ ((!fLong p) = true → (9 : Int) = fCheck p ∧ True) ∧ ((!fLong p) = false → (0 : Int) = fCheck p ∧ True)))))))) := by kernel_rfl
theorem b45 (p : PlanD) (hp : shortLines p) : bodyVC (ctxOf tab [(69, c69), (70, c70), (71, c71), (72, c72), (73, c73), (74, c74), (75, c75)]) Tryz.f45 c45 noAnn (p, ()) := by
 rw [v45]
 refine lett.mk fun y1 e1 => lett.mk fun y2 e2 => lett.mk fun y3 e3 => lett.mk fun y4 e4 => ?_
 have hz : fSizes p = !y1 := by
  rw [e1, gtN _ 40 40 rfl, gtN _ 24 24 rfl, gtN _ 4 4 rfl, gtN _ 80 80 rfl]
  unfold fSizes
  have key : ∀ a b c d : Bool, (a && (b && (c && d))) = !(bif (bif (bif !a then true else !b) then true else !c) then true else !d) := by decide
  exact key _ _ _ _
 have hC : fCheck p = bif y1 then 3 else bif !fArgs p then 1 else bif y4 then 4 else
   bif !fJoined p then 6 else bif !fSignals p then 7 else bif !fLines p then 8 else bif !fLong p then 9 else 0 := by
  have h4 : (fTwice (p.1.map fun e => e.1) || (fTwice (p.2.2.1.map fun s => s.1) || fTwice (p.2.2.2.1.map fun l => l.1))) = y4 := by
   rw [e4, e3, e2]
   have key : ∀ a b c : Bool, (a || (b || c)) = (bif (bif a then true else b) then true else c) := by decide
   exact key _ _ _
  unfold fCheck
  rw [hz, Bool.not_not, h4]
 rw [hC]
 refine ⟨fun h => by rw [h]; exact ⟨rfl, trivial⟩, fun h => ?_⟩
 have hsz : fSizes p = true := by rw [hz, h]; rfl
 unfold fSizes at hsz
 simp only [Bool.and_eq_true] at hsz
 obtain ⟨z1, z2, z3, z4⟩ := hsz
 have z1 := of_decide_eq_true z1
 have z2 := of_decide_eq_true z2
 have z3 := of_decide_eq_true z3
 have z4 := of_decide_eq_true z4
 rw [h]
 refine ⟨⟨by omega, by omega, by omega⟩, trivial, fun ha => by rw [ha]; exact ⟨rfl, trivial⟩, fun ha => ?_⟩
 rw [ha]
 refine ⟨trivial, fun _ => trivial, fun _ => trivial, fun h4 => by rw [h4]; exact ⟨rfl, trivial⟩, fun h4 => ?_⟩
 rw [h4]
 refine ⟨by omega, fun hj => by rw [hj]; exact ⟨rfl, trivial⟩, fun hj => ?_⟩
 rw [hj]
 have hj' : fJoined p = true := by simpa using hj
 refine ⟨trivial, fun hs => by rw [hs]; exact ⟨rfl, trivial⟩, fun hs => ?_⟩
 rw [hs]
 refine ⟨⟨hj', hp, by omega⟩, fun hl => by rw [hl]; exact ⟨rfl, trivial⟩, fun hl => ?_⟩
 rw [hl]
 have ha' : fArgs p = true := by simpa using ha
 refine ⟨args_nums ha', fun hg => by rw [hg]; exact ⟨rfl, trivial⟩, fun hg => by rw [hg]; exact ⟨rfl, trivial⟩⟩
theorem ok45 : DOk Tryz.prog 45 c45 :=
 DOk.of' (l := [(69, c69), (70, c70), (71, c71), (72, c72), (73, c73), (74, c74), (75, c75)]) (A := fun _ => noAnn) tabOk ⟨ok69, ok70, ok71, ok72, ok73, ok74, ok75, trivial⟩ Tryz.func45 (by kernel_rfl) (by kernel_rfl) fun x hw hp => b45 x.1 hp
theorem v50 (p : PlanD) : bodyVC (ctxOf tab []) Tryz.f50 c50 (a50 (p, ())) (p, ()) = (
lett
(bif bif bif decide ((↑p.1.length : Int) > (60 : Int)) then true else decide ((↑p.2.1.length : Int) > (120 : Int)) then true else decide ((↑p.2.2.1.length : Int) > (60 : Int)) then true
else decide ((↑p.2.2.2.1.length : Int) > (20 : Int)))
fun (y1 : Bool) =>
(y1 = true → false = fFew p ∧ True) ∧
(y1 = false →
(∃ (s02 : Nat),
(s02 ≤ p.2.2.2.1.length ∧ allT fewLine p.2.2.2.1 s02) ∧
(↑s02 : Int) = (0 : Int) ∧
keepP p (True)) ∧
∀ (s2 : Nat),
lett (decide ((↑s2 : Int) < (↑p.2.2.2.1.length : Int))) fun (y3 : Bool) =>
lett (p.2.2.2.1.getD (↑s2 : Int).toNat ([], [])) fun (y4 : List UInt8 × List Int) =>
lett (decide ((↑y4.2.length : Int) > (60 : Int))) fun (y5 : Bool) =>
lett (bif y5 then true else decide ((↑y4.1.length : Int) > (100 : Int))) fun (y6 : Bool) =>
s2 ≤ p.2.2.2.1.length ∧ allT fewLine p.2.2.2.1 s2 →
(y3 = true →
InB (↑s2 : Int) p.2.2.2.1.length ∧
(y5 = false → InB (↑s2 : Int) p.2.2.2.1.length) ∧
(y6 = true → false = fFew p ∧ True) ∧
(y6 = false →
InR IntKind.i64 ((↑s2 : Int) + (1 : Int)) ∧
∃ (s'7 : Nat),
(s'7 ≤ p.2.2.2.1.length ∧ allT fewLine p.2.2.2.1 s'7) ∧
p.2.2.2.1.length - s'7 < p.2.2.2.1.length - s2 ∧
(↑s'7 : Int) = (↑s2 : Int) + (1 : Int) ∧
keepP p (True))) ∧
(y3 = false →
(∃ (s07 : Nat),
(s07 ≤ p.1.length ∧ allT fewElem p.1 s07) ∧
(↑s07 : Int) = (0 : Int) ∧
keepP p (True)) ∧
∀ (s7 : Nat),
lett (decide ((↑s7 : Int) < (↑p.1.length : Int))) fun (y8 : Bool) =>
lett (decide ((↑(p.1.getD (↑s7 : Int).toNat ([], (0 : Int), (0 : Int))).1.length : Int) > (100 : Int))) fun (y9 : Bool) =>
s7 ≤ p.1.length ∧ allT fewElem p.1 s7 →
(y8 = true →
InB (↑s7 : Int) p.1.length ∧
(y9 = true → false = fFew p ∧ True) ∧
(y9 = false →
InR IntKind.i64 ((↑s7 : Int) + (1 : Int)) ∧
∃ (s'10 : Nat),
(s'10 ≤ p.1.length ∧ allT fewElem p.1 s'10) ∧
p.1.length - s'10 < p.1.length - s7 ∧
(↑s'10 : Int) = (↑s7 : Int) + (1 : Int) ∧
keepP p (True))) ∧
(y8 = false →
(∃ (s010 : Nat),
(s010 ≤ p.2.2.1.length ∧ allT fewSig p.2.2.1 s010) ∧
(↑s010 : Int) = (0 : Int) ∧
keepP p (True)) ∧
∀ (s10 : Nat),
lett (decide ((↑s10 : Int) < (↑p.2.2.1.length : Int))) fun (y11 : Bool) =>
lett (decide ((↑(p.2.2.1.getD (↑s10 : Int).toNat ([], ((0 : Int), (0 : Int)), false)).1.length : Int) > (100 : Int))) fun (y12 : Bool) =>
s10 ≤ p.2.2.1.length ∧ allT fewSig p.2.2.1 s10 →
(y11 = true →
InB (↑s10 : Int) p.2.2.1.length ∧
(y12 = true → false = fFew p ∧ True) ∧
(y12 = false →
InR IntKind.i64 ((↑s10 : Int) + (1 : Int)) ∧
∃ (s'13 : Nat),
(s'13 ≤ p.2.2.1.length ∧ allT fewSig p.2.2.1 s'13) ∧
p.2.2.1.length - s'13 < p.2.2.1.length - s10 ∧
(↑s'13 : Int) = (↑s10 : Int) + (1 : Int) ∧
keepP p (True))) ∧
(y11 = false → true = fFew p ∧ True))))) := by kernel_rfl
theorem b50 (p : PlanD) (hw : planWf p) : bodyVC (ctxOf tab []) Tryz.f50 c50 (a50 (p, ())) (p, ()) := by
 have hF : fFew p = (decide (p.1.length ≤ 60) && (decide (p.2.1.length ≤ 120) && (decide (p.2.2.1.length ≤ 60) && (decide (p.2.2.2.1.length ≤ 20) && (p.2.2.2.1.all fewLine && (p.1.all fewElem && p.2.2.1.all fewSig)))))) := by unfold fFew; rfl
 rw [v50]
 refine lett.mk fun y1 e1 => ?_
 rw [gtN _ 60 60 rfl, gtN _ 120 120 rfl, gtN _ 60 60 rfl, gtN _ 20 20 rfl] at e1
 have hF : fFew p = (!y1 && (p.2.2.2.1.all fewLine && (p.1.all fewElem && p.2.2.1.all fewSig))) := by
  rw [hF, e1]
  have key : ∀ a b c d e : Bool, (a && (b && (c && (d && e)))) = (!(bif (bif (bif !a then true else !b) then true else !c) then true else !d) && e) := by decide
  exact key _ _ _ _ _
 rw [hF]
 simp only [keepP_eq, true_and, and_true, Int.toNat_natCast]
 refine ⟨fun h => by rw [h]; rfl, fun h => ?_⟩
 rw [h, Bool.not_false, Bool.true_and]
 refine ⟨⟨0, ⟨by omega, rfl⟩, rfl⟩, fun s => lett.mk fun y3 e3 => lett.mk fun y4 e4 => lett.mk fun y5 e5 => lett.mk fun y6 e6 => ?_⟩
 rintro ⟨h1, h2⟩
 have h2 : (p.2.2.2.1.take s).all fewLine = true := h2
 have hS : fewLine (p.2.2.2.1.getD s zL) = !y6 := by
  have e4 : y4 = p.2.2.2.1.getD s zL := e4
  rw [e6, e5, gtN _ 60 60 rfl, gtN _ 100 100 rfl]
  unfold fewLine
  rw [← e4]
  have key : ∀ a b : Bool, (a && b) = !(bif !a then true else !b) := by decide
  exact key _ _
 refine ⟨fun h => ?_, fun h => ?_⟩
 ·have h := lt_of_y e3 h
  refine ⟨⟨by omega, by omega⟩, fun _ => ⟨by omega, by omega⟩, fun h6 => ?_, fun h6 => ⟨inRlen h hw.2.2.2, s + 1, ⟨by omega, ?_⟩, by omega, by omega⟩⟩
  ·rw [all_no zL h (by rw [hS, h6]; rfl)]
   rfl
  ·exact all_succ zL h h2 (by rw [hS, h6]; rfl)
 rw [all_full (le_of_y e3 h) h2, Bool.true_and]
 refine ⟨⟨0, ⟨by omega, rfl⟩, rfl⟩, fun t => lett.mk fun y8 e8 => lett.mk fun y9 e9 => ?_⟩
 rintro ⟨h1, h2⟩
 have h2 : (p.1.take t).all fewElem = true := h2
 have hS : fewElem (p.1.getD t zE) = !y9 := by
  rw [e9, gtN _ 100 100 rfl, Bool.not_not]
  rfl
 refine ⟨fun h => ?_, fun h => ?_⟩
 ·have h := lt_of_y e8 h
  refine ⟨⟨by omega, by omega⟩, fun h6 => ?_, fun h6 => ⟨inRlen h hw.1, t + 1, ⟨by omega, ?_⟩, by omega, by omega⟩⟩
  ·rw [all_no zE h (by rw [hS, h6]; rfl)]
   rfl
  ·exact all_succ zE h h2 (by rw [hS, h6]; rfl)
 rw [all_full (le_of_y e8 h) h2, Bool.true_and]
 refine ⟨⟨0, ⟨by omega, rfl⟩, rfl⟩, fun u => lett.mk fun y11 e11 => lett.mk fun y12 e12 => ?_⟩
 rintro ⟨h1, h2⟩
 have h2 : (p.2.2.1.take u).all fewSig = true := h2
 have hS : fewSig (p.2.2.1.getD u zS) = !y12 := by
  rw [e12, gtN _ 100 100 rfl, Bool.not_not]
  rfl
 refine ⟨fun h => ?_, fun h => ?_⟩
 ·have h := lt_of_y e11 h
  refine ⟨⟨by omega, by omega⟩, fun h6 => ?_, fun h6 => ⟨inRlen h hw.2.2.1, u + 1, ⟨by omega, ?_⟩, by omega, by omega⟩⟩
  ·rw [all_no zS h (by rw [hS, h6]; rfl)]
  ·exact all_succ zS h h2 (by rw [hS, h6]; rfl)
 rw [all_full (le_of_y e11 h) h2]
theorem ok50 : DOk Tryz.prog 50 c50 :=
 DOk.of' (l := []) (A := a50) tabOk trivial Tryz.func50 (by kernel_rfl) (by kernel_rfl) fun x hw hp => b50 x.1 (plan_wf hw.1)
theorem few_lines {p : PlanD} (h : fFew p = true) : shortLines p := by
 unfold fFew at h
 simp only [Bool.and_eq_true, List.all_eq_true] at h
 intro l hl
 have := of_decide_eq_true (h.2.2.2.2.1 l hl).1
 omega
theorem v25 (p : PlanD) : bodyVC (ctxOf tab [(50, c50), (45, c45)]) Tryz.f25 c25 noAnn (p, ()) = (
True ∧ (fFew p = true → shortLines p) ∧ (bif fFew p then fCheck p == (0 : Int) else false) = fFine p ∧ True) := by kernel_rfl
theorem ok25 : DOk Tryz.prog 25 c25 :=
 DOk.of' (l := [(50, c50), (45, c45)]) (A := fun _ => noAnn) tabOk ⟨ok50, ok45, trivial⟩ Tryz.func25 (by kernel_rfl) (by kernel_rfl) fun x hw hp => by
  obtain ⟨p, ⟨⟩⟩ := x
  rw [v25]
  refine ⟨trivial, fun h => few_lines h, ?_, trivial⟩
  unfold fFine
  have key : ∀ a b : Bool, (bif a then b else false) = (a && b) := by decide
  exact key _ _
end YtpnnfimacblhgaaGreat
end Go.Proofs
end
