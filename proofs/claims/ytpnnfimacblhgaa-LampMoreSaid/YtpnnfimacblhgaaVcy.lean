/-
  Contracts over owned data, and how one is used at a call.
-/
import Derived.Test.YtpnnfimacblhgaaVcv
set_option linter.unusedVariables false
set_option linter.unusedSimpArgs false
namespace Go.Vc
open Go

variable {P : Program} {X : Ctx} {w0 : World} {foot : Foot} {base : Mem} {S T : St} {E : Env} {a : Act} {w : World} {ctx : Tags}

/-! ### Owned data with another content -/

def oReopen : (o : OTy) → Bool → o.den → IT → Nat → List C × List (Nat × Blk) × IT × Nat
  | .row e t, top, xs, it, n => (match top, it with
    | true, .row (some m) => ([.row t m], [(m, .row false e t xs)], .row (some m), n)
    | _, _ => oOpen (.row e t) xs n)
  | .cells fx o, top, x, it, n => (match fx || top, it with
    | true, .cells m t => let r := oReopen o false x t n; ([.ptr m 0], (m, .cells r.1) :: r.2.1, .cells m r.2.2.1, r.2.2.2)
    | _, _ => oOpen (.cells fx o) x n)
  | .mclo k o, _, x, it, n => let r := oReopen o false x it n; ([.mclo k (bptrs r.1)], r.2)
  | .pair a b, _, x, it, n => (match it with
    | .pair s t => let r := oReopen a false x.1 s n; let q := oReopen b false x.2 t r.2.2.2; (r.1 ++ q.1, r.2.1 ++ q.2.1, .pair r.2.2.1 q.2.2.1, q.2.2.2)
    | _ => oOpen (.pair a b) x n)
  | o, _, x, _, n => oOpen o x n

def Fits : IT → PT → Prop
  | .nil, .nil => True
  | .row (some _), .row _ => True
  | .cells _ t, .cells _ q => Fits t q
  | .pair a b, .pair p q => Fits a p ∧ Fits b q
  | _, _ => False

def bindPT : IT → PT → List (Nat × Place)
  | .row (some n), .row p => [(n, p)]
  | .cells n t, .cells p q => (n, p) :: bindPT t q
  | .pair a b, .pair p q => bindPT a p ++ bindPT b q
  | _, _ => []

theorem bindPT_keys : ∀ {t : IT} {q : PT}, Fits t q → (bindPT t q).map (·.1) = t.ids ∧ (bindPT t q).map (·.2) = q.list
  | .nil, .nil, _ => ⟨rfl, rfl⟩
  | .row (some n), .row p, _ => ⟨rfl, rfl⟩
  | .cells n t, .cells p q, h => by obtain ⟨h1, h2⟩ := bindPT_keys (t := t) (q := q) h; simp [bindPT, IT.ids, PT.list, h1, h2]
  | .pair a b, .pair p q, h => by
    obtain ⟨h1, h2⟩ := bindPT_keys h.1
    obtain ⟨h3, h4⟩ := bindPT_keys h.2
    simp [bindPT, IT.ids, PT.list, h1, h2, h3, h4]
  | .row none, _, h => by cases h
  | .nil, .row _, h => by cases h
  | .nil, .cells _ _, h => by cases h
  | .nil, .pair _ _, h => by cases h
  | .row (some _), .nil, h => by cases h
  | .row (some _), .cells _ _, h => by cases h
  | .row (some _), .pair _ _, h => by cases h
  | .cells _ _, .nil, h => by cases h
  | .cells _ _, .row _, h => by cases h
  | .cells _ _, .pair _ _, h => by cases h
  | .pair _ _, .nil, h => by cases h
  | .pair _ _, .row _, h => by cases h
  | .pair _ _, .cells _ _, h => by cases h

theorem bindPT_at : ∀ {t : IT} {q : PT}, Fits t q → (∀ i p, (i, p) ∈ bindPT t q → E.place i = some p) → ITAt E t q
  | .nil, .nil, _, _ => trivial
  | .row (some n), .row p, _, h => h n p (by simp [bindPT])
  | .cells n t, .cells p q, hf, h => ⟨h n p (by simp [bindPT]), bindPT_at hf fun i p' hi => h i p' (by simp [bindPT, hi])⟩
  | .pair a b, .pair p q, hf, h => ⟨bindPT_at hf.1 fun i p' hi => h i p' (by simp [bindPT, hi]), bindPT_at hf.2 fun i p' hi => h i p' (by simp [bindPT, hi])⟩
  | .row none, _, h, _ => by cases h
  | .nil, .row _, h, _ => by cases h
  | .nil, .cells _ _, h, _ => by cases h
  | .nil, .pair _ _, h, _ => by cases h
  | .row (some _), .nil, h, _ => by cases h
  | .row (some _), .cells _ _, h, _ => by cases h
  | .row (some _), .pair _ _, h, _ => by cases h
  | .cells _ _, .nil, h, _ => by cases h
  | .cells _ _, .row _, h, _ => by cases h
  | .cells _ _, .pair _ _, h, _ => by cases h
  | .pair _ _, .nil, h, _ => by cases h
  | .pair _ _, .row _, h, _ => by cases h
  | .pair _ _, .cells _ _, h, _ => by cases h

theorem find_nodup {α : Type} : ∀ {l : List (Nat × α)} {i : Nat} {x : α}, (l.map (·.1)).Nodup → (i, x) ∈ l → find l i = some x
  | [], _, _, _, h => by cases h
  | (n, y) :: l, i, x, hn, h => by
    simp only [List.map_cons, List.nodup_cons] at hn
    rcases List.mem_cons.1 h with h | h
    · cases h; simp [find]
    · have : n ≠ i := fun e => hn.1 (e ▸ List.mem_map_of_mem (f := (·.1)) h)
      rw [find_skip this]
      exact find_nodup hn.2 h

theorem find_mem {α : Type} : ∀ {l : List (Nat × α)} {i : Nat} {x : α}, find l i = some x → (i, x) ∈ l
  | [], _, _, h => by cases h
  | (n, y) :: l, i, x, h => by
    by_cases e : n = i
    · subst e
      have : some y = some x := by simpa [find] using h
      cases this
      exact List.mem_cons_self
    · rw [find_skip e] at h
      exact List.mem_cons_of_mem _ (find_mem h)

/-- No two of some places are one. -/
def NodupP (l : List Place) : Prop := l.Pairwise fun p q => p.nil = false → q.nil = false → p.blk ≠ q.blk

theorem NodupP.apart : ∀ {l : List (Nat × Place)}, NodupP (l.map (·.2)) → ∀ {i j p q}, (i, p) ∈ l → (j, q) ∈ l → i ≠ j → p.nil = false → q.nil = false → p.blk ≠ q.blk
  | [], _, _, _, _, _, h, _, _, _, _ => by cases h
  | (n, r) :: l, h, i, j, p, q, hi, hj, hij, hp, hq => by
    simp only [NodupP, List.map_cons, List.pairwise_cons] at h
    rcases List.mem_cons.1 hi with hi | hi
    · cases hi
      rcases List.mem_cons.1 hj with hj | hj
      · cases hj; exact absurd rfl hij
      · exact h.1 q (List.mem_map_of_mem (f := (·.2)) hj) hp hq
    · rcases List.mem_cons.1 hj with hj | hj
      · cases hj; exact Ne.symm (h.1 p (List.mem_map_of_mem (f := (·.2)) hi) hq hp)
      · exact NodupP.apart (l := l) h.2 hi hj hij hp hq

theorem oOpen_fits {F : Mem} : ∀ {o : OTy} {x y : o.den} {vs : List Value} {pl : PT} {n : Nat}, ORep F w o y vs pl → Fits (oOpen o x n).2.2.1 pl
  | .dat _, _, _, _, _, _, h => by obtain ⟨rfl, _⟩ := h; trivial
  | .row _ _, _, _, _, _, _, h => by obtain ⟨_, _, rfl, _⟩ := h; trivial
  | .cells _ o, x, y, _, _, n, h => by obtain ⟨_, _, _, _, rfl, _, _, _, h⟩ := h; exact oOpen_fits (o := o) (x := x) (y := y) h
  | .mclo _ o, x, y, _, _, _, h => by obtain ⟨_, _, h⟩ := h; exact oOpen_fits (o := o) (x := x) (y := y) h
  | .unit, _, _, _, _, _, h => by obtain ⟨_, rfl⟩ := h; trivial
  | .pair _ _, _, _, _, _, _, h => by obtain ⟨_, _, _, _, _, rfl, h1, h2⟩ := h; exact ⟨oOpen_fits h1, oOpen_fits h2⟩
  | .gone o, x, y, _, _, _, h => oOpen_fits (o := o) (x := x) (y := y) h

theorem oReopen_fits {F : Mem} : ∀ {o : OTy} {top : Bool} {x y : o.den} {vs : List Value} {pl : PT} {it : IT} {n : Nat}, ORep F w o y vs pl → Fits (oReopen o top x it n).2.2.1 pl
  | .dat _, _, _, _, _, _, _, _, h => oOpen_fits h
  | .row _ _, top, _, _, _, _, it, _, h => by
    unfold oReopen
    split
    · obtain ⟨_, _, rfl, _⟩ := h; trivial
    · exact oOpen_fits h
  | .cells fx o, top, x, y, _, _, it, n, h => by
    unfold oReopen
    split
    · obtain ⟨_, _, _, _, rfl, _, _, _, h⟩ := h; exact oReopen_fits (o := o) (x := x) (y := y) h
    · exact oOpen_fits h
  | .mclo _ o, _, x, y, _, _, _, _, h => by obtain ⟨_, _, h⟩ := h; exact oReopen_fits (o := o) (x := x) (y := y) h
  | .unit, _, _, _, _, _, _, _, h => oOpen_fits h
  | .pair _ _, _, _, _, _, _, it, _, h => by
    unfold oReopen
    split
    · obtain ⟨_, _, _, _, _, rfl, h1, h2⟩ := h; exact ⟨oReopen_fits h1, oReopen_fits h2⟩
    · exact oOpen_fits h
  | .gone _, _, _, _, _, _, _, _, h => oOpen_fits h

/-- Which numbers a reopened tree has. -/
structure Ids (l : List (Nat × Blk)) (it it' : IT) (n n' : Nat) : Prop where
  le : n ≤ n'
  old : ∀ i ∈ it'.ids, i ∈ it.ids ∨ (n ≤ i ∧ i < n')
  keys : l.map (·.1) = it'.ids
  nodup : it.ids.Nodup → (∀ i ∈ it.ids, ¬ (n ≤ i ∧ i < n')) → it'.ids.Nodup

theorem oOpen_Ids (o : OTy) (x : o.den) (it : IT) (n : Nat) : Ids (oOpen o x n).2.1 it (oOpen o x n).2.2.1 n (oOpen o x n).2.2.2 := by
  obtain ⟨h1, h2, h3, h4⟩ := oOpen_ids o x n
  exact ⟨h1, fun i hi => .inr (h2 i hi), h4, fun _ _ => h3⟩

theorem oReopen_Ids : ∀ (o : OTy) (top : Bool) (x : o.den) (it : IT) (n : Nat), Ids (oReopen o top x it n).2.1 it (oReopen o top x it n).2.2.1 n (oReopen o top x it n).2.2.2
  | .dat _, _, _, _, _ => oOpen_Ids _ _ _ _
  | .row _ _, top, _, it, _ => by
    unfold oReopen
    split
    · exact ⟨Nat.le_refl _, fun i hi => .inl hi, rfl, fun h _ => h⟩
    · exact oOpen_Ids _ _ _ _
  | .cells fx o, top, x, it, n => by
    unfold oReopen
    split
    · rename_i m t hb
      obtain ⟨h1, h2, h3, h4⟩ := oReopen_Ids o false x t n
      refine ⟨h1, fun i hi => ?_, ?_, fun hn hr => ?_⟩
      · simp only [IT.ids, List.mem_cons] at hi ⊢
        rcases hi with hi | hi
        · exact .inl (.inl hi)
        · rcases h2 i hi with h | h
          · exact .inl (.inr h)
          · exact .inr h
      · simp only [IT.ids, List.map_cons, h3]
      · simp only [IT.ids, List.nodup_cons] at hn ⊢
        refine ⟨fun hm => ?_, h4 hn.2 fun i hi => hr i (by simp [IT.ids, hi])⟩
        rcases h2 m hm with h | h
        · exact hn.1 h
        · exact hr m (by simp [IT.ids]) h
    · exact oOpen_Ids _ _ _ _
  | .mclo _ o, _, x, it, n => by
    obtain ⟨h1, h2, h3, h4⟩ := oReopen_Ids o false x it n
    exact ⟨h1, h2, h3, h4⟩
  | .unit, _, _, _, _ => oOpen_Ids _ _ _ _
  | .pair a b, _, x, it, n => by
    unfold oReopen
    split
    · rename_i s t
      obtain ⟨h1, h2, h3, h4⟩ := oReopen_Ids a false x.1 s n
      obtain ⟨k1, k2, k3, k4⟩ := oReopen_Ids b false x.2 t (oReopen a false x.1 s n).2.2.2
      refine ⟨Nat.le_trans h1 k1, fun i hi => ?_, ?_, fun hn hr => ?_⟩
      · simp only [IT.ids, List.mem_append] at hi ⊢
        rcases hi with hi | hi
        · rcases h2 i hi with h | h
          · exact .inl (.inl h)
          · exact .inr ⟨h.1, Nat.lt_of_lt_of_le h.2 k1⟩
        · rcases k2 i hi with h | h
          · exact .inl (.inr h)
          · exact .inr ⟨Nat.le_trans h1 h.1, h.2⟩
      · simp only [IT.ids, List.map_append, h3, k3]
      · simp only [IT.ids] at hn ⊢
        obtain ⟨n1, n2, n3⟩ := List.nodup_append.1 hn
        have r1 : ∀ i ∈ s.ids, ¬ (n ≤ i ∧ i < _) := fun i hi => hr i (by simp [IT.ids, hi])
        have r2 : ∀ i ∈ t.ids, ¬ (n ≤ i ∧ i < _) := fun i hi => hr i (by simp [IT.ids, hi])
        refine List.nodup_append.2 ⟨h4 n1 fun i hi hh => r1 i hi ⟨hh.1, Nat.lt_of_lt_of_le hh.2 k1⟩, k4 n2 fun i hi hh => r2 i hi ⟨Nat.le_trans h1 hh.1, hh.2⟩, fun i hi j hj e => ?_⟩
        subst e
        rcases h2 i hi with h | h
        · rcases k2 i hj with g | g
          · exact n3 i h i g rfl
          · exact r1 i h ⟨Nat.le_trans h1 g.1, g.2⟩
        · rcases k2 i hj with g | g
          · exact r2 i g ⟨h.1, Nat.lt_of_lt_of_le h.2 k1⟩
          · omega
    · exact oOpen_Ids _ _ _ _
  | .gone _, _, _, _, _ => oOpen_Ids _ _ _ _

/-- Numbers that stay bear the places that stay. -/
theorem oReopen_fix : ∀ {o : OTy} {top : Bool} {x : o.den} {it : IT} {n : Nat} {pl pl' : PT}, ITAt E it pl → OFix o top pl pl' → ∀ i p, (i, p) ∈ bindPT (oReopen o top x it n).2.2.1 pl' → (n ≤ i ∧ i < (oReopen o top x it n).2.2.2) ∨ E.place i = some p := by
  have opn : ∀ {o : OTy} {x : o.den} {n : Nat} {pl' : PT} {i : Nat} {p : Place}, (i, p) ∈ bindPT (oOpen o x n).2.2.1 pl' → n ≤ i ∧ i < (oOpen o x n).2.2.2 := fun {o x n pl' i p} hm => by
    have key : ∀ {t : IT} {q : PT}, (i, p) ∈ bindPT t q → i ∈ t.ids := by
      intro t
      induction t with
      | nil => intro q h; cases q <;> cases h
      | row m => intro q h; cases m <;> cases q <;> simp [bindPT, IT.ids] at h ⊢; exact h.1
      | cells m t ih =>
        intro q h
        cases q <;> simp only [bindPT, IT.ids, List.mem_cons, List.not_mem_nil] at h ⊢
        rcases h with h | h
        · cases h; exact .inl rfl
        · exact .inr (ih h)
      | pair a b iha ihb =>
        intro q h
        cases q <;> simp only [bindPT, IT.ids, List.mem_append, List.not_mem_nil] at h ⊢
        rcases h with h | h
        · exact .inl (iha h)
        · exact .inr (ihb h)
    exact (oOpen_ids o x n).2.1 i (key hm)
  intro o
  induction o with
  | dat t => intro top x it n pl pl' _ _ i p hm; exact .inl (opn hm)
  | row e t =>
    intro top x it n pl pl' hi hf i p hm
    unfold oReopen at hm ⊢
    split at hm
    · rename_i m
      cases pl' with
      | row p' =>
        cases pl with
        | row p0 =>
          simp only [bindPT, List.mem_singleton] at hm
          cases hm
          have := hf rfl
          right
          cases this
          exact hi
        | nil => cases hi
        | cells _ _ => cases hi
        | pair _ _ => cases hi
      | nil => cases hm
      | cells _ _ => cases hm
      | pair _ _ => cases hm
    · exact .inl (opn hm)
  | cells fx o ih =>
    intro top x it n pl pl' hi hf i p hm
    unfold oReopen at hm ⊢
    split at hm
    · rename_i m t hb
      cases pl' with
      | cells p' q' =>
        cases pl with
        | cells p0 q0 =>
          obtain ⟨e1, e2⟩ := hf hb
          simp only [bindPT, List.mem_cons] at hm
          rcases hm with hm | hm
          · cases hm
            right
            rw [e1]
            exact hi.1
          · exact ih hi.2 e2 i p hm
        | nil => cases hi
        | row _ => cases hi
        | pair _ _ => cases hi
      | nil => cases hm
      | row _ => cases hm
      | pair _ _ => cases hm
    · exact .inl (opn hm)
  | mclo k o ih => intro top x it n pl pl' hi hf i p hm; exact ih hi (by cases pl <;> cases pl' <;> exact hf) i p hm
  | unit => intro top x it n pl pl' _ _ i p hm; exact .inl (opn hm)
  | pair a b iha ihb =>
    intro top x it n pl pl' hi hf i p hm
    unfold oReopen at hm ⊢
    split at hm
    · rename_i s t
      cases pl' with
      | pair p' q' =>
        cases pl with
        | pair p0 q0 =>
          obtain ⟨f1, f2⟩ := hf
          have i1 := oReopen_Ids a false x.1 s n
          have i2 := oReopen_Ids b false x.2 t (oReopen a false x.1 s n).2.2.2
          simp only [bindPT, List.mem_append] at hm
          rcases hm with hm | hm
          · rcases iha hi.1 f1 i p hm with h | h
            · exact .inl ⟨h.1, Nat.lt_of_lt_of_le h.2 i2.le⟩
            · exact .inr h
          · rcases ihb hi.2 f2 i p hm with h | h
            · exact .inl ⟨Nat.le_trans i1.le h.1, h.2⟩
            · exact .inr h
        | nil => cases hi
        | row _ => cases hi
        | cells _ _ => cases hi
      | nil => cases hm
      | row _ => cases hm
      | cells _ _ => cases hm
    · exact .inl (opn hm)
  | gone o ih => intro top x it n pl pl' _ _ i p hm; exact .inl (opn hm)

theorem oReopen_ptrs : ∀ {o : OTy} {top : Bool} {x : o.den} {it : IT} {n : Nat}, o.allPtr = true → ∀ c ∈ (oReopen o top x it n).1, ∃ b, c = .ptr b 0
  | .cells _ _, top, _, it, n, h, c, hc => by
    unfold oReopen at hc
    split at hc
    · simp at hc; exact ⟨_, hc⟩
    · exact oOpen_ptrs h c hc
  | .unit, _, _, _, _, _, c, hc => by cases hc
  | .pair a b, _, x, it, n, h, c, hc => by
    unfold oReopen at hc
    split at hc
    · simp only [OTy.allPtr, Bool.and_eq_true] at h
      simp only [List.mem_append] at hc
      rcases hc with hc | hc
      · exact oReopen_ptrs h.1 c hc
      · exact oReopen_ptrs h.2 c hc
    · exact oOpen_ptrs h c hc
  | .dat _, _, _, _, _, h, _, _ => by cases h
  | .row _ _, _, _, _, _, h, _, _ => by cases h
  | .mclo _ _, _, _, _, _, h, _, _ => by cases h
  | .gone _, _, _, _, _, h, _, _ => by cases h

theorem oReopen_rep {F : Mem} (hEF : E.F = F) : ∀ {o : OTy} {top : Bool} {x : o.den} {vs : List Value} {pl : PT} {it : IT} {n : Nat}, o.ok = true → ORep F w o x vs pl → ITAt E (oReopen o top x it n).2.2.1 pl →
    CReps E (oReopen o top x it n).1 vs ∧ ∀ m B, (m, B) ∈ (oReopen o top x it n).2.1 → ∃ p, E.place m = some p ∧ BRep E w p B ∧ p ∈ pl.list ∧ B.mut = true
  | .dat _, _, _, _, _, _, _, hk, h, hi => oOpen_rep hEF hk h hi
  | .row e t, top, xs, vs, pl, it, n, hk, h, hi => by
    unfold oReopen at hi ⊢
    split at hi
    · rename_i m
      obtain ⟨p, v, rfl, rfl, hv, hB⟩ := h
      refine ⟨⟨v, [], rfl, ⟨p, hi, hv⟩, rfl⟩, fun m' B hm => ?_⟩
      simp at hm
      obtain ⟨rfl, rfl⟩ := hm
      exact ⟨p, hi, hB.mono ⟨by rw [hEF]; exact .refl _, fun _ _ h => by cases h⟩, by simp [PT.list], rfl⟩
    · exact oOpen_rep hEF hk h hi
  | .cells fx o, top, x, vs, pl, it, n, hk, h, hi => by
    unfold oReopen at hi ⊢
    split at hi
    · rename_i m t hb
      obtain ⟨p, q, us, e, rfl, hn, rfl, hw, h⟩ := h
      obtain ⟨hp, hi⟩ := hi
      obtain ⟨k1, k2⟩ := oReopen_rep hEF (o := o) (n := n) hk h hi
      refine ⟨⟨_, [], rfl, ⟨p, hp, hn, rfl⟩, rfl⟩, fun m' B hm => ?_⟩
      simp only [List.mem_cons] at hm
      rcases hm with hm | hm
      · cases hm
        exact ⟨p, hp, ⟨hn, us, e, hw, k1⟩, by simp [PT.list], rfl⟩
      · obtain ⟨p', g1, g2, g3, g4⟩ := k2 m' B hm
        exact ⟨p', g1, g2, by simp [PT.list, g3], g4⟩
    · exact oOpen_rep hEF hk h hi
  | .mclo k o, top, x, vs, pl, it, n, hk, h, hi => by
    obtain ⟨ws, rfl, h⟩ := h
    simp only [OTy.ok, Bool.and_eq_true] at hk
    obtain ⟨k1, k2⟩ := oReopen_rep hEF (o := o) (top := false) (it := it) (n := n) hk.2 h hi
    obtain ⟨ps, g1, g2, g3⟩ := k1.ptrs (oReopen_ptrs hk.1)
    refine ⟨⟨_, [], rfl, ⟨ps, g1, g2, ?_⟩, rfl⟩, k2⟩
    rw [← g3]
  | .unit, _, _, _, _, _, _, hk, h, hi => oOpen_rep hEF hk h hi
  | .pair a b, top, x, vs, pl, it, n, hk, h, hi => by
    unfold oReopen at hi ⊢
    split at hi
    · rename_i s t
      obtain ⟨us, ws, p, q, rfl, rfl, h1, h2⟩ := h
      simp only [OTy.ok, Bool.and_eq_true] at hk
      obtain ⟨k1, k2⟩ := oReopen_rep hEF (n := n) hk.1 h1 hi.1
      obtain ⟨g1, g2⟩ := oReopen_rep hEF (n := (oReopen a false x.1 s n).2.2.2) hk.2 h2 hi.2
      refine ⟨k1.append g1, fun m B hm => ?_⟩
      simp only [List.mem_append] at hm
      rcases hm with hm | hm
      · obtain ⟨p', e1, e2, e3, e4⟩ := k2 m B hm
        exact ⟨p', e1, e2, by simp [PT.list, e3], e4⟩
      · obtain ⟨p', e1, e2, e3, e4⟩ := g2 m B hm
        exact ⟨p', e1, e2, by simp [PT.list, e3], e4⟩
    · exact oOpen_rep hEF hk h hi
  | .gone _, _, _, _, _, _, _, hk, h, hi => oOpen_rep hEF hk h hi

end Go.Vc
