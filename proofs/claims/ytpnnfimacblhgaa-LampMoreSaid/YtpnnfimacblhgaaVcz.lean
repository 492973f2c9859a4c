/-
  Contracts over owned data, second part: what is promised, and what a caller gets.
-/
import Derived.Test.YtpnnfimacblhgaaVcy
set_option linter.unusedVariables false
set_option linter.unusedSimpArgs false
namespace Go.Vc
open Go

variable {P : Program} {X : Ctx} {w0 : World} {foot : Foot} {base : Mem} {S T : St} {E : Env} {a : Act} {w : World} {ctx : Tags}

/-- Has the caller this argument's variables again, with another content perhaps? -/
def OTy.kept : OTy → Bool
  | .dat _ | .gone _ => false
  | _ => true

/-- The kept arguments behind the call. -/
def KReps (F : Mem) (w : World) : (os : List OTy) → (argTy os).den → List Value → PT → PT → Prop
  | [], _, _, _, pl' => pl' = .nil
  | o :: os, y, vs, pl, pl' => ∃ p q p' q', pl = .pair p q ∧ pl' = .pair p' q' ∧ KReps F w os y.2 (vs.drop o.size) q q' ∧ (match o.kept with
    | true => ORep F w o y.1 (vs.take o.size) p' ∧ OFix o true p p'
    | false => p' = .nil)

def kOpen : (os : List OTy) → (argTy os).den → IT → Nat → List (Nat × Blk) × IT × Nat
  | [], _, _, n => ([], .nil, n)
  | o :: os, y, it, n => (match it with
    | .pair s t => (match o.kept with
      | true =>
        let r := oReopen o true y.1 s n
        let q := kOpen os y.2 t r.2.2.2
        (r.2.1 ++ q.1, .pair r.2.2.1 q.2.1, q.2.2)
      | false =>
        let q := kOpen os y.2 t n
        (q.1, .pair .nil q.2.1, q.2.2))
    | _ => ([], .nil, n))

theorem kOpen_fits {F : Mem} : ∀ {os : List OTy} {x y : (argTy os).den} {vs : List Value} {pl pl' : PT} {it : IT} {n : Nat}, ITAt E it pl → KReps F w os y vs pl pl' → Fits (kOpen os x it n).2.1 pl'
  | [], _, _, _, _, _, _, _, _, h => by have h : _ = _ := h; subst h; trivial
  | o :: os, x, y, vs, pl, pl', it, n, hi, h => by
    obtain ⟨p, q, p', q', rfl, rfl, h1, h2⟩ := h
    cases it with
    | pair s t =>
      unfold kOpen
      simp only
      split
      · rename_i hk
        rw [hk] at h2
        exact ⟨oReopen_fits h2.1, kOpen_fits hi.2 h1⟩
      · rename_i hk
        rw [hk] at h2
        have h2 : p' = .nil := h2
        subst h2
        exact ⟨trivial, kOpen_fits hi.2 h1⟩
    | nil => cases hi
    | row m => cases m <;> cases hi
    | cells _ _ => cases hi

theorem kOpen_Ids : ∀ (os : List OTy) (x : (argTy os).den) (it : IT) (n : Nat), Ids (kOpen os x it n).1 it (kOpen os x it n).2.1 n (kOpen os x it n).2.2
  | [], _, _, n => ⟨Nat.le_refl _, fun i hi => (by cases hi), rfl, fun _ _ => List.nodup_nil⟩
  | o :: os, x, it, n => by
    unfold kOpen
    split
    · rename_i s t
      split
      · obtain ⟨h1, h2, h3, h4⟩ := oReopen_Ids o true x.1 s n
        obtain ⟨k1, k2, k3, k4⟩ := kOpen_Ids os x.2 t (oReopen o true x.1 s n).2.2.2
        refine ⟨Nat.le_trans h1 k1, fun i hi => ?_, ?_, fun hn hr => ?_⟩
        · simp only [IT.ids, List.mem_append] at hi ⊢
          rcases hi with hi | hi
          · rcases h2 i hi with h | h
            · exact .inl (.inl h)
            · exact .inr ⟨h.1, Nat.lt_of_lt_of_le h.2 k1⟩
          · rcases k2 i hi with h | h
            · exact .inl (.inr h)
            · exact .inr ⟨Nat.le_trans h1 h.1, h.2⟩
        · simp only [IT.ids, List.map_append, h3, k3]
        · simp only [IT.ids] at hn ⊢
          obtain ⟨n1, n2, n3⟩ := List.nodup_append.1 hn
          have r1 : ∀ i ∈ s.ids, ¬ (n ≤ i ∧ i < _) := fun i hi => hr i (by simp [IT.ids, hi])
          have r2 : ∀ i ∈ t.ids, ¬ (n ≤ i ∧ i < _) := fun i hi => hr i (by simp [IT.ids, hi])
          refine List.nodup_append.2 ⟨h4 n1 fun i hi hh => r1 i hi ⟨hh.1, Nat.lt_of_lt_of_le hh.2 k1⟩, k4 n2 fun i hi hh => r2 i hi ⟨Nat.le_trans h1 hh.1, hh.2⟩, fun i hi j hj e => ?_⟩
          subst e
          rcases h2 i hi with h | h
          · rcases k2 i hj with g | g
            · exact n3 i h i g rfl
            · exact r1 i h ⟨Nat.le_trans h1 g.1, g.2⟩
          · rcases k2 i hj with g | g
            · exact r2 i g ⟨h.1, Nat.lt_of_lt_of_le h.2 k1⟩
            · omega
      · obtain ⟨k1, k2, k3, k4⟩ := kOpen_Ids os x.2 t n
        refine ⟨k1, fun i hi => ?_, ?_, fun hn hr => ?_⟩
        · simp only [IT.ids, List.mem_append, List.not_mem_nil, false_or] at hi ⊢
          rcases k2 i hi with h | h
          · exact .inl (.inr h)
          · exact .inr h
        · simp only [IT.ids, List.nil_append, k3]
        · simp only [IT.ids, List.nil_append] at hn ⊢
          exact k4 (List.nodup_append.1 hn).2.1 fun i hi => hr i (by simp [IT.ids, hi])
    · exact ⟨Nat.le_refl _, fun i hi => (by cases hi), rfl, fun _ _ => List.nodup_nil⟩

theorem kOpen_fix {F : Mem} : ∀ {os : List OTy} {x y : (argTy os).den} {vs : List Value} {it : IT} {n : Nat} {pl pl' : PT}, ITAt E it pl → KReps F w os y vs pl pl' → ∀ i p, (i, p) ∈ bindPT (kOpen os x it n).2.1 pl' → (n ≤ i ∧ i < (kOpen os x it n).2.2) ∨ E.place i = some p
  | [], _, _, _, _, _, _, _, _, h, i, p, hm => by have h : _ = _ := h; subst h; cases hm
  | o :: os, x, y, vs, it, n, pl, pl', hi, h, i, p, hm => by
    obtain ⟨p0, q0, p', q', rfl, rfl, h1, h2⟩ := h
    cases it with
    | pair s t =>
      unfold kOpen at hm ⊢
      simp only at hm ⊢
      split at hm
      · rename_i hk
        rw [hk] at h2
        have i1 := oReopen_Ids o true x.1 s n
        have i2 := kOpen_Ids os x.2 t (oReopen o true x.1 s n).2.2.2
        simp only [bindPT, List.mem_append] at hm
        rcases hm with hm | hm
        · rcases oReopen_fix hi.1 h2.2 i p hm with g | g
          · exact .inl ⟨g.1, Nat.lt_of_lt_of_le g.2 i2.le⟩
          · exact .inr g
        · rcases kOpen_fix hi.2 h1 i p hm with g | g
          · exact .inl ⟨Nat.le_trans i1.le g.1, g.2⟩
          · exact .inr g
      · rename_i hk
        rw [hk] at h2
        have h2 : p' = .nil := h2
        subst h2
        simp only [bindPT, List.nil_append] at hm
        exact kOpen_fix hi.2 h1 i p hm
    | nil => cases hi
    | row m => cases m <;> cases hi
    | cells _ _ => cases hi

theorem kOpen_rep {F : Mem} {E' : Env} (hEF : E'.F = F) : ∀ {os : List OTy} {y : (argTy os).den} {vs : List Value} {it : IT} {n : Nat} {pl pl' : PT}, (∀ o ∈ os, o.ok = true) → ITAt E it pl → KReps F w os y vs pl pl' → ITAt E' (kOpen os y it n).2.1 pl' →
    ∀ m B, (m, B) ∈ (kOpen os y it n).1 → ∃ p, E'.place m = some p ∧ BRep E' w p B ∧ p ∈ pl'.list ∧ B.mut = true
  | [], _, _, _, _, _, _, _, _, _, _, m, B, hm => by cases hm
  | o :: os, y, vs, it, n, pl, pl', hk, hi, h, hi', m, B, hm => by
    obtain ⟨p0, q0, p', q', rfl, rfl, h1, h2⟩ := h
    cases it with
    | pair s t =>
      unfold kOpen at hm hi'
      simp only at hm hi'
      split at hm
      · rename_i hkk
        rw [hkk] at h2 hi'
        simp only [List.mem_append] at hm
        rcases hm with hm | hm
        · obtain ⟨p, e1, e2, e3, e4⟩ := (oReopen_rep hEF (hk o List.mem_cons_self) h2.1 hi'.1).2 m B hm
          exact ⟨p, e1, e2, by simp [PT.list, e3], e4⟩
        · obtain ⟨p, e1, e2, e3, e4⟩ := kOpen_rep hEF (fun o ho => hk o (List.mem_cons_of_mem _ ho)) hi.2 h1 hi'.2 m B hm
          exact ⟨p, e1, e2, by simp [PT.list, e3], e4⟩
      · rename_i hkk
        rw [hkk] at h2 hi'
        obtain ⟨p, e1, e2, e3, e4⟩ := kOpen_rep hEF (fun o ho => hk o (List.mem_cons_of_mem _ ho)) hi.2 h1 hi'.2 m B hm
        exact ⟨p, e1, e2, by simp [PT.list, e3], e4⟩
    | nil => cases hi
    | row m => cases m <;> cases hi
    | cells _ _ => cases hi

/-! ### A place that is handed over twice -/

def insAt {α : Type} : Nat → α → List α → List α
  | 0, v, l => v :: l
  | _ + 1, v, [] => [v]
  | n + 1, v, a :: l => a :: insAt n v l

def delAt {α : Type} : Nat → List α → List α
  | _, [] => []
  | 0, _ :: l => l
  | n + 1, a :: l => a :: delAt n l

theorem ins_del {α : Type} : ∀ {n : Nat} {l : List α} {v : α}, l[n]? = some v → insAt n v (delAt n l) = l
  | 0, [], v, h => by simp at h
  | 0, a :: l, v, h => by simp at h; subst h; rfl
  | n + 1, [], v, h => by simp at h
  | n + 1, a :: l, v, h => by
    have := ins_del (n := n) (l := l) (v := v) (by simpa using h)
    show a :: insAt n v (delAt n l) = _
    rw [this]

theorem insAt_length {α : Type} : ∀ {n : Nat} {l : List α} {v : α}, (insAt n v l).length = l.length + 1
  | 0, l, v => rfl
  | n + 1, [], v => rfl
  | n + 1, a :: l, v => by simp [insAt, insAt_length]

theorem SReps.del : ∀ {n : Nat} {ss : List SV} {vs : List Value}, SReps E ss vs → SReps E (delAt n ss) (delAt n vs)
  | n, [], vs, h => by
    have h : vs = [] := h
    subst h
    cases n <;> rfl
  | 0, s :: ss, vs, h => by obtain ⟨v, us, rfl, _, h2⟩ := h; exact h2
  | n + 1, s :: ss, vs, h => by
    obtain ⟨v, us, rfl, h1, h2⟩ := h
    exact ⟨v, _, rfl, h1, SReps.del h2⟩

theorem SReps.get : ∀ {n : Nat} {ss : List SV} {vs : List Value} {s : SV}, SReps E ss vs → ss[n]? = some s → ∃ v, vs[n]? = some v ∧ SRep E s v
  | n, [], vs, s, h, hs => by simp at hs
  | 0, t :: ss, vs, s, h, hs => by
    obtain ⟨v, us, rfl, h1, _⟩ := h
    simp at hs
    subst hs
    exact ⟨v, rfl, h1⟩
  | n + 1, t :: ss, vs, s, h, hs => by
    obtain ⟨v, us, rfl, _, h2⟩ := h
    obtain ⟨u, g1, g2⟩ := SReps.get (n := n) h2 (by simpa using hs)
    exact ⟨u, by simpa using g1, g2⟩

theorem SReps.ins : ∀ {n : Nat} {ss : List SV} {vs : List Value} {s : SV} {v : Value}, SReps E ss vs → SRep E s v → SReps E (insAt n s ss) (insAt n v vs)
  | 0, ss, vs, s, v, h, hs => ⟨v, vs, rfl, hs, h⟩
  | n + 1, [], vs, s, v, h, hs => by
    have h : vs = [] := h
    subst h
    exact ⟨v, [], rfl, hs, rfl⟩
  | n + 1, t :: ss, vs, s, v, h, hs => by
    obtain ⟨u, us, rfl, h1, h2⟩ := h
    exact ⟨u, _, rfl, h1, SReps.ins h2 hs⟩

/-- A place in a tree, by its path: 0, 1: a pair's parts; 2: into a variable. -/
def selP : List Nat → PT → Option Place
  | [], .cells p _ => some p
  | 0 :: l, .pair a _ => selP l a
  | 1 :: l, .pair _ b => selP l b
  | 2 :: l, .cells _ q => selP l q
  | _, _ => none

def selI : List Nat → IT → Option Nat
  | [], .cells n _ => some n
  | 0 :: l, .pair a _ => selI l a
  | 1 :: l, .pair _ b => selI l b
  | 2 :: l, .cells _ q => selI l q
  | _, _ => none

theorem selI_at : ∀ {l : List Nat} {t : IT} {q : PT} {n : Nat}, ITAt E t q → selI l t = some n → ∃ p, selP l q = some p ∧ E.place n = some p
  | [], .cells m t, .cells p q, n, h, hs => by
    have hs : some m = some n := hs
    cases hs
    exact ⟨p, rfl, h.1⟩
  | 0 :: l, .pair a b, .pair p q, n, h, hs => selI_at (l := l) h.1 hs
  | 1 :: l, .pair a b, .pair p q, n, h, hs => selI_at (l := l) h.2 hs
  | 2 :: l, .cells m t, .cells p q, n, h, hs => selI_at (l := l) h.2 hs

theorem selP_fits : ∀ {l : List Nat} {t : IT} {q : PT} {p : Place}, Fits t q → selP l q = some p → ∃ n, selI l t = some n
  | [], t, .cells p q, r, h, hs => by
    cases t with
    | cells m u => exact ⟨m, rfl⟩
    | nil => cases h
    | row b => cases b <;> cases h
    | pair _ _ => cases h
  | 0 :: l, t, .pair p q, r, h, hs => by
    cases t with
    | pair a b => exact selP_fits (l := l) h.1 hs
    | nil => cases h
    | row b => cases b <;> cases h
    | cells _ _ => cases h
  | 1 :: l, t, .pair p q, r, h, hs => by
    cases t with
    | pair a b => exact selP_fits (l := l) h.2 hs
    | nil => cases h
    | row b => cases b <;> cases h
    | cells _ _ => cases h
  | 2 :: l, t, .cells p q, r, h, hs => by
    cases t with
    | cells m u => exact selP_fits (l := l) (t := u) (by first | exact h | exact h.2) hs
    | nil => cases h
    | row b => cases b <;> cases h
    | pair _ _ => cases h

def insV (al : Option (Nat × List Nat)) (vs : List Value) (pl : PT) : List Value :=
  match al with
  | none => vs
  | some (pos, path) => (match selP path pl with
    | some p => insAt pos (.pointer (some ⟨p.blk, 0, none⟩)) vs
    | none => vs)

def insS (al : Option (Nat × List Nat)) (ss : List SV) (it : IT) : List SV :=
  match al with
  | none => ss
  | some (pos, path) => (match selI path it with
    | some n => insAt pos (.one (.ptr n 0)) ss
    | none => ss)

def delA {α : Type} (al : Option (Nat × List Nat)) (ss : List α) : List α :=
  match al with
  | none => ss
  | some (pos, _) => delAt pos ss

def alIn (al : Option (Nat × List Nat)) (ss : List SV) (it : IT) : Bool :=
  match al with
  | none => true
  | some (pos, path) => (match ss[pos]?, selI path it with
    | some (.one (.ptr b o)), some n => Nat.beq b n && Nat.beq o 0
    | _, _ => false)

def AlOk (al : Option (Nat × List Nat)) (pl : PT) : Prop :=
  match al with
  | none => True
  | some (_, path) => ∃ p, selP path pl = some p ∧ p.nil = false

def alLen (al : Option (Nat × List Nat)) : Nat :=
  match al with
  | none => 0
  | some _ => 1

theorem del_reps {al : Option (Nat × List Nat)} {ss : List SV} {vs : List Value} (h : SReps E ss vs) : SReps E (delA al ss) (delA al vs) := by
  cases al with
  | none => exact h
  | some a => exact h.del

theorem alIn_spec {E1 : Env} {al : Option (Nat × List Nat)} {ss : List SV} {vs : List Value} {it : IT} {pl : PT} (hle : E.le E1) (h : SReps E ss vs) (hat : ITAt E1 it pl) (ha : alIn al ss it = true) : vs = insV al (delA al vs) pl ∧ AlOk al pl := by
  cases al with
  | none => exact ⟨rfl, trivial⟩
  | some a =>
    obtain ⟨pos, path⟩ := a
    unfold alIn at ha
    simp only at ha
    split at ha
    · rename_i b o n hs hn
      simp only [Bool.and_eq_true] at ha
      have e1 := Nat.eq_of_beq_eq_true ha.1
      have e2 := Nat.eq_of_beq_eq_true ha.2
      subst e1 e2
      obtain ⟨v, g1, g2⟩ := h.get hs
      obtain ⟨c, hc, p, hp, hpn, hv⟩ : ∃ c, c = C.ptr b 0 ∧ ∃ p, E.place b = some p ∧ p.nil = false ∧ v = .pointer (some ⟨p.blk, 0, none⟩) := ⟨_, rfl, g2⟩
      obtain ⟨p', k1, k2⟩ := selI_at hat hn
      rw [hle.place _ _ hp] at k2
      cases k2
      refine ⟨?_, p, k1, hpn⟩
      show vs = match selP path pl with | some p => _ | none => _
      rw [k1]
      simp only
      rw [← hv]
      exact (ins_del g1).symm
    · cases ha

/-! ### The contract -/

structure OCon where
  args : List OTy
  outs : List OTy
  pre : (argTy args).den → Prop
  fn : (argTy args).den → (argTy outs).den
  upd : (argTy args).den → (argTy args).den := fun x => x
  al : Option (Nat × List Nat) := none

def OutV (outs : List OTy) (v : Value) (vs : List Value) : Prop :=
  match outs with
  | [_] => vs = [v]
  | _ => v = .tuple vs.toArray

def tupO : List OTy → List C → List (Bool × List C)
  | [], _ => []
  | o :: os, cs => (o.isAgg, cs.take o.size) :: tupO os (cs.drop o.size)

def outSV (outs : List OTy) (cs : List C) : SV :=
  match outs with
  | [o] => svO o cs
  | _ => .tup (tupO outs cs)

def blksOf (l : List Place) (b : Nat) : Prop := ∃ p ∈ l, p.nil = false ∧ p.blk = b

/-- A contract that holds. -/
structure OOk (P : Program) (f : Nat) (c : OCon) : Prop where
  fn : ∃ fn code, P.funcs[f]? = some fn ∧ (fn.name == "runtime.NumGoroutine") = false ∧ fn.body = some code
  okA : ∀ o ∈ c.args, o.ok = true
  okO : (argTy c.outs).ok = true
  calls : ∀ (F : Mem) (w : World) (x : (argTy c.args).den) (vs : List Value) (pl : PT), (∀ b o, F b = some o → w.heap[b]? = some o) → ORep F w (argTy c.args) x (vcells vs) pl → Shape c.args vs → NodupP pl.list →
    (∀ p ∈ pl.list, p.nil = false → F p.blk = none) → c.pre x → AlOk c.al pl →
    Calls P f (insV c.al vs pl).toArray w fun e w' => ∃ v F' vs' pl' qs, e = .returned v ∧ F.le F' ∧ (∀ b o, F' b = some o → w'.heap[b]? = some o) ∧ (∀ b o, F' b = some o → F b = some o ∨ w.heap.size ≤ b ∨ blksOf pl.list b) ∧
      Keep (blksOf pl.list) w w' ∧ OutV c.outs v vs' ∧ Shape c.outs vs' ∧ ORep F' w' (argTy c.outs) (c.fn x) (vcells vs') qs ∧ KReps F' w' c.args (c.upd x) (vcells vs) pl pl' ∧
      NodupP (pl'.list ++ qs.list) ∧ ∀ p ∈ pl'.list ++ qs.list, p.nil = false → (blksOf pl.list p.blk ∨ w.heap.size ≤ p.blk) ∧ F' p.blk = none

def nodupB : List Nat → Bool
  | [] => true
  | n :: l => match has l n with
    | true => false
    | false => nodupB l

theorem nodupB_spec : ∀ {l : List Nat}, nodupB l = true → l.Nodup
  | [], _ => List.nodup_nil
  | n :: l, h => by
    unfold nodupB at h
    split at h
    · cases h
    · rename_i hb
      exact List.nodup_cons.2 ⟨fun hm => (by rw [has_mem.2 hm] at hb; cases hb), nodupB_spec h⟩

def allNoId (fr : Fro) : List Nat → Bool
  | [] => true
  | n :: l => match noId fr n with
    | true => allNoId fr l
    | false => false

theorem allNoId_spec {fr : Fro} : ∀ {l : List Nat}, allNoId fr l = true → ∀ n ∈ l, ∀ p ∈ fr, p.1 ≠ n
  | [], _, n, hn => by cases hn
  | m :: l, h, n, hn => by
    unfold allNoId at h
    split at h
    · rename_i hb
      rcases List.mem_cons.1 hn with rfl | hn
      · exact noId_mem hb
      · exact allNoId_spec h n hn
    · cases h

def upTo : Nat → Nat → List Nat
  | _, 0 => []
  | n, k + 1 => n :: upTo (n + 1) k

theorem mem_upTo : ∀ {k n i : Nat}, i ∈ upTo n k ↔ n ≤ i ∧ i < n + k
  | 0, n, i => ⟨fun h => (by cases h), fun h => (by omega)⟩
  | k + 1, n, i => by simp only [upTo, List.mem_cons, mem_upTo]; omega

def OCon.run (c : OCon) (args : List SV) (d : Nat) : RM Res := do
  let cs ← svCells c.args (delA c.al args)
  let x ← oClose (argTy c.args) cs
  guardR (alIn c.al args x.2.2 && (nodupB x.2.2.ids && allNoId x.2.1 x.2.2.ids))
  let n := 1000 * (d + 1)
  let k := kOpen c.args (c.upd x.1) x.2.2 n
  let q := oOpen (argTy c.outs) (c.fn x.1) k.2.2
  .ret { val := some (outSV c.outs q.1), blks := x.2.1 ++ (k.1 ++ q.2.1), del := x.2.2.ids, new := upTo n (q.2.2.2 - n), conds := [c.pre x.1] }

def OCon.con (c : OCon) : Con := { run := c.run }

/-- A tree whose places are apart. -/
theorem ITAt_nodup : ∀ {t : IT} {q : PT}, ITAt E t q → t.ids.Nodup → (∀ i ∈ t.ids, ∀ j ∈ t.ids, i ≠ j → ∀ p r, E.place i = some p → E.place j = some r → p.nil = false → r.nil = false → p.blk ≠ r.blk) →
    NodupP q.list ∧ ∀ p ∈ q.list, p.nil = true ∨ ∃ i ∈ t.ids, E.place i = some p
  | .nil, .nil, _, _, _ => ⟨List.Pairwise.nil, fun p hp => (by cases hp)⟩
  | .row none, .row p, h, _, _ => ⟨by simp [PT.list, NodupP], fun r hr => by simp [PT.list] at hr; subst hr; have h : r = nilPlace := h; subst h; exact .inl rfl⟩
  | .row (some n), .row p, h, _, _ => ⟨by simp [PT.list, NodupP], fun r hr => by simp [PT.list] at hr; subst hr; exact .inr ⟨n, by simp [IT.ids], h⟩⟩
  | .cells n t, .cells p q, h, hn, hd => by
    simp only [IT.ids, List.nodup_cons] at hn
    obtain ⟨k1, k2⟩ := ITAt_nodup h.2 hn.2 fun i hi j hj => hd i (by simp [IT.ids, hi]) j (by simp [IT.ids, hj])
    refine ⟨List.pairwise_cons.2 ⟨fun r hr h1 h2 => ?_, k1⟩, fun r hr => ?_⟩
    · rcases k2 r hr with g | ⟨i, hi, g⟩
      · rw [g] at h2; cases h2
      · exact hd n (by simp [IT.ids]) i (by simp [IT.ids, hi]) (fun e => hn.1 (e ▸ hi)) p r h.1 g h1 h2
    · simp only [PT.list, List.mem_cons] at hr
      rcases hr with rfl | hr
      · exact .inr ⟨n, by simp [IT.ids], h.1⟩
      · rcases k2 r hr with g | ⟨i, hi, g⟩
        · exact .inl g
        · exact .inr ⟨i, by simp [IT.ids, hi], g⟩
  | .pair a b, .pair p q, h, hn, hd => by
    simp only [IT.ids] at hn
    obtain ⟨n1, n2, n3⟩ := List.nodup_append.1 hn
    obtain ⟨k1, k2⟩ := ITAt_nodup h.1 n1 fun i hi j hj => hd i (by simp [IT.ids, hi]) j (by simp [IT.ids, hj])
    obtain ⟨l1, l2⟩ := ITAt_nodup h.2 n2 fun i hi j hj => hd i (by simp [IT.ids, hi]) j (by simp [IT.ids, hj])
    refine ⟨List.pairwise_append.2 ⟨k1, l1, fun r hr s hs h1 h2 => ?_⟩, fun r hr => ?_⟩
    · rcases k2 r hr with g | ⟨i, hi, g⟩
      · rw [g] at h1; cases h1
      · rcases l2 s hs with g' | ⟨j, hj, g'⟩
        · rw [g'] at h2; cases h2
        · exact hd i (by simp [IT.ids, hi]) j (by simp [IT.ids, hj]) (fun e => n3 i hi j hj e) r s g g' h1 h2
    · simp only [PT.list, List.mem_append] at hr
      rcases hr with hr | hr
      · rcases k2 r hr with g | ⟨i, hi, g⟩
        · exact .inl g
        · exact .inr ⟨i, by simp [IT.ids, hi], g⟩
      · rcases l2 r hr with g | ⟨i, hi, g⟩
        · exact .inl g
        · exact .inr ⟨i, by simp [IT.ids, hi], g⟩

theorem ITAt_mem : ∀ {t : IT} {q : PT}, ITAt E t q → ∀ i ∈ t.ids, ∃ p ∈ q.list, E.place i = some p
  | .nil, _, _, i, hi => by cases hi
  | .row none, _, _, i, hi => by cases hi
  | .row (some n), .row p, h, i, hi => by simp [IT.ids] at hi; subst hi; exact ⟨p, by simp [PT.list], h⟩
  | .cells n t, .cells p q, h, i, hi => by
    simp only [IT.ids, List.mem_cons] at hi
    rcases hi with rfl | hi
    · exact ⟨p, by simp [PT.list], h.1⟩
    · obtain ⟨r, h1, h2⟩ := ITAt_mem h.2 i hi
      exact ⟨r, by simp [PT.list, h1], h2⟩
  | .pair a b, .pair p q, h, i, hi => by
    simp only [IT.ids, List.mem_append] at hi
    rcases hi with hi | hi
    · obtain ⟨r, h1, h2⟩ := ITAt_mem h.1 i hi
      exact ⟨r, by simp [PT.list, h1], h2⟩
    · obtain ⟨r, h1, h2⟩ := ITAt_mem h.2 i hi
      exact ⟨r, by simp [PT.list, h1], h2⟩

/-- Results out of their cells. -/
theorem outSV_rep {outs : List OTy} {cs : List C} {v : Value} {vs : List Value} (hv : OutV outs v vs) (hs : Shape outs vs) (hc : CReps E cs (vcells vs)) : SRep E (outSV outs cs) v := by
  have tup : ∀ {os : List OTy} {cs : List C} {vs : List Value}, Shape os vs → CReps E cs (vcells vs) → SRep.go E (tupO os cs) vs := by
    intro os
    induction os with
    | nil => intro cs vs hs hc; have hs : vs = [] := hs; subst hs; rfl
    | cons o os ih =>
      intro cs vs hs hc
      have hr := svOs_rep hc hs
      obtain ⟨v, us, rfl, h1, h2⟩ := hs
      obtain ⟨v', us', he, k1, k2⟩ := hr
      cases he
      simp only [vcells, List.flatMap_cons] at hc
      have hsz : v.cells.toList.length = o.size := by
        cases hb : o.isAgg with
        | true => rw [hb] at h1; obtain ⟨ws, rfl, e⟩ := h1; simpa [Value.cells] using e
        | false => rw [hb] at h1; rw [h1.1, h1.2]; rfl
      have c2 : CReps E (cs.drop o.size) (vcells us) := by
        have := hc.drop o.size
        rwa [List.drop_left' hsz] at this
      refine ⟨v, us, rfl, ?_, ih h2 c2⟩
      have c1 : CReps E (cs.take o.size) v.cells.toList := by
        have := hc.take o.size
        rwa [List.take_left' hsz] at this
      cases hb : o.isAgg with
      | true => rw [hb] at h1; obtain ⟨ws, rfl, e⟩ := h1; exact ⟨ws, rfl, c1⟩
      | false =>
        rw [hb] at h1
        have hl := c1.length
        rw [h1.1] at c1 hl
        simp only [List.length_cons, List.length_nil] at hl
        obtain ⟨c, hc1⟩ := List.length_eq_one_iff.1 hl.symm
        rw [hc1] at c1
        obtain ⟨u, hu, c1⟩ := one_reps c1
        cases hu
        exact ⟨c, hc1, c1⟩
  unfold OutV at hv
  unfold outSV
  split at hv
  · rename_i o
    subst hv
    obtain ⟨_, _, he, k, _⟩ := svOs_rep hc hs
    cases he
    have hsz : o.size = cs.length := by
      obtain ⟨_, _, he, h1, _⟩ := hs
      cases he
      have := hc.length
      simp only [vcells, List.flatMap_cons, List.flatMap_nil, List.append_nil] at this
      cases hb : o.isAgg with
      | true => rw [hb] at h1; obtain ⟨ws, rfl, e⟩ := h1; simp [Value.cells] at this; omega
      | false => rw [hb] at h1; rw [h1.1] at this; simp at this; omega
    rwa [hsz, List.take_length] at k
  · subst hv
    exact ⟨vs.toArray, rfl, tup hs hc⟩

/-- The contract at a call. -/
theorem OOk.con {f : Nat} {c : OCon} (hc : OOk P f c) : ConOk P f c.con where
  fn := hc.fn
  calls := by
    intro w0 foot base S ctx E w args vs d r hR hv hr hcond hnew
    unfold OCon.con OCon.run at hr
    obtain ⟨cs, h1, hr⟩ := RM.run_bind' hr
    obtain ⟨⟨x, fr, it⟩, h2, hr⟩ := RM.run_bind' hr
    obtain ⟨_, h3, hr⟩ := RM.run_bind' hr
    cases hr
    simp only at hcond hnew ⊢
    have hg := run_guardR h3
    simp only [Bool.and_eq_true] at hg
    obtain ⟨hgal, hg⟩ := hg
    have hnd := nodupB_spec hg.1
    have hno := allNoId_spec hg.2
    have hvfull := hv
    have hv := del_reps (al := c.al) hv
    obtain ⟨hcs, hshape⟩ := svCells_rep h1 hv
    obtain ⟨k1, k2, k3⟩ := oClose_spec h2
    obtain ⟨E1, l1, q1, f1, hR1⟩ := hR.applyFro k1
    have hfz := Frozen.of_apply k1 hR1
    have hfind : ∀ n ∈ it.ids, find (applyFro fr S.bl) n = find S.bl n := fun n hn => find_applyFro_other (hno n hn)
    have hown : ∀ n ∈ it.ids, ∃ B, find (applyFro fr S.bl) n = some B ∧ B.mut = true := fun n hn => by rw [hfind n hn]; exact k2 n hn
    obtain ⟨pl, hat, hrep⟩ := k3 E1 w (vcells (delA c.al vs)) (hcs.mono l1) hfz fun n hn B hB => hR1.blks n B (by rw [hfind n hn]; exact hB)
    have hdist : ∀ i ∈ it.ids, ∀ j ∈ it.ids, i ≠ j → ∀ p r, E1.place i = some p → E1.place j = some r → p.nil = false → r.nil = false → p.blk ≠ r.blk := fun i hi j hj hij p r hp hr hpn hrn => by
      obtain ⟨B, hB, _⟩ := hown i hi
      obtain ⟨D, hD, _⟩ := hown j hj
      exact hR1.inj i j B D p r hB hD hp hr hpn hrn hij
    obtain ⟨hnp, hmem⟩ := ITAt_nodup hat hnd hdist
    have hblk : ∀ b, blksOf pl.list b ↔ ownBlk it.ids E1 b := fun b => by
      constructor
      · rintro ⟨p, hp, hn, rfl⟩
        rcases hmem p hp with h | ⟨i, hi, h⟩
        · rw [h] at hn; cases hn
        · exact ⟨i, hi, p, h, hn, rfl⟩
      · rintro ⟨i, hi, p, hp, hn, rfl⟩
        obtain ⟨p', h1, h2⟩ := ITAt_mem hat i hi
        rw [hp] at h2
        cases h2
        exact ⟨p, h1, hn, rfl⟩
    have hFn : ∀ p ∈ pl.list, p.nil = false → E1.F p.blk = none := fun p hp hn => by
      rcases hmem p hp with h | ⟨i, hi, h⟩
      · rw [h] at hn; cases hn
      · obtain ⟨B, hB, hm⟩ := hown i hi
        exact (hR1.own i B p hB h hn).2 hm
    have hpre : c.pre x := hcond _ (List.mem_singleton.2 rfl)
    obtain ⟨hins, hal⟩ := alIn_spec l1 hvfull hat hgal
    rw [hins]
    generalize delA c.al vs = vs at *
    refine (hc.calls E1.F w x vs pl hR1.frz hrep hshape hnp hFn hpre hal).mono fun e w' hp => ?_
    obtain ⟨v, F', vs', pl', qs, rfl, hF, hfrz, hsrc, hkeep, hov, hos, hor, hk, hnp2, hnew2⟩ := hp
    -- the numbers behind the call
    generalize hko : kOpen c.args (c.upd x) it (1000 * (d + 1)) = k at *
    have hI := kOpen_Ids c.args (c.upd x) it (1000 * (d + 1))
    have hfit := kOpen_fits (x := c.upd x) (n := 1000 * (d + 1)) hat hk
    have hfix := kOpen_fix (x := c.upd x) (n := 1000 * (d + 1)) hat hk
    rw [hko] at hI hfit hfix
    generalize hqo : oOpen (argTy c.outs) (c.fn x) k.2.2 = q at *
    have hJ := oOpen_ids (argTy c.outs) (c.fn x) k.2.2
    have hfit2 := oOpen_fits (x := c.fn x) (n := k.2.2) hor
    rw [hqo] at hJ hfit2
    obtain ⟨j1, j2, j3, j4⟩ := hJ
    have hused : ∀ i ∈ it.ids, i ∈ S.used := fun i hi => by
      obtain ⟨p, _, h⟩ := ITAt_mem hat i hi
      exact hR1.used i p h
    have hrange : ∀ i, 1000 * (d + 1) ≤ i → i < q.2.2.2 → i ∉ S.used := fun i h1 h2 => hnew i (mem_upTo.2 ⟨h1, by omega⟩)
    have hout : ∀ i ∈ it.ids, ¬ (1000 * (d + 1) ≤ i ∧ i < q.2.2.2) := fun i hi hh => hrange i hh.1 hh.2 (hused i hi)
    have hle := hI.le
    have nd1 : k.2.1.ids.Nodup := hI.nodup hnd fun i hi hh => hout i hi ⟨hh.1, by omega⟩
    have fitA : Fits (.pair k.2.1 q.2.2.1) (.pair pl' qs) := ⟨hfit, hfit2⟩
    obtain ⟨key1, key2⟩ := bindPT_keys fitA
    have ndA : (IT.pair k.2.1 q.2.2.1).ids.Nodup := by
      simp only [IT.ids]
      refine List.nodup_append.2 ⟨nd1, j3, fun i hi j hj e => ?_⟩
      subst e
      have g := j2 i hj
      rcases hI.old i hi with h | h
      · exact hout i h ⟨by omega, g.2⟩
      · omega
    have fnd : ∀ i p, (i, p) ∈ bindPT (.pair k.2.1 q.2.2.1) (.pair pl' qs) → find (bindPT (.pair k.2.1 q.2.2.1) (.pair pl' qs)) i = some p := fun i p hm => find_nodup (by rw [key1]; exact ndA) hm
    have place : ∀ i p, (i, p) ∈ bindPT (.pair k.2.1 q.2.2.1) (.pair pl' qs) → (E1.rebind F' (bindPT (.pair k.2.1 q.2.2.1) (.pair pl' qs))).place i = some p := fun i p hm => by
      show (match find _ i with | some p => some p | none => E1.place i) = some p
      rw [fnd i p hm]
    have hatA := bindPT_at fitA place
    have keysNB : (k.1 ++ q.2.1).map (·.1) = (IT.pair k.2.1 q.2.2.1).ids := by simp only [List.map_append, IT.ids, hI.keys, j4]
    have reps : ∀ i B, (i, B) ∈ k.1 ++ q.2.1 → ∃ p, (E1.rebind F' (bindPT (.pair k.2.1 q.2.2.1) (.pair pl' qs))).place i = some p ∧ BRep (E1.rebind F' (bindPT (.pair k.2.1 q.2.2.1) (.pair pl' qs))) w' p B ∧ p ∈ pl'.list ++ qs.list := fun i B hm => by
      rcases List.mem_append.1 hm with hm | hm
      · have := kOpen_rep (E := E1) (E' := E1.rebind F' (bindPT (.pair k.2.1 q.2.2.1) (.pair pl' qs))) (n := 1000 * (d + 1)) rfl hc.okA hat hk (by rw [hko]; exact hatA.1) i B (by rw [hko]; exact hm)
        obtain ⟨p, e1, e2, e3, _⟩ := this
        exact ⟨p, e1, e2, List.mem_append_left _ e3⟩
      · have := (oOpen_rep (E := E1.rebind F' (bindPT (.pair k.2.1 q.2.2.1) (.pair pl' qs))) (n := k.2.2) rfl hc.okO hor (by rw [hqo]; exact hatA.2)).2 i B (by rw [hqo]; exact hm)
        obtain ⟨p, e1, e2, e3, _⟩ := this
        exact ⟨p, e1, e2, List.mem_append_right _ e3⟩
    have memB : ∀ i B, (i, B) ∈ k.1 ++ q.2.1 → ∃ p, (i, p) ∈ bindPT (.pair k.2.1 q.2.2.1) (.pair pl' qs) := fun i B hm => by
      have : i ∈ (bindPT (.pair k.2.1 q.2.2.1) (.pair pl' qs)).map (·.1) := by
        rw [key1, ← keysNB]
        exact List.mem_map_of_mem (f := (·.1)) hm
      obtain ⟨⟨i', p⟩, h1, h2⟩ := List.mem_map.1 this
      cases h2
      exact ⟨p, h1⟩
    have hsw := hR1.swap (L := it.ids) hown (w' := w') (F' := F') (NB := k.1 ++ q.2.1) (fresh := upTo (1000 * (d + 1)) (q.2.2.2 - 1000 * (d + 1))) (bd := bindPT (.pair k.2.1 q.2.2.1) (.pair pl' qs))
      hF hfrz (fun b o hb => by rcases hsrc b o hb with h | h | h; exact .inl h; exact .inr (.inl h); exact .inr (.inr ((hblk b).1 h)))
      ⟨hkeep.os, hkeep.tape, hkeep.output, hkeep.size, fun b hb hnb => hkeep.block b hb fun h => hnb ((hblk b).1 h)⟩ hnew
      (fun i p hf => by
        have hm := find_mem hf
        simp only [bindPT, List.mem_append] at hm
        rcases hm with hm | hm
        · rcases hfix i p hm with h | h
          · exact .inl (mem_upTo.2 ⟨h.1, by omega⟩)
          · exact .inr h
        · left
          have : i ∈ q.2.2.1.ids := by
            rw [← (bindPT_keys hfit2).1]
            exact List.mem_map_of_mem (f := (·.1)) hm
          have := j2 i this
          exact mem_upTo.2 ⟨by omega, by omega⟩)
      (fun i B hm => by
        have : i ∈ (IT.pair k.2.1 q.2.2.1).ids := by rw [← keysNB]; exact List.mem_map_of_mem (f := (·.1)) hm
        simp only [IT.ids, List.mem_append] at this
        rcases this with h | h
        · rcases hI.old i h with h | h
          · exact .inl h
          · exact .inr (mem_upTo.2 ⟨h.1, by omega⟩)
        · have := j2 i h
          exact .inr (mem_upTo.2 ⟨by omega, by omega⟩))
      (fun i B hm => by
        obtain ⟨p, e1, e2, e3⟩ := reps i B hm
        refine ⟨p, e1, e2, fun hn => ?_⟩
        obtain ⟨g1, g2⟩ := hnew2 p e3 hn
        exact ⟨g1.imp_left (hblk p.blk).1, g2⟩)
      (fun i B j D p r hi hj hij hp hr hpn hrn => by
        obtain ⟨p', hp'⟩ := memB i B hi
        obtain ⟨r', hr'⟩ := memB j D hj
        have e1 := place i p' hp'
        have e2 := place j r' hr'
        rw [hp] at e1
        rw [hr] at e2
        cases e1
        cases e2
        refine NodupP.apart (l := bindPT (.pair k.2.1 q.2.2.1) (.pair pl' qs)) ?_ hp' hr' hij hpn hrn
        rw [key2]
        exact hnp2)
    obtain ⟨hle2, hR2⟩ := hsw
    refine ⟨v, _, rfl, l1.trans hle2, ?_, ?_⟩
    · refine hR2.congr (fun i B hf => ?_) (by simp only; exact fun _ h => h)
      -- the order of freezing and giving away
      have hf : find (putAll (k.1 ++ q.2.1) (applyFro fr (it.ids.foldl rem S.bl))) i = some B := by
        have e : applyBl { val := some (outSV c.outs q.1), blks := fr ++ (k.1 ++ q.2.1), del := it.ids, new := upTo (1000 * (d + 1)) (q.2.2.2 - 1000 * (d + 1)), conds := [c.pre x] } S.bl = putAll (k.1 ++ q.2.1) (applyFro fr (it.ids.foldl rem S.bl)) := by
          simp [applyBl, putAll, applyFro, List.foldl_append]
        rw [← e]
        exact hf
      have swapFind : ∀ {i : Nat}, find (applyFro fr (it.ids.foldl rem S.bl)) i = find (it.ids.foldl rem (applyFro fr S.bl)) i := fun {i} => by
        by_cases hi : i ∈ it.ids
        · have e2 : find (it.ids.foldl rem (applyFro fr S.bl)) i = none := by
            cases h : find (it.ids.foldl rem (applyFro fr S.bl)) i with
            | none => rfl
            | some B => exact absurd hi (find_remAll h).2
          have e3 : find (it.ids.foldl rem S.bl) i = none := by
            cases h : find (it.ids.foldl rem S.bl) i with
            | none => rfl
            | some B => exact absurd hi (find_remAll h).2
          rw [e2, find_applyFro_other (hno i hi), e3]
        · rw [find_remAll_keep hi]
          have gen : ∀ {fr : Fro} {b1 b2 : List (Nat × Blk)}, find b1 i = find b2 i → find (applyFro fr b1) i = find (applyFro fr b2) i := by
            intro fr
            induction fr with
            | nil => intro b1 b2 h; exact h
            | cons p fr ih =>
              intro b1 b2 h
              refine ih ?_
              by_cases e : p.1 = i
              · subst e; rw [find_put_same, find_put_same]
              · rw [find_put_other _ _ _ _ e, find_put_other _ _ _ _ e]; exact h
          exact gen (find_remAll_keep hi)
      have genP : ∀ {l b1 b2 : List (Nat × Blk)}, (∀ {i : Nat}, find b1 i = find b2 i) → ∀ {i : Nat}, find (putAll l b1) i = find (putAll l b2) i := by
        intro l
        induction l with
        | nil => intro b1 b2 h i; exact h
        | cons p l ih =>
          intro b1 b2 h i
          refine ih fun {j} => ?_
          by_cases e : p.1 = j
          · subst e; rw [find_put_same, find_put_same]
          · rw [find_put_other _ _ _ _ e, find_put_other _ _ _ _ e]; exact h
      rw [← genP swapFind]
      exact hf
    · have := (oOpen_rep (E := E1.rebind F' (bindPT (.pair k.2.1 q.2.2.1) (.pair pl' qs))) (n := k.2.2) rfl hc.okO hor (by rw [hqo]; exact hatA.2)).1
      rw [hqo] at this
      exact outSV_rep hov hos this

end Go.Vc
