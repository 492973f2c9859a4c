/-
  Regions, second part: the order of the text, and any order that the machine may draw.
-/
import Derived.Test.YtpnnfimacblhgaaVcm
set_option linter.unusedVariables false
set_option linter.unusedSimpArgs false
namespace Go.Vc
open Go

variable {P : Program} {X : Ctx} {w0 : World} {foot : Foot} {base : Mem} {S : St} {E : Env} {a : Act} {w : World} {ctx : Tags}

theorem condsOf_cons {c : Rec} {cs : List Rec} (h : ∀ p ∈ condsOf (c :: cs), p) : (∀ p ∈ c.conds, p) ∧ ∀ p ∈ condsOf cs, p := by
  simp only [condsOf, List.flatMap_cons, List.mem_append] at h
  exact ⟨fun p hp => h p (.inl hp), fun p hp => h p (.inr hp)⟩

/-- A region that keeps the order of the text. -/
theorem exSeq_sound (hT : TabOk P X.tab) (hK : ∀ f con, X.con f = some con → ConOk P f con) {ops : Array Oper} {Q : Exit → Act → World → Prop} :
    ∀ {l : List Oper} {k : Nat} {S : St} {E : Env} {a : Act} {w : World} {cs : List Rec} {S' : St}, (∀ j, l[j]? = ops[k + j]?) → exSeq X ops l S = some (cs, S') → TRel w0 foot base S E a w → (∀ p ∈ condsOf cs, p) →
    (∀ E' a' w', TRel w0 foot base S' E' a' w' → Q .normal a' w') → wpOps P ops Q (List.range' k l.length) a w
  | [], k, S, E, a, w, cs, S', _, hr, h, _, hQ => by
    cases hr
    exact hQ _ _ _ h
  | o :: l, k, S, E, a, w, cs, S', hl, hr, h, hc, hQ => by
    unfold exSeq at hr
    split at hr
    · cases hr
    · rename_i c hs
      split at hr
      · cases hr
      · rename_i cs' S'' hr'
        cases hr
        obtain ⟨h1, h2, h3, h4, h5, h6, _, _⟩ := stepOp_spec hs
        obtain ⟨c1, c2⟩ := condsOf_cons hc
        have hk : ops[k]? = some o := by have := hl 0; simpa using this.symm
        simp only [List.length_cons, List.range'_succ]
        rw [wpOps_cons]
        refine wpOp_sound hT hK h hk h1 h2 (dstOk_spec h3) (allFresh_spec h4) h5 (fun p hp => c1 _ (by rw [h6]; exact List.mem_map_of_mem hp)) fun E' a' w' h' => ?_
        exact exSeq_sound hT hK (fun j => by have := hl (j + 1); simpa [Nat.add_assoc, Nat.add_comm 1 j] using this) hr' h' c2 hQ

/-! ### Any order -/

def Res.ws (o : Oper) (r : Res) : List Loc :=
  (match o.dst with
    | none => []
    | some d => [.slot d]) ++ (r.blks.map (fun p => .blk p.1) ++ r.del.map .blk)

def locIn : List Loc → Loc → Bool
  | [], _ => false
  | m :: l, n => match m.beq n with
    | true => true
    | false => locIn l n

def meet : List Loc → List Loc → Bool
  | [], _ => false
  | m :: l, k => match locIn k m with
    | true => true
    | false => meet l k

theorem locIn_spec : ∀ {l : List Loc} {n : Loc}, locIn l n = true ↔ n ∈ l
  | [], n => by simp [locIn]
  | m :: l, n => by
    unfold locIn
    split
    · rename_i h
      rw [Loc.beq_eq h]
      simp
    · rename_i h
      have : n ≠ m := fun e => by rw [e, Loc.beq_refl] at h; cases h
      rw [locIn_spec]
      simp [this]

theorem meet_spec : ∀ {l k : List Loc}, meet l k = false → ∀ n ∈ l, n ∉ k
  | [], _, _, n, hn => by cases hn
  | m :: l, k, h, n, hn => by
    unfold meet at h
    split at h
    · cases h
    · rename_i hm
      rcases List.mem_cons.1 hn with rfl | hn
      · intro hk; rw [locIn_spec.2 hk] at hm; cases hm
      · exact meet_spec h n hn

/-- The direct forerunners of an operation that bind in every order. -/
def preds (o : Oper) : List Nat := (o.after.toList.filter (Region.binds .any ·)).map (·.on)

/-- Each number once. -/
def dd : List Nat → List Nat → List Nat
  | [], acc => acc
  | n :: l, acc => match has acc n with
    | true => dd l acc
    | false => dd l (n :: acc)

theorem dd_mem : ∀ {l acc : List Nat} {p : Nat}, p ∈ dd l acc → p ∈ l ∨ p ∈ acc
  | [], acc, p, h => .inr h
  | n :: l, acc, p, h => by
    unfold dd at h
    split at h
    · exact (dd_mem h).imp_left (List.mem_cons_of_mem _)
    · rcases dd_mem h with h | h
      · exact .inl (List.mem_cons_of_mem _ h)
      · rcases List.mem_cons.1 h with rfl | h
        · exact .inl List.mem_cons_self
        · exact .inr h

/-- All forerunners, operation by operation. -/
def ancs : List Oper → List (List Nat) → List (List Nat)
  | [], acc => acc
  | o :: l, acc => ancs l (acc ++ [dd ((preds o).flatMap fun p => p :: acc.getD p []) []])

def apartAll (recs : List Rec) (an : List (List Nat)) : Nat → Bool
  | 0 => true
  | j + 1 => apartAll recs an j && (List.range j).all fun i =>
    has (an.getD j []) i || match recs[i]?, recs[j]? with
      | some c, some d => !(meet (Res.ws c.o c.r) (d.rs ++ Res.ws d.o d.r)) && !(meet (Res.ws d.o d.r) c.rs)
      | _, _ => true

/-- No later operation writes a slot that tags a former one. -/
def tagsApart (recs : List Rec) : Nat → Bool
  | 0 => true
  | j + 1 => tagsApart recs j && (List.range j).all fun i => match recs[i]?, recs[j]? with
      | some c, some d => (match d.o.dst with
        | none => true
        | some t => !mentions c.ctx t)
      | _, _ => true

def predsOk (ops : List Oper) : Nat → Bool
  | 0 => true
  | i + 1 => predsOk ops i && match ops[i]? with
    | some o => (preds o).all (Nat.blt · i)
    | none => true

def clean : List (Nat × (Tags × SV)) → Bool
  | [] => true
  | (_, [], _) :: l => clean l
  | _ => false

/-- A region in whatever order: carried out in the order of the text, and no two operations whose order is open hinder each other. -/
def exDraw (X : Ctx) (ops : Array Oper) (S : St) : Option (List Rec × St) :=
  match exSeq X ops ops.toList S with
  | none => none
  | some (recs, S') => match predsOk ops.toList ops.size && (clean S.sl && (tagsApart recs ops.size && apartAll recs (ancs ops.toList []) ops.size)) with
    | true => some (recs, S')
    | false => none

/-- The state in which just the operations of 'L' have been carried out. -/
def stX (L : Nat → Bool) : List Rec → St → St
  | [], S => S
  | c :: cs, S => stX (fun j => L (j + 1)) cs (match L 0 with
    | true => upd S c.o c.ctx c.r
    | false => S)

theorem Agree.refl (S : St) (l : Loc) : Agree S S l := by cases l <;> rfl
theorem Agree.symm {S S' : St} {l : Loc} (h : Agree S S' l) : Agree S' S l := by cases l <;> exact Eq.symm h
theorem Agree.trans {S S' S'' : St} {l : Loc} (h : Agree S S' l) (k : Agree S' S'' l) : Agree S S'' l := by cases l <;> exact Eq.trans k h

theorem applyBl_other {r : Res} {b : Nat} (h : .blk b ∉ r.blks.map (fun p => Loc.blk p.1) ++ r.del.map Loc.blk) (bl : List (Nat × Blk)) : find (applyBl r bl) b = find bl b := by
  simp only [List.mem_append, List.mem_map, not_or, not_exists, not_and, Loc.blk.injEq] at h
  have h1 : ∀ (l : List (Nat × Blk)) (bl : List (Nat × Blk)), (∀ p ∈ l, p.1 ≠ b) → find (l.foldl (fun l p => put l p.1 p.2) bl) b = find bl b := by
    intro l
    induction l with
    | nil => intro bl _; rfl
    | cons p l ih =>
      intro bl hp
      simp only [List.foldl_cons]
      rw [ih _ fun q hq => hp q (List.mem_cons_of_mem _ hq), find_put_other _ _ _ _ (hp p List.mem_cons_self)]
  have h2 : ∀ (l : List Nat) (bl : List (Nat × Blk)), (∀ p ∈ l, p ≠ b) → find (l.foldl rem bl) b = find bl b := by
    intro l
    induction l with
    | nil => intro bl _; rfl
    | cons p l ih =>
      intro bl hp
      simp only [List.foldl_cons]
      rw [ih _ fun q hq => hp q (List.mem_cons_of_mem _ hq), find_rem_other _ _ _ (hp p List.mem_cons_self)]
  unfold applyBl
  rw [h1 _ _ fun p hp => h.1 p hp, h2 _ _ fun p hp => h.2 p hp]

theorem applyBl_same {r : Res} {b : Nat} (h : .blk b ∈ r.blks.map (fun p => Loc.blk p.1) ++ r.del.map Loc.blk) (bl bl' : List (Nat × Blk)) : find (applyBl r bl) b = find (applyBl r bl') b := by
  have h1 : ∀ (l : List (Nat × Blk)) (bl bl' : List (Nat × Blk)), (find bl b = find bl' b ∨ ∃ p ∈ l, p.1 = b) → find (l.foldl (fun l p => put l p.1 p.2) bl) b = find (l.foldl (fun l p => put l p.1 p.2) bl') b := by
    intro l
    induction l with
    | nil => intro bl bl' hp; rcases hp with hp | ⟨p, hp, _⟩; exact hp; cases hp
    | cons p l ih =>
      intro bl bl' hp
      simp only [List.foldl_cons]
      refine ih _ _ ?_
      by_cases hb : p.1 = b
      · exact .inl (by rw [← hb, find_put_same, find_put_same])
      · rcases hp with hp | ⟨q, hq, hqb⟩
        · exact .inl (by rw [find_put_other _ _ _ _ hb, find_put_other _ _ _ _ hb, hp])
        · rcases List.mem_cons.1 hq with rfl | hq
          · exact absurd hqb hb
          · exact .inr ⟨q, hq, hqb⟩
  have h2 : ∀ (l : List Nat) (bl : List (Nat × Blk)), (find bl b = none ∨ b ∈ l) → find (l.foldl rem bl) b = none := by
    intro l
    induction l with
    | nil => intro bl hp; rcases hp with hp | hp; exact hp; cases hp
    | cons p l ih =>
      intro bl hp
      simp only [List.foldl_cons]
      refine ih _ ?_
      by_cases hb : p = b
      · exact .inl (by rw [← hb, find_rem_same])
      · rcases hp with hp | hp
        · exact .inl (by rw [find_rem_other _ _ _ hb]; exact hp)
        · rcases List.mem_cons.1 hp with rfl | hp
          · exact absurd rfl hb
          · exact .inr hp
  unfold applyBl
  refine h1 _ _ _ ?_
  by_cases hm : ∃ p ∈ r.blks, p.1 = b
  · exact .inr hm
  · refine .inl ?_
    rcases List.mem_append.1 h with h | h
    · obtain ⟨p, hp, he⟩ := List.mem_map.1 h
      exact absurd ⟨p, hp, by simpa using he⟩ hm
    · have : b ∈ r.del := by
        obtain ⟨p, hp, he⟩ := List.mem_map.1 h
        simp only [Loc.blk.injEq] at he
        exact he ▸ hp
      rw [h2 _ _ (.inr this), h2 _ _ (.inr this)]

theorem upd_other {o : Oper} {r : Res} {l : Loc} (h : l ∉ Res.ws o r) : Agree S (upd S o ctx r) l := by
  cases l with
  | slot n =>
    show find (upd S o ctx r).sl n = find S.sl n
    unfold upd
    simp only
    cases ho : o.dst with
    | none => rfl
    | some d =>
      have hn : d ≠ n := fun e => h (by simp [Res.ws, ho, e])
      simp only
      split
      · exact find_put_other _ _ _ _ hn
      · exact find_rem_other _ _ _ hn
  | blk b =>
    show find (applyBl r S.bl) b = find S.bl b
    exact applyBl_other (fun hm => h (by unfold Res.ws; exact List.mem_append_right _ hm)) _

theorem upd_same {S' : St} {o : Oper} {r : Res} {l : Loc} (h : l ∈ Res.ws o r) : Agree (upd S o ctx r) (upd S' o ctx r) l := by
  cases l with
  | slot n =>
    show find (upd S' o ctx r).sl n = find (upd S o ctx r).sl n
    unfold Res.ws at h
    unfold upd
    simp only
    cases ho : o.dst with
    | none => rw [ho] at h; simp at h
    | some d =>
      rw [ho] at h
      have hn : n = d := by simpa using h
      subst hn
      simp only
      split
      · rw [find_put_same, find_put_same]
      · rw [find_rem_same, find_rem_same]
  | blk b =>
    refine applyBl_same ?_ _ _
    unfold Res.ws at h
    rcases List.mem_append.1 h with h | h
    · split at h
      · cases h
      · simp at h
    · exact h

theorem stX_agree : ∀ {recs : List Rec} {L M : Nat → Bool} {S S' : St} {l : Loc}, Agree S S' l → (∀ i c, recs[i]? = some c → l ∈ Res.ws c.o c.r → L i = M i) → Agree (stX L recs S) (stX M recs S') l
  | [], _, _, _, _, _, h, _ => h
  | c :: cs, L, M, S, S', l, h, hw => by
    refine stX_agree (recs := cs) ?_ fun i d hi hl => hw (i + 1) d (by simpa using hi) hl
    by_cases hl : l ∈ Res.ws c.o c.r
    · rw [← hw 0 c rfl hl]
      split
      · exact upd_same hl
      · exact h
    · have h1 : ∀ (b : Bool) (S : St), Agree S (match b with | true => upd S c.o c.ctx c.r | false => S) l := fun b S => by
        cases b
        · exact .refl _ _
        · exact upd_other hl
      exact ((h1 (L 0) S).symm.trans h).trans (h1 (M 0) S')

theorem stX_last : ∀ {recs : List Rec} {L : Nat → Bool} {S S' : St} {l : Loc} {i : Nat} {c : Rec}, recs[i]? = some c → L i = true → l ∈ Res.ws c.o c.r → (∀ j d, i < j → recs[j]? = some d → l ∈ Res.ws d.o d.r → L j = false) →
    Agree (upd S' c.o c.ctx c.r) (stX L recs S) l
  | [], _, _, _, _, i, _, h, _, _, _ => by simp at h
  | d :: cs, L, S, S', l, 0, c, h, hL, hl, hj => by
    simp only [List.getElem?_cons_zero, Option.some.injEq] at h
    subst h
    unfold stX
    rw [hL]
    have h1 : Agree (stX (fun _ => false) cs (upd S d.o d.ctx d.r)) (stX (fun j => L (j + 1)) cs (upd S d.o d.ctx d.r)) l :=
      stX_agree (.refl _ _) fun i e hi hl' => (hj (i + 1) e (by omega) (by simpa using hi) hl').symm
    have h2 : ∀ (cs : List Rec) (S : St), stX (fun _ => false) cs S = S := by
      intro cs
      induction cs with
      | nil => intro S; rfl
      | cons c cs ih => intro S; exact ih S
    rw [h2] at h1
    exact (upd_same hl).trans h1
  | d :: cs, L, S, S', l, i + 1, c, h, hL, hl, hj =>
    stX_last (recs := cs) (L := fun j => L (j + 1)) (by simpa using h) hL hl fun j e hij he hl' => hj (j + 1) e (by omega) (by simpa using he) hl'

theorem stX_used : ∀ {recs : List Rec} {L : Nat → Bool} {S : St} {id : Nat}, id ∈ (stX L recs S).used ↔ id ∈ S.used ∨ ∃ i c, recs[i]? = some c ∧ L i = true ∧ id ∈ c.r.new
  | [], L, S, id => by simp [stX]
  | c :: cs, L, S, id => by
    unfold stX
    rw [stX_used]
    constructor
    · rintro (h | ⟨i, d, h1, h2, h3⟩)
      · split at h
        · rename_i hL
          rcases List.mem_append.1 h with h | h
          · exact .inr ⟨0, c, rfl, hL, h⟩
          · exact .inl h
        · exact .inl h
      · exact .inr ⟨i + 1, d, by simpa using h1, h2, h3⟩
    · rintro (h | ⟨i, d, h1, h2, h3⟩)
      · refine .inl ?_
        split
        · exact List.mem_append_right _ h
        · exact h
      · cases i with
        | zero =>
          simp only [List.getElem?_cons_zero, Option.some.injEq] at h1
          subst h1
          refine .inl ?_
          rw [h2]
          exact List.mem_append_left _ h3
        | succ i => exact .inr ⟨i, d, by simpa using h1, h2, h3⟩

theorem stX_n : ∀ {recs : List Rec} {L : Nat → Bool} {S : St}, (stX L recs S).n = S.n
  | [], _, _ => rfl
  | c :: cs, L, S => by unfold stX; rw [stX_n]; split <;> rfl

theorem stX_pin : ∀ {recs : List Rec} {L : Nat → Bool} {S : St}, (stX L recs S).pin = S.pin
  | [], _, _ => rfl
  | c :: cs, L, S => by unfold stX; rw [stX_pin]; split <;> rfl

theorem stX_slots : ∀ {recs : List Rec} {L : Nat → Bool} {S : St} {n : Nat} {ts : Tags} {v : SV}, find (stX L recs S).sl n = some (ts, v) → find S.sl n = some (ts, v) ∨ ∃ i c, recs[i]? = some c ∧ L i = true ∧ ts = c.ctx
  | [], L, S, n, ts, v, h => .inl h
  | c :: cs, L, S, n, ts, v, h => by
    unfold stX at h
    rcases stX_slots h with h | ⟨i, d, h1, h2, h3⟩
    · split at h
      · rename_i hL
        by_cases hn : Loc.slot n ∈ Res.ws c.o c.r
        · unfold upd at h
          simp only at h
          unfold Res.ws at hn
          cases ho : c.o.dst with
          | none => rw [ho] at h; exact .inl h
          | some d =>
            rw [ho] at h
            simp only at h
            split at h
            · by_cases hnd : n = d
              · subst hnd
                rw [find_put_same] at h
                cases h
                exact .inr ⟨0, c, rfl, hL, rfl⟩
              · rw [find_put_other _ _ _ _ (Ne.symm hnd)] at h
                exact .inl h
            · exact .inl (find_rem_some h).1
        · have := upd_other (S := S) (ctx := c.ctx) hn
          have : find (upd S c.o c.ctx c.r).sl n = find S.sl n := this
          rw [this] at h
          exact .inl h
      · exact .inl h
    · exact .inr ⟨i + 1, d, by simpa using h1, h2, h3⟩

/-- What the run in the order of the text says of each operation. -/
theorem exSeq_at {ops : Array Oper} : ∀ {l : List Oper} {S : St} {recs : List Rec} {S' : St}, exSeq X ops l S = some (recs, S') →
    recs.length = l.length ∧ S' = stX (fun _ => true) recs S ∧ ∀ i o, l[i]? = some o → ∃ c, recs[i]? = some c ∧ stepOp X ops (stX (fun j => decide (j < i)) recs S) o = some c
  | [], S, recs, S', h => by
    cases h
    exact ⟨rfl, rfl, fun i o hi => by simp at hi⟩
  | o :: l, S, recs, S', h => by
    unfold exSeq at h
    split at h
    · cases h
    · rename_i c hc
      split at h
      · cases h
      · rename_i cs S'' hcs
        cases h
        obtain ⟨h1, h2, h3⟩ := exSeq_at hcs
        have hco := (stepOp_spec hc).2.2.2.2.2.2.1
        refine ⟨by simp [h1], ?_, fun i o' hi => ?_⟩
        · rw [h2, ← hco]
          rfl
        · cases i with
          | zero =>
            simp only [List.getElem?_cons_zero, Option.some.injEq] at hi
            subst hi
            have h2 : ∀ (cs : List Rec) (S : St), stX (fun j => decide (j < 0)) cs S = S := by
              intro cs S
              have : (fun j => decide (j < 0)) = fun _ => false := by funext j; simp
              rw [this]
              induction cs generalizing S with
              | nil => rfl
              | cons c cs ih => exact ih S
            exact ⟨c, rfl, by rw [h2]; exact hc⟩
          | succ i =>
            obtain ⟨d, h4, h5⟩ := h3 i o' (by simpa using hi)
            refine ⟨d, by simpa using h4, ?_⟩
            have e : stX (fun j => decide (j < i + 1)) (c :: cs) S = stX (fun j => decide (j < i)) cs (upd S o c.ctx c.r) := by
              show stX (fun j => decide (j + 1 < i + 1)) cs (upd S c.o c.ctx c.r) = _
              rw [hco]
              congr 1
              funext j
              simp
            rw [e]
            exact h5

end Go.Vc
