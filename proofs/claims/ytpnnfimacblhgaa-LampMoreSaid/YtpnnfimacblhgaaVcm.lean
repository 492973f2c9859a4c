/-
  Regions: the operations of a statement one behind the other, with their guards; and in whatever order the machine draws.
-/
import Derived.Test.YtpnnfimacblhgaaVcl
set_option linter.unusedVariables false
set_option linter.unusedSimpArgs false
namespace Go.Vc
open Go

variable {P : Program} {X : Ctx} {w0 : World} {foot : Foot} {base : Mem} {S : St} {E : Env} {a : Act} {w : World} {ctx : Tags}

/-! ### One operation behind the other -/

def boolAt (S : St) (n : Nat) : Option Bool :=
  match find S.sl n with
  | some (_, .one (.dat .bool b)) => some (Ty.B b)
  | _ => none

def wrapP (S : St) : Tags → Prop → Prop
  | [], p => p
  | (n, want) :: ts, p => wrapP S ts (match boolAt S n with
    | some g => g = want → p
    | none => p)

def guardCtx (S : St) (ops : Array Oper) (o : Oper) : Option Tags :=
  match o.guard with
  | none => some []
  | some (j, want) => match (ops[j]?).bind (·.dst) with
    | some d => (match find S.sl d with
      | some (tags, _) => some ((d, want) :: tags)
      | none => none)
    | none => none

def mentions : Tags → Nat → Bool
  | [], _ => false
  | (m, _) :: l, n => match Nat.beq m n with
    | true => true
    | false => mentions l n

theorem mentions_spec : ∀ {l : Tags} {n : Nat}, mentions l n = false → ∀ t ∈ l, t.1 ≠ n
  | [], _, _, t, ht => by cases ht
  | (m, b) :: l, n, h, t, ht => by
    unfold mentions at h
    split at h
    · cases h
    · rename_i hb
      rcases List.mem_cons.1 ht with rfl | ht
      · intro e; simp only at e; subst e; simp at hb
      · exact mentions_spec h t ht

structure Rec where
  o : Oper
  ctx : Tags
  r : Res
  conds : List Prop
  rs : List Loc

/-- The state behind an operation. -/
def upd (S : St) (o : Oper) (ctx : Tags) (r : Res) : St :=
  { sl := (match o.dst with
      | none => S.sl
      | some d => (match r.val with
        | some v => put S.sl d (ctx, v)
        | none => rem S.sl d))
    bl := applyBl r S.bl
    used := r.new ++ S.used
    n := S.n
    pin := S.pin }

def noTag (d : Nat) : List (Nat × (Tags × SV)) → Bool
  | [] => true
  | (_, ts, _) :: l => match mentions ts d with
    | true => false
    | false => noTag d l

def allFresh (used : List Nat) : List Nat → Bool
  | [] => true
  | n :: l => match has used n || has l n with
    | true => false
    | false => allFresh used l

/-- May the operation's answer be laid down? -/
def dstOk (S : St) (ctx : Tags) (o : Oper) : Bool :=
  match o.dst with
  | none => true
  | some d => Nat.blt d S.n && (noTag d S.sl && !mentions ctx d)

def guardedOk (ctx : Tags) (r : Res) : Bool :=
  match ctx with
  | [] => true
  | _ => r.blks.isEmpty && (r.del.isEmpty && r.new.isEmpty)

def stepOp (X : Ctx) (ops : Array Oper) (S : St) (o : Oper) : Option Rec :=
  match guardCtx S ops o with
  | none => none
  | some ctx => match (exOp X o).run S ctx with
    | none => none
    | some r => match dstOk S ctx o && (allFresh S.used r.new && guardedOk ctx r) with
      | true => some { o, ctx, r, conds := r.conds.map (wrapP S ctx), rs := ctx.map (fun t => .slot t.1) ++ (exOp X o).reads S ctx }
      | false => none

/-- The operations of a region in the order of the text. -/
def exSeq (X : Ctx) (ops : Array Oper) : List Oper → St → Option (List Rec × St)
  | [], S => some ([], S)
  | o :: l, S => match stepOp X ops S o with
    | none => none
    | some c => match exSeq X ops l (upd S o c.ctx c.r) with
      | none => none
      | some (cs, S') => some (c :: cs, S')

def condsOf (cs : List Rec) : List Prop := cs.flatMap (·.conds)

/-! ### The relation with tags -/

/-- The relation of a state that has tagged slots: a slot whose tags do not hold bears no value. -/
structure TRel (w0 : World) (foot : Foot) (base : Mem) (S : St) (E : Env) (a : Act) (w : World) : Prop extends SRel w0 foot base S E a w where
  untagged : ∀ n ts v, find S.sl n = some (ts, v) → ¬ TagsHold a ts → a.tmps.getD n undef = undef

theorem wrapP_elim (h : SRel w0 foot base S E a w) : ∀ {ts : Tags} {p : Prop}, TagsHold a ts → (∀ t ∈ ts, ∀ tags v, find S.sl t.1 = some (tags, v) → TagsHold a tags) → wrapP S ts p → p
  | [], p, _, _, hp => hp
  | (n, want) :: ts, p, ht, hd, hp => by
    have ih := wrapP_elim h (ts := ts) (fun t h' => ht t (List.mem_cons_of_mem _ h')) (fun t h' => hd t (List.mem_cons_of_mem _ h')) hp
    split at ih
    · rename_i g hg
      refine ih ?_
      unfold boolAt at hg
      split at hg
      · rename_i tags b hf
        cases hg
        have hv := h.slots _ _ _ hf (hd (n, want) List.mem_cons_self _ _ hf)
        have hn := ht (n, want) List.mem_cons_self
        simp only at hn
        rw [Array.getD_eq_getD_getElem?, hn] at hv
        obtain ⟨_, hv⟩ := hv
        simp only [Rep, Option.getD_some, List.cons.injEq, and_true] at hv
        exact (Value.bool.inj hv).symm
      · cases hg
    · exact ih

theorem tmps_put {d n : Nat} {v : Value} (h : n ≠ d) : (a.put (some d) v).tmps[n]? = a.tmps[n]? := by
  simp [Act.put, Array.getElem?_setIfInBounds_ne (Ne.symm h)]

theorem tmps_put_same {d : Nat} {v : Value} (h : d < a.tmps.size) : (a.put (some d) v).tmps[d]? = some v := by
  simp [Act.put, h]

theorem TagsHold.put {d : Nat} {v : Value} {ts : Tags} (h : ∀ t ∈ ts, t.1 ≠ d) : TagsHold (a.put (some d) v) ts ↔ TagsHold a ts :=
  ⟨fun k t ht => by have := k t ht; rwa [tmps_put (h t ht)] at this, fun k t ht => by rw [tmps_put (h t ht)]; exact k t ht⟩

theorem noTag_spec : ∀ {l : List (Nat × (Tags × SV))} {d : Nat}, noTag d l = true → ∀ n ts v, find l n = some (ts, v) → ∀ t ∈ ts, t.1 ≠ d
  | [], _, _, n, ts, v, h => by cases h
  | (m, ts', v') :: l, d, h, n, ts, v, hf => by
    unfold noTag at h
    split at h
    · cases h
    · rename_i hm
      unfold find at hf
      split at hf
      · cases hf
        exact mentions_spec hm
      · exact noTag_spec h n ts v hf

theorem allFresh_spec : ∀ {l used : List Nat}, allFresh used l = true → ∀ i ∈ l, i ∉ used
  | [], _, _, i, hi => by cases hi
  | n :: l, used, h, i, hi => by
    unfold allFresh at h
    split at h
    · cases h
    · rename_i hb
      simp only [Bool.or_eq_false_iff] at hb
      rcases List.mem_cons.1 hi with rfl | hi
      · intro hu; rw [has_mem.2 hu] at hb; cases hb.1
      · exact allFresh_spec h i hi

theorem SRel.heap_mono {S' : St} {E' : Env} {w' : World} (h : SRel w0 foot base S E a w) (hle : E.le E') (hh : HRel w0 foot base S'.bl S'.used E' w') (hs : S'.sl = S.sl) (hn : S'.n = S.n) (hp : S'.pin = S.pin) : SRel w0 foot base S' E' a w' :=
  { toHRel := hh, slots := fun n ts v hf ht => (h.slots n ts v (hs ▸ hf) ht).mono hle, size := hn ▸ h.size, defers := h.defers, pins := fun n p h1 => ⟨hp ▸ (h.pins n p h1).1, hle.place _ _ (h.pins n p h1).2⟩ }

/-- An operation's answer may be laid down: its slot tags no other one. -/
def DstOk (S : St) (ctx : Tags) (o : Oper) : Prop :=
  ∀ d, o.dst = some d → d < S.n ∧ (∀ n ts v, find S.sl n = some (ts, v) → ∀ t ∈ ts, t.1 ≠ d) ∧ ∀ t ∈ ctx, t.1 ≠ d

theorem dstOk_spec {S : St} {ctx : Tags} {o : Oper} (h : dstOk S ctx o = true) : DstOk S ctx o := fun d hd => by
  unfold dstOk at h
  rw [hd] at h
  simp only [Bool.and_eq_true, Bool.not_eq_true'] at h
  exact ⟨Nat.le_of_ble_eq_true h.1, noTag_spec h.2.1, mentions_spec h.2.2⟩

/-- The relation behind an operation that was carried out. -/
theorem TRel.step (h : TRel w0 foot base S E a w) {o : Oper} {r : Res} {E' : Env} {w' : World} {v : Value} (hd : DstOk S ctx o) (hc : TagsHold a ctx) (hA : After w0 foot base S.bl S.used E r E' w' v) :
    TRel w0 foot base (upd S o ctx r) E' (a.put o.dst v) w' := by
  cases ho : o.dst with
  | none =>
    have hs : (upd S o ctx r).sl = S.sl := by simp [upd, ho]
    exact { toSRel := h.toSRel.heap_mono hA.le hA.heap hs rfl rfl, untagged := fun n ts u hf hn => h.untagged n ts u (hs ▸ hf) hn }
  | some d =>
    obtain ⟨hlt, hno, hctx⟩ := hd d ho
    rw [← h.size] at hlt
    have old : ∀ n ts u, n ≠ d → find S.sl n = some (ts, u) → (TagsHold (a.put (some d) v) ts → SRep E' u ((a.put (some d) v).tmps.getD n undef)) ∧ (¬ TagsHold (a.put (some d) v) ts → (a.put (some d) v).tmps.getD n undef = undef) := fun n ts u hn hf => by
      rw [TagsHold.put (hno n ts u hf), Array.getD_eq_getD_getElem?, tmps_put hn, ← Array.getD_eq_getD_getElem?]
      exact ⟨fun ht => (h.slots n ts u hf ht).mono hA.le, h.untagged n ts u hf⟩
    have size : (a.put (some d) v).tmps.size = S.n := by simp [Act.put, h.size]
    cases hv : r.val with
    | none =>
      have hs : (upd S o ctx r).sl = rem S.sl d := by simp [upd, ho, hv]
      exact { toHRel := hA.heap, slots := fun n ts u hf ht => by
                rw [hs] at hf
                obtain ⟨hf, hn⟩ := find_rem_some hf
                exact (old n ts u (Ne.symm hn) hf).1 ht
              size := size, defers := h.defers, pins := fun n p h1 => ⟨(h.pins n p h1).1, hA.le.place _ _ (h.pins n p h1).2⟩, untagged := fun n ts u hf ht => by
                rw [hs] at hf
                obtain ⟨hf, hn⟩ := find_rem_some hf
                exact (old n ts u (Ne.symm hn) hf).2 ht }
    | some s =>
      have hs : (upd S o ctx r).sl = put S.sl d (ctx, s) := by simp [upd, ho, hv]
      have hval := hA.val
      rw [hv] at hval
      refine { toHRel := hA.heap, slots := fun n ts u hf ht => ?_, size := size, defers := h.defers, pins := fun n p h1 => ⟨(h.pins n p h1).1, hA.le.place _ _ (h.pins n p h1).2⟩, untagged := fun n ts u hf ht => ?_ }
      · rw [hs] at hf
        by_cases hn : n = d
        · subst hn
          rw [find_put_same] at hf
          cases hf
          rw [Array.getD_eq_getD_getElem?, tmps_put_same hlt]
          exact hval
        · rw [find_put_other _ _ _ _ (Ne.symm hn)] at hf
          exact (old n ts u hn hf).1 ht
      · rw [hs] at hf
        by_cases hn : n = d
        · subst hn
          rw [find_put_same] at hf
          cases hf
          exact absurd ((TagsHold.put hctx).2 hc) ht
        · rw [find_put_other _ _ _ _ (Ne.symm hn)] at hf
          exact (old n ts u hn hf).2 ht

/-- The relation behind an operation that its guard left out. -/
theorem TRel.skip (h : TRel w0 foot base S E a w) {o : Oper} {r : Res} (hd : DstOk S ctx o) (hg : guardedOk ctx r = true) (hc : ¬ TagsHold a ctx) :
    TRel w0 foot base (upd S o ctx r) E (a.put o.dst undef) w := by
  have hne : r.blks = [] ∧ r.del = [] ∧ r.new = [] := by
    unfold guardedOk at hg
    split at hg
    · exact absurd (fun t ht => by cases ht) hc
    · simpa using hg
  have hb : applyBl r S.bl = S.bl := by simp [applyBl, hne.1, hne.2.1]
  have hheap : HRel w0 foot base (applyBl r S.bl) (r.new ++ S.used) E w := by rw [hb, hne.2.2]; exact h.toHRel
  cases ho : o.dst with
  | none =>
    have hs : (upd S o ctx r).sl = S.sl := by simp [upd, ho]
    exact { toSRel := h.toSRel.heap_mono (.refl _) hheap hs rfl rfl, untagged := fun n ts u hf hn => h.untagged n ts u (hs ▸ hf) hn }
  | some d =>
    obtain ⟨hlt, hno, hctx⟩ := hd d ho
    rw [← h.size] at hlt
    have old : ∀ n ts u, n ≠ d → find S.sl n = some (ts, u) → (TagsHold (a.put (some d) undef) ts → SRep E u ((a.put (some d) undef).tmps.getD n undef)) ∧ (¬ TagsHold (a.put (some d) undef) ts → (a.put (some d) undef).tmps.getD n undef = undef) := fun n ts u hn hf => by
      rw [TagsHold.put (hno n ts u hf), Array.getD_eq_getD_getElem?, tmps_put hn, ← Array.getD_eq_getD_getElem?]
      exact ⟨fun ht => h.slots n ts u hf ht, h.untagged n ts u hf⟩
    have size : (a.put (some d) undef).tmps.size = S.n := by simp [Act.put, h.size]
    cases hv : r.val with
    | none =>
      have hs : (upd S o ctx r).sl = rem S.sl d := by simp [upd, ho, hv]
      exact { toHRel := hheap, slots := fun n ts u hf ht => by
                rw [hs] at hf
                obtain ⟨hf, hn⟩ := find_rem_some hf
                exact (old n ts u (Ne.symm hn) hf).1 ht
              size := size, defers := h.defers, pins := h.pins, untagged := fun n ts u hf ht => by
                rw [hs] at hf
                obtain ⟨hf, hn⟩ := find_rem_some hf
                exact (old n ts u (Ne.symm hn) hf).2 ht }
    | some s =>
      have hs : (upd S o ctx r).sl = put S.sl d (ctx, s) := by simp [upd, ho, hv]
      refine { toHRel := hheap, slots := fun n ts u hf ht => ?_, size := size, defers := h.defers, pins := h.pins, untagged := fun n ts u hf ht => ?_ }
      · rw [hs] at hf
        by_cases hn : n = d
        · subst hn
          rw [find_put_same] at hf
          cases hf
          exact absurd ((TagsHold.put hctx).1 ht) hc
        · rw [find_put_other _ _ _ _ (Ne.symm hn)] at hf
          exact (old n ts u hn hf).1 ht
      · rw [hs] at hf
        by_cases hn : n = d
        · subst hn
          rw [Array.getD_eq_getD_getElem?, tmps_put_same hlt]
          rfl
        · rw [find_put_other _ _ _ _ (Ne.symm hn)] at hf
          exact (old n ts u hn hf).2 ht

theorem stepOp_spec {ops : Array Oper} {o : Oper} {c : Rec} (h : stepOp X ops S o = some c) :
    guardCtx S ops o = some c.ctx ∧ (exOp X o).run S c.ctx = some c.r ∧ dstOk S c.ctx o = true ∧ allFresh S.used c.r.new = true ∧ guardedOk c.ctx c.r = true ∧ c.conds = c.r.conds.map (wrapP S c.ctx) ∧ c.o = o ∧
      c.rs = c.ctx.map (fun t => .slot t.1) ++ (exOp X o).reads S c.ctx := by
  unfold stepOp at h
  split at h
  · cases h
  · rename_i ctx hg
    split at h
    · cases h
    · rename_i r hr
      split at h
      · rename_i hb
        cases h
        simp only [Bool.and_eq_true] at hb
        exact ⟨hg, hr, hb.1, hb.2.1, hb.2.2, rfl, rfl, rfl⟩
      · cases h

/-- An operation with its guard. -/
theorem wpOp_sound (hT : TabOk P X.tab) (hK : ∀ f con, X.con f = some con → ConOk P f con) (h : TRel w0 foot base S E a w) {ops : Array Oper} {i : Nat} {o : Oper} {r : Res} (hi : ops[i]? = some o)
    (hg : guardCtx S ops o = some ctx) (hr : (exOp X o).run S ctx = some r) (hd : DstOk S ctx o) (hn : ∀ i ∈ r.new, i ∉ S.used) (hgo : guardedOk ctx r = true) (hcond : ∀ c ∈ r.conds, wrapP S ctx c)
    {Q : Exit → Act → World → Prop} {K : Act → World → Prop} (hK' : ∀ E' a' w', TRel w0 foot base (upd S o ctx r) E' a' w' → K a' w') : wpOp P ops Q i K a w := by
  unfold wpOp
  simp only [hi]
  have htag : Region.wanted o (yielded ops a.tmps) = true → TagsHold a ctx ∧ ∀ t ∈ ctx, ∀ tags v, find S.sl t.1 = some (tags, v) → TagsHold a tags := fun hw => by
    have gen : ∀ n b tags v, a.tmps[n]? = some (.bool b) → find S.sl n = some (tags, v) → TagsHold a tags := fun n b tags v hv hf => by
      refine Classical.byContradiction fun hn => ?_
      have := h.untagged n tags v hf hn
      rw [Array.getD_eq_getD_getElem?, hv] at this
      simp [undef] at this
    have all : TagsHold a ctx := by
      unfold guardCtx at hg
      cases hog : o.guard with
      | none => rw [hog] at hg; cases hg; intro t ht; cases ht
      | some jw =>
        obtain ⟨j, want⟩ := jw
        rw [hog] at hg
        simp only at hg
        split at hg
        · rename_i d hd'
          split at hg
          · rename_i tags v hf
            cases hg
            have hv : a.tmps[d]? = some (.bool want) := by
              unfold Region.wanted at hw
              rw [hog] at hw
              simp only [yielded, hd', Option.bind_some, beq_iff_eq] at hw
              split at hw
              · rename_i b hb
                cases hw
                exact hb
              · cases hw
            intro t ht
            rcases List.mem_cons.1 ht with rfl | ht
            · exact hv
            · exact gen d want tags v hv hf t ht
          · cases hg
        · cases hg
    exact ⟨all, fun t ht tags v hf => gen t.1 t.2 tags v (all t ht) hf⟩
  split
  · rename_i hw
    obtain ⟨ht, htt⟩ := htag hw
    refine .inl (exOp_sound hT hK h.toSRel ht hr hn (fun c hc => wrapP_elim h.toSRel ht htt (hcond c hc)) K Q fun E' w' v hA => hK' E' _ _ (h.step hd ht hA))
  · rename_i hw
    refine hK' E _ _ (h.skip hd hgo fun ht => hw ?_)
    unfold Region.wanted
    unfold guardCtx at hg
    cases hog : o.guard with
    | none => rfl
    | some jw =>
      obtain ⟨j, want⟩ := jw
      rw [hog] at hg
      simp only at hg ⊢
      split at hg
      · rename_i d hd'
        split at hg
        · cases hg
          have := ht (d, want) List.mem_cons_self
          simp only at this
          simp [yielded, hd', this]
        · cases hg
      · cases hg

end Go.Vc
