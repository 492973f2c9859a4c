/-
  Regions by ways: one operation behind the other, each guard parted into its two ways; a slice compared with nil.
-/
import Derived.Test.YtpnnfimacblhgaaVcp
set_option linter.unusedVariables false
set_option linter.unusedSimpArgs false
namespace Go.Vc
open Go

variable {P : Program} {X : Ctx} {w0 : World} {foot : Foot} {base : Mem} {S : St} {E : Env} {a : Act} {w : World} {ctx : Tags}

def conjP : List Prop → Prop → Prop
  | [], q => q
  | p :: ps, q => p ∧ conjP ps q

theorem conjP_elim : ∀ {ps : List Prop} {q : Prop}, conjP ps q → (∀ p ∈ ps, p) ∧ q
  | [], q, h => ⟨fun p hp => (by cases hp), h⟩
  | p :: ps, q, h => ⟨fun r hr => by
      rcases List.mem_cons.1 hr with rfl | hr
      · exact h.1
      · exact (conjP_elim h.2).1 r hr, (conjP_elim h.2).2⟩

/-- Truth values that are known on a way. -/
abbrev Known := List (Nat × Bool)

def DHold (D : Known) (a : Act) : Prop := ∀ t v, find D t = some v → a.tmps[t]? = some (.bool v)

def knownX (D : Known) : Operand → Option Bool
  | .tmp t => find D t
  | .const (.bool v) => some v
  | _ => none

def setD (D : Known) (dst : Option Nat) (v : Option Bool) : Known :=
  match dst with
  | none => D
  | some d => match v with
    | some b => put D d b
    | none => rem D d

def wayOp (X : Ctx) (D : Known) (o : Oper) : RM Res × Option Bool :=
  match o.op with
  | .pick (.tmp c) x y => (match find D c with
    | some true => (do pureV (← ev x), knownX D x)
    | some false => (do pureV (← ev y), knownX D y)
    | none => (exOp X o, none))
  | .move x => (do pureV (← ev x), knownX D x)
  | .assign x => (do pureV (← ev x), knownX D x)
  | _ => (exOp X o, none)

def isNilSlice : Operand → Bool
  | .const (.slice none 0 0) => true
  | _ => false

/-- A slice compared with nil: is it '!=', and what follows if it is nil. -/
def nilCmp (X : Ctx) (S : St) (o : Oper) : Option (Bool × Prop) :=
  match o.op with
  | .binOp op t x y _ => (match isNilSlice y, op with
    | true, .eql => (match (do let i ← ti X t; let s ← ev x; return (i.d, s) : RM (TD × SV)).run S [] with
      | some (.slice _, .one (.dat (.list _) xs)) => some (false, Ty.L xs = [])
      | _ => none)
    | true, .neq => (match (do let i ← ti X t; let s ← ev x; return (i.d, s) : RM (TD × SV)).run S [] with
      | some (.slice _, .one (.dat (.list _) xs)) => some (true, Ty.L xs = [])
      | _ => none)
    | _, _ => none)
  | _ => none

def negIf (neg b : Bool) : Bool :=
  match neg with
  | true => !b
  | false => b

def wayRun (X : Ctx) (o : Oper) (S : St) (D : Known) (next : St → Known → Prop) : Prop :=
  match nilCmp X S o with
  | some (neg, p) => (match dstOk S [] o with
    | true => ∀ b : Bool, (b = true → p) → next (upd S o [] { val := some (.one (.dat .bool (negIf neg b))) }) (setD D o.dst none)
    | false => False)
  | none => match (wayOp X D o).1.run S [] with
    | none => False
    | some r => (match dstOk S [] o && allFresh S.used r.new with
      | true => conjP r.conds (next (upd S o [] r) (setD D o.dst (wayOp X D o).2))
      | false => False)

def boolAt0 (S : St) (n : Nat) : Option Bool :=
  match find S.sl n with
  | some ([], .one (.dat .bool b)) => some (Ty.B b)
  | _ => none

/-- An operation that is left out leaves nothing in its slot. -/
def dropS (S : St) (dst : Option Nat) : St :=
  match dst with
  | none => S
  | some d => { S with sl := rem S.sl d }

def vcOps (X : Ctx) (ops : Array Oper) : List Oper → St → Known → (St → Prop) → Prop
  | [], S, D, k => k S
  | o :: l, S, D, k => match o.guard with
    | none => wayRun X o S D (fun S D => vcOps X ops l S D k)
    | some (j, want) => match (ops[j]?).bind (·.dst) with
      | none => False
      | some d => match find D d with
        | some v => (match v == want with
          | true => wayRun X o S D (fun S D => vcOps X ops l S D k)
          | false => vcOps X ops l (dropS S o.dst) (setD D o.dst none) k)
        | none => match boolAt0 S d with
          | some b => (b = want → wayRun X o S (put D d want) (fun S D => vcOps X ops l S D k)) ∧ (b = !want → vcOps X ops l (dropS S o.dst) (setD (put D d (!want)) o.dst none) k)
          | none => False

/-! ### That it is sound -/

theorem knownX_eval {D : Known} (hD : DHold D a) {x : Operand} {b : Bool} (h : knownX D x = some b) : a.eval x = .bool b := by
  unfold knownX at h
  split at h
  · rename_i t
    have := hD t b h
    show a.tmps.getD t undef = _
    rw [Array.getD_eq_getD_getElem?, this]
    rfl
  · cases h; rfl
  · cases h

theorem DHold.put {D : Known} (hD : DHold D a) {d : Nat} {v : Bool} (h : a.tmps[d]? = some (.bool v)) : DHold (Go.Vc.put D d v) a := fun t u hf => by
  by_cases e : d = t
  · subst e
    rw [find_put_same] at hf
    cases hf
    exact h
  · rw [find_put_other _ _ _ _ e] at hf
    exact hD t u hf

theorem DHold.set {D : Known} (hD : DHold D a) {dst : Option Nat} {kn : Option Bool} {v : Value} (hk : ∀ b, kn = some b → v = .bool b) (hlt : ∀ d, dst = some d → d < a.tmps.size) : DHold (setD D dst kn) (a.put dst v) := by
  cases dst with
  | none => exact hD
  | some d =>
    have old : ∀ t u, t ≠ d → find D t = some u → (a.put (some d) v).tmps[t]? = some (.bool u) := fun t u hn hf => by
      rw [tmps_put hn]; exact hD t u hf
    cases kn with
    | none =>
      intro t u hf
      obtain ⟨h1, h2⟩ := find_rem_some (l := D) hf
      exact old t u (Ne.symm h2) h1
    | some b =>
      have hv := hk b rfl
      subst hv
      intro t u hf
      have hf : find (Go.Vc.put D d b) t = some u := hf
      by_cases e : d = t
      · subst e
        rw [find_put_same] at hf
        cases hf
        exact tmps_put_same (hlt d rfl)
      · rw [find_put_other _ _ _ _ e] at hf
        exact old t u (Ne.symm e) hf

theorem noTags (a : Act) : TagsHold a [] := fun t ht => by cases ht

/-- What an operation does, with what is known of its answer. -/
def OpOkK (P : Program) (w0 : World) (foot : Foot) (base : Mem) (S : St) (E : Env) (a : Act) (w : World) (o : Oper) (r : Res) (kn : Option Bool) : Prop :=
  ∀ (next : Act → World → Prop) (Q : Exit → Act → World → Prop), (∀ E' w' v, After w0 foot base S.bl S.used E r E' w' v → (∀ b, kn = some b → v = .bool b) → next (a.put o.dst v) w') → o.wp P a w next Q

theorem OpOk.none {o : Oper} {r : Res} (h : OpOk P w0 foot base S E a w o r) : OpOkK P w0 foot base S E a w o r none :=
  fun next Q hn => h next Q fun E' w' v hA => hn E' w' v hA fun b hb => by cases hb

theorem move_known (h : SRel w0 foot base S E a w) {D : Known} (hD : DHold D a) {o : Oper} {x : Operand} (hrun : (execOp a.eval o).run P w = .ok (.value (a.eval x)) w) {r : Res}
    (hr : (do pureV (← ev x) : RM Res).run S [] = some r) : OpOkK P w0 foot base S E a w o r (knownX D x) := by
  obtain ⟨s, h1, hr⟩ := RM.run_bind' hr
  rw [pureV_spec hr]
  intro next Q hn
  unfold Oper.wp
  rw [hrun]
  exact hn _ _ _ (After.pure h.toHRel (ev_rep h (noTags a) h1)) fun b hb => knownX_eval hD hb

theorem known_getD {D : Known} (hD : DHold D a) {c : Nat} {v : Bool} (h : find D c = some v) : a.eval (.tmp c) = .bool v := knownX_eval hD (x := .tmp c) h

theorem wayOp_cases {D : Known} (hD : DHold D a) (o : Oper) : (∃ x, (execOp a.eval o).run P w = .ok (.value (a.eval x)) w ∧ wayOp X D o = (do pureV (← ev x), knownX D x)) ∨ wayOp X D o = (exOp X o, none) := by
  cases ho : o.op with
  | pick c x y =>
    cases c with
    | tmp c =>
      cases hc : find D c with
      | none => right; simp [wayOp, ho, hc]
      | some v =>
        left
        cases v with
        | true => exact ⟨x, by simp [execOp, ho, known_getD hD hc, asBool], by simp only [wayOp, ho, hc]⟩
        | false => exact ⟨y, by simp [execOp, ho, known_getD hD hc, asBool], by simp only [wayOp, ho, hc]⟩
    | _ => right; simp [wayOp, ho]
  | move x => left; exact ⟨x, by simp [execOp, ho], by simp only [wayOp, ho]⟩
  | assign x => left; exact ⟨x, by simp [execOp, ho], by simp only [wayOp, ho]⟩
  | _ => right; simp [wayOp, ho]

theorem wayOp_sound (hT : TabOk P X.tab) (hK : ∀ f con, X.con f = some con → ConOk P f con) (h : SRel w0 foot base S E a w) {D : Known} (hD : DHold D a) {o : Oper} {r : Res} (hr : (wayOp X D o).1.run S [] = some r)
    (hn : ∀ i ∈ r.new, i ∉ S.used) (hcond : ∀ c ∈ r.conds, c) : OpOkK P w0 foot base S E a w o r (wayOp X D o).2 := by
  rcases wayOp_cases (P := P) (X := X) (w := w) hD o with ⟨x, hrun, e⟩ | e
  · rw [e] at hr ⊢
    exact move_known h hD hrun hr
  · rw [e] at hr ⊢
    exact (exOp_sound hT hK h (noTags a) hr hn hcond).none

theorem run_equalIn_nil {t e : Nat} (hu : P.underlying t = some (.slice e)) (d : Nat) (p : Option Addr) (n c : Nat) : (Op.equalIn (d + 1) t (.slice p n c) (.slice none 0 0)).run P w = .ok p.isNone w := by
  cases p with
  | none => simp only [Op.equalIn, Sem.run_bind, run_underlying hu, Result.andThen_ok]; rfl
  | some q => simp only [Op.equalIn, Sem.run_bind, run_underlying hu, Result.andThen_ok]; rfl

theorem run_eqGuard_slice (op : BinOp) (t : Nat) (x y : Operand) (p : Option Addr) (n c : Nat) : (eqGuard op t x y (.slice p n c) (.slice none 0 0)).run P w = .ok () w := by
  unfold eqGuard
  split <;> rfl

theorem run_eq_nil {t e : Nat} (hu : P.underlying t = some (.slice e)) (x y : Operand) (p : Option Addr) (n c : Nat) :
    (do eqGuard .eql t x y (.slice p n c) (.slice none 0 0); binOp .eql t (.slice p n c) (.slice none 0 0) : Sem Value).run P w = .ok (.bool p.isNone) w := by
  rw [Sem.run_bind, run_eqGuard_slice, Result.andThen_ok]
  show (do pure (.bool (← Op.equal t (.slice p n c) (.slice none 0 0))) : Sem Value).run P w = _
  rw [Sem.run_bind, show Op.equal t (.slice p n c) (.slice none 0 0) = Op.equalIn (9999 + 1) t (.slice p n c) (.slice none 0 0) from rfl, run_equalIn_nil hu]
  rfl

theorem run_ne_nil {t e : Nat} (hu : P.underlying t = some (.slice e)) (x y : Operand) (p : Option Addr) (n c : Nat) :
    (do eqGuard .neq t x y (.slice p n c) (.slice none 0 0); binOp .neq t (.slice p n c) (.slice none 0 0) : Sem Value).run P w = .ok (.bool (!p.isNone)) w := by
  rw [Sem.run_bind, run_eqGuard_slice, Result.andThen_ok]
  show (do pure (.bool (!(← Op.equal t (.slice p n c) (.slice none 0 0)))) : Sem Value).run P w = _
  rw [Sem.run_bind, show Op.equal t (.slice p n c) (.slice none 0 0) = Op.equalIn (9999 + 1) t (.slice p n c) (.slice none 0 0) from rfl, run_equalIn_nil hu]
  rfl

theorem nilCmp_sound (hT : TabOk P X.tab) (h : SRel w0 foot base S E a w) {o : Oper} {neg : Bool} {p : Prop} (hc : nilCmp X S o = some (neg, p)) :
    ∃ b : Bool, (b = true → p) ∧ OpOk P w0 foot base S E a w o { val := some (.one (.dat .bool (negIf neg b))) } := by
  have nil : ∀ {op : BinOp} {t yt : Nat} {x y : Operand} {e : Nat} {tt : Ty} {xs : (Ty.list tt).den}, o.op = .binOp op t x y yt → isNilSlice y = true → (do let i ← ti X t; let s ← ev x; return (i.d, s) : RM (TD × SV)).run S [] = some (.slice e, .one (.dat (.list tt) xs)) →
      ∃ q n c, a.eval x = .slice q n c ∧ a.eval y = .slice none 0 0 ∧ P.underlying t = some (.slice e) ∧ (q.isNone = true → Ty.L xs = []) := fun {op t yt x y e tt xs} ho hy hx => by
    obtain ⟨i, h1, hx⟩ := RM.run_bind' hx
    obtain ⟨s, h2, hx⟩ := RM.run_bind' hx
    have hx := RM.run_pure' hx
    obtain ⟨hs, _⟩ := ti_spec hT h1
    have hv := ev_rep h (noTags a) h2
    obtain ⟨hd, hse⟩ := Prod.mk.injEq .. ▸ hx
    rw [hse] at hv
    obtain ⟨_, q, cap, h3, h4, h5, h6, _⟩ := hv
    simp only [List.cons.injEq, and_true] at h3
    refine ⟨q, _, cap, h3, ?_, skel_slice (hs.trans hd), fun hq => ?_⟩
    · unfold isNilSlice at hy
      split at hy
      · rfl
      · cases hy
    · have : q = none := by simpa using hq
      have := h6 this
      exact List.length_eq_zero_iff.1 (by omega)
  unfold nilCmp at hc
  split at hc
  · rename_i op t x y yt ho
    split at hc
    · rename_i hy
      split at hc
      · rename_i e tt xs hx
        cases hc
        obtain ⟨q, n, c, h1, h2, h3, h4⟩ := nil ho hy hx
        refine ⟨q.isNone, h4, OpOk.value (v := .bool q.isNone) (w' := w) ?_ (After.pure h.toHRel ⟨rfl, rfl⟩)⟩
        simp only [execOp, ho, h1, h2]
        rw [Sem.run_bind, run_eq_nil h3]
        rfl
      · cases hc
    · rename_i hy
      split at hc
      · rename_i e tt xs hx
        cases hc
        obtain ⟨q, n, c, h1, h2, h3, h4⟩ := nil ho hy hx
        refine ⟨q.isNone, h4, OpOk.value (v := .bool (!q.isNone)) (w' := w) ?_ (After.pure h.toHRel ⟨rfl, rfl⟩)⟩
        simp only [execOp, ho, h1, h2]
        rw [Sem.run_bind, run_ne_nil h3]
        rfl
      · cases hc
    · cases hc
  · cases hc

def CleanF (S : St) : Prop := ∀ n ts v, find S.sl n = some (ts, v) → ts = []

theorem CleanF.upd (h : CleanF S) (o : Oper) (r : Res) : CleanF (Go.Vc.upd S o [] r) := fun n ts v hf => by
  unfold Go.Vc.upd at hf
  simp only at hf
  split at hf
  · exact h n ts v hf
  · rename_i d _
    split at hf
    · by_cases e : d = n
      · subst e; rw [find_put_same] at hf; cases hf; rfl
      · rw [find_put_other _ _ _ _ e] at hf; exact h n ts v hf
    · exact h n ts v (find_rem_some hf).1

theorem wayRun_sound (hT : TabOk P X.tab) (hK : ∀ f con, X.con f = some con → ConOk P f con) {o : Oper} {D : Known} {next : St → Known → Prop} (hv : wayRun X o S D next) (h : TRel w0 foot base S E a w) (hD : DHold D a)
    (hcl : CleanF S) {Q : Exit → Act → World → Prop} {K : Act → World → Prop} (hK' : ∀ S' D' E' a' w', next S' D' → CleanF S' → TRel w0 foot base S' E' a' w' → DHold D' a' → K a' w') : o.wp P a w K Q := by
  have hsz : ∀ {r : Res}, dstOk S [] o = true → ∀ d, o.dst = some d → d < a.tmps.size := fun hd d hdd => by
    rw [h.size]; exact (dstOk_spec hd d hdd).1
  unfold wayRun at hv
  split at hv
  · rename_i neg p hc
    split at hv
    · rename_i hd
      obtain ⟨b, hb, hok⟩ := nilCmp_sound (P := P) hT h.toSRel hc
      refine hok _ _ fun E' w' v hA => ?_
      exact hK' _ _ _ _ _ (hv b hb) (hcl.upd _ _) (h.step (dstOk_spec hd) (noTags a) hA) (hD.set (fun b hb => by cases hb) (hsz (r := {}) hd))
    · cases hv
  · split at hv
    · cases hv
    · rename_i r hr
      split at hv
      · rename_i hd
        simp only [Bool.and_eq_true] at hd
        obtain ⟨h1, h2⟩ := conjP_elim hv
        refine wayOp_sound hT hK h.toSRel hD hr (allFresh_spec hd.2) h1 _ _ fun E' w' v hA hk => ?_
        exact hK' _ _ _ _ _ h2 (hcl.upd _ _) (h.step (dstOk_spec hd.1) (noTags a) hA) (hD.set hk (hsz (r := {}) hd.1))
      · cases hv

theorem dropS_rel (hcl : CleanF S) (h : TRel w0 foot base S E a w) {dst : Option Nat} : TRel w0 foot base (dropS S dst) E (a.put dst undef) w ∧ CleanF (dropS S dst) := by
  cases dst with
  | none => exact ⟨h, hcl⟩
  | some d =>
    have hf : ∀ n ts v, find (rem S.sl d) n = some (ts, v) → ts = [] ∧ n ≠ d ∧ find S.sl n = some (ts, v) := fun n ts v hf => by
      obtain ⟨h1, h2⟩ := find_rem_some hf
      exact ⟨hcl n ts v h1, Ne.symm h2, h1⟩
    refine ⟨{ toHRel := h.toHRel, slots := fun n ts v hfd ht => ?_, size := by simp [Act.put, h.size, dropS], defers := h.defers, pins := h.pins, untagged := fun n ts v hfd ht => ?_ }, fun n ts v hfd => (hf n ts v hfd).1⟩
    · obtain ⟨rfl, hn, h1⟩ := hf n ts v hfd
      rw [Array.getD_eq_getD_getElem?, tmps_put hn, ← Array.getD_eq_getD_getElem?]
      exact h.slots n [] v h1 (noTags a)
    · obtain ⟨rfl, _⟩ := hf n ts v hfd
      exact absurd (noTags _) ht

theorem DHold.drop {D : Known} (hD : DHold D a) {dst : Option Nat} : DHold (setD D dst none) (a.put dst undef) := by
  cases dst with
  | none => exact hD
  | some d =>
    intro t u hf
    obtain ⟨h1, h2⟩ := find_rem_some (l := D) hf
    rw [tmps_put (Ne.symm h2)]
    exact hD t u h1

theorem vcOps_sound (hT : TabOk P X.tab) (hK : ∀ f con, X.con f = some con → ConOk P f con) {ops : Array Oper} {Q : Exit → Act → World → Prop} {k : St → Prop} :
    ∀ {l : List Oper} {i : Nat} {S : St} {D : Known} {E : Env} {a : Act} {w : World}, (∀ j, l[j]? = ops[i + j]?) → vcOps X ops l S D k → CleanF S → TRel w0 foot base S E a w → DHold D a →
    (∀ S' E' a' w', k S' → TRel w0 foot base S' E' a' w' → Q .normal a' w') → wpOps P ops Q (List.range' i l.length) a w
  | [], i, S, D, E, a, w, _, hv, _, h, _, hQ => hQ _ _ _ _ hv h
  | o :: l, i, S, D, E, a, w, hl, hv, hcl, h, hD, hQ => by
    have hi : ops[i]? = some o := by have := hl 0; simpa using this.symm
    have hl' : ∀ j, l[j]? = ops[i + 1 + j]? := fun j => by have := hl (j + 1); simpa [Nat.add_assoc, Nat.add_comm 1 j] using this
    simp only [List.length_cons, List.range'_succ]
    rw [wpOps_cons]
    unfold wpOp
    simp only [hi]
    have go : ∀ {D : Known}, DHold D a → wayRun X o S D (fun S D => vcOps X ops l S D k) → o.wp P a w (wpOps P ops Q (List.range' (i + 1) l.length)) Q := fun hD hw =>
      wayRun_sound hT hK hw h hD hcl fun S' D' E' a' w' hv' hcl' h' hD' => vcOps_sound hT hK hl' hv' hcl' h' hD' hQ
    unfold vcOps at hv
    split at hv
    · rename_i hg
      have hw : Region.wanted o (yielded ops a.tmps) = true := by unfold Region.wanted; rw [hg]
      rw [if_pos hw]
      exact .inl (go hD hv)
    · rename_i j want hg
      split at hv
      · cases hv
      · rename_i d hd
        have wanted : ∀ v : Bool, a.tmps[d]? = some (.bool v) → Region.wanted o (yielded ops a.tmps) = (v == want) := fun v ht => by
          unfold Region.wanted
          rw [hg]
          simp only [yielded, hd, Option.bind_some, ht]
          cases v <;> cases want <;> rfl
        split at hv
        · rename_i v hf
          have hw := wanted v (hD d v hf)
          split at hv
          · rename_i he
            rw [he] at hw
            rw [if_pos hw]
            exact .inl (go hD hv)
          · rename_i he
            rw [he] at hw
            rw [if_neg (by rw [hw]; simp)]
            exact vcOps_sound hT hK hl' hv (dropS_rel hcl h).2 (dropS_rel hcl h).1 hD.drop hQ
        · split at hv
          · rename_i b hb
            have hval : a.tmps[d]? = some (.bool b) := by
              unfold boolAt0 at hb
              split at hb
              · rename_i b' hf
                cases hb
                have hs := h.slots d [] _ hf (noTags a)
                obtain ⟨_, hs⟩ := hs
                have hs : [a.tmps.getD d undef] = [Value.bool b'] := hs
                simp only [List.cons.injEq, and_true] at hs
                rw [Array.getD_eq_getD_getElem?] at hs
                cases hh : a.tmps[d]? with
                | none => rw [hh] at hs; simp [undef] at hs
                | some v => rw [hh] at hs; simpa using hs
              · cases hb
            have hw := wanted b hval
            by_cases e : b = want
            · subst e
              rw [if_pos (by rw [hw]; simp)]
              exact .inl (go (hD.put hval) (hv.1 rfl))
            · have e' : b = !want := by cases b <;> cases want <;> simp at e ⊢
              rw [if_neg (by rw [hw]; simp [e])]
              exact vcOps_sound hT hK hl' (hv.2 e') (dropS_rel hcl h).2 (dropS_rel hcl h).1 (hD.put (e' ▸ hval)).drop hQ
          · cases hv

theorem vcRegion_sound (hT : TabOk P X.tab) (hK : ∀ f con, X.con f = some con → ConOk P f con) {id : Nat} {ops : Array Oper} {Q : Exit → Act → World → Prop} {k : St → Prop} (hv : vcOps X ops ops.toList S [] k) (hcl : Go.Vc.clean S.sl = true) (h : TRel w0 foot base S E a w)
    (hQ : ∀ S' E' a' w', k S' → TRel w0 foot base S' E' a' w' → Q .normal a' w') : (Code.region id ops false).wp P Q a w := by
  refine wp_region ?_
  rw [List.range_eq_range']
  have := vcOps_sound (Q := Q) hT hK (i := 0) (fun j => by simp) hv (clean_spec hcl) h (fun t v hf => by cases hf) hQ
  simpa using this

end Go.Vc
