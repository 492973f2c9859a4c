/-
  A function's own verification condition, and that it gives the contract.
-/
import Derived.Test.YtpnnfimacblhgaaVcr
set_option linter.unusedVariables false
set_option linter.unusedSimpArgs false
namespace Go.Vc
open Go

variable {P : Program} {X : Ctx} {w0 : World} {foot : Foot} {base : Mem} {S T : St} {E : Env} {a : Act} {w : World} {ctx : Tags}

def argSl : (ts : List Ty) → Tup ts → Nat → List (Nat × (Tags × SV))
  | [], _, _ => []
  | t :: ts, x, i => (i, [], svOf t x.1) :: argSl ts x.2 (i + 1)

def S0 (fn : Func) (c : DCon) (x : Tup c.args) : St := { sl := argSl c.args x 0, bl := [], used := [], n := fn.ntmps }

def resR (X : Ctx) : ResultVar → RM SV
  | .tmp t => .slot [] t .ret
  | .cell a t => do
    let i ← ti X t
    let cs ← loadCs i.size (← evC (.tmp a))
    guardR (Nat.beq cs.length i.size)
    mkSV i.d cs

def dataR (X : Ctx) : (ts : List Ty) → List ResultVar → Tup ts → RM (List Prop × Fro)
  | [], rs, _ => (match rs with
    | [] => .ret ([], [])
    | _ => .fail)
  | t :: ts, rs, y => (match rs with
    | [] => .fail
    | r :: rs => do
      let z ← reify t (← asTy t (← resR X r))
      let q ← dataR X ts rs y.2
      guardR (froApart z.2 q.2)
      return ((z.1 = y.1) :: q.1, z.2 ++ q.2))

def rowR (X : Ctx) (e : Nat) (t : Ty) (r : ResultVar) (y : List t.den) : RM (List Prop) := do
  match ← resR X r with
  | .one .nilsl => .ret [[] = y]
  | .one (.row tt b) => .blk b fun
    | .row false e' t' xs => (match tt.beq t' && Nat.beq e e' with
      | true => do
        let zs ← RM.ofOption (Ty.as (a := .list t') (.list t) (lit xs))
        return [Ty.L zs = y]
      | false => .fail)
    | _ => .fail
  | _ => .fail

def outR (X : Ctx) (rs : List ResultVar) : (o : Out) → Tup o.tys → RM (List Prop)
  | .data ts, y => do return (← dataR X ts rs y).1
  | .row e t, y => (match rs with
    | [r] => rowR X e t r y.1
    | _ => .fail)

def retPost (X : Ctx) (rs : List ResultVar) (o : Out) (y : Tup o.tys) : Ex → St → Prop
  | .exit _, _ => False
  | _, S => match (outR X rs o y).run S [] with
    | some ps => conjP ps True
    | none => False

/-- A datum under a name. -/
def lett {α : Type} (t : α) (p : α → Prop) : Prop := p t

theorem lett.mk {α : Type} {t : α} {p : α → Prop} (h : ∀ y, y = t → p y) : lett t p := h t rfl

/-- The verification condition of a function. -/
@[irreducible] def bodyVC (X : Ctx) (fn : Func) (c : DCon) (A : Ann) (x : Tup c.args) : Prop :=
  match fn.body with
  | some code => vc X A code (S0 fn c x) (retPost X fn.results.toList c.out (c.fn x))
  | none => False

def fnOk (fn : Func) (c : DCon) : Bool := Nat.ble c.args.length fn.ntmps && fn.body.isSome

def fnVC (X : Ctx) (fn : Func) (c : DCon) (A : Tup c.args → Ann) : Prop :=
  fnOk fn c = true ∧ ∀ x, wfs c.args x → c.pre x → bodyVC X fn c (A x) x

/-! ### The state at the beginning -/

theorem argSl_rep {F : Mem} : ∀ {ts : List Ty} {x : Tup ts} {vs : List Value} {i : Nat}, VReps F ts x vs → ∀ n tags v, find (argSl ts x i) n = some (tags, v) →
    tags = [] ∧ i ≤ n ∧ n < i + ts.length ∧ SRep ⟨F, fun _ => none⟩ v (vs.getD (n - i) undef)
  | [], x, vs, i, h, n, tags, v, hf => by cases hf
  | t :: ts, x, vs, i, h, n, tags, v, hf => by
    obtain ⟨u, us, rfl, k1, k2⟩ := h
    unfold argSl at hf
    by_cases e : i = n
    · subst e
      have : some (([] : Tags), svOf t x.1) = some (tags, v) := by simpa [find] using hf
      cases this
      refine ⟨rfl, Nat.le_refl _, by simp, ?_⟩
      simpa using svOf_rep (E := ⟨F, fun _ => none⟩) k1
    · rw [find_skip e] at hf
      obtain ⟨h1, h2, h3, h4⟩ := argSl_rep k2 n tags v hf
      refine ⟨h1, by omega, by simp only [List.length_cons]; omega, ?_⟩
      have : n - i = (n - (i + 1)) + 1 := by omega
      rw [this]
      simpa using h4

theorem begin_rel {fn : Func} {c : DCon} {x : Tup c.args} {F : Mem} {vs : List Value} (hlen : Nat.ble c.args.length fn.ntmps = true) (hF : ∀ b o, F b = some o → w.heap[b]? = some o) (hx : VReps F c.args x vs) :
    TRel w noFoot F (S0 fn c x) ⟨F, fun _ => none⟩ { tmps := vs.toArray ++ Array.replicate (fn.ntmps - vs.toArray.size) undef, defers := [] } w where
  keep := .refl _ _
  frz := hF
  src := fun b o hb => .inl hb
  blks := fun id B hf => by cases hf
  own := fun id B p hf => by cases hf
  inj := fun id id' B B' p p' hf => by cases hf
  used := fun id p hp => by cases hp
  slots := fun n tags v hf ht => by
    obtain ⟨h1, h2, h3, h4⟩ := argSl_rep hx n tags v hf
    have hl := hx.length
    have hn : n < vs.length := by omega
    rw [Nat.sub_zero] at h4
    have : (vs.toArray ++ Array.replicate (fn.ntmps - vs.toArray.size) undef).getD n undef = vs.getD n undef := by
      rw [Array.getD_eq_getD_getElem?, Array.getElem?_append_left (by simpa using hn)]
      simp [List.getD_eq_getElem?_getD]
    show SRep _ v ((vs.toArray ++ Array.replicate (fn.ntmps - vs.toArray.size) undef).getD n undef)
    rw [this]
    exact h4
  size := by
    have hl := hx.length
    have := Nat.le_of_ble_eq_true hlen
    show (vs.toArray ++ Array.replicate (fn.ntmps - vs.toArray.size) undef).size = fn.ntmps
    simp
    omega
  defers := rfl
  pins := fun n p h => by cases h
  untagged := fun n tags v hf ht => by
    obtain ⟨h1, _⟩ := argSl_rep hx n tags v hf
    subst h1
    exact absurd (fun t ht => by cases ht) ht

/-! ### The results -/

def rd (tmps : Array Value) : ResultVar → Sem Value
  | .tmp t => pure (tmps.getD t undef)
  | .cell b t => do loadVar t (← asAddr (tmps.getD b undef))

theorem resR_sound (hT : TabOk P X.tab) (h : TRel w0 foot base S E a w) {r : ResultVar} {s : SV} (hr : (resR X r).run S [] = some s) :
    ∃ v, (rd a.tmps r).run P w = .ok v w ∧ SRep E s v := by
  cases r with
  | tmp t =>
    exact ⟨_, rfl, ev_rep (x := .tmp t) h.toSRel (ctx := []) (fun t ht => by cases ht) hr⟩
  | cell b t =>
    unfold resR at hr
    obtain ⟨i, h1, hr⟩ := RM.run_bind' hr
    obtain ⟨c, h2, hr⟩ := RM.run_bind' hr
    obtain ⟨cs, h3, hr⟩ := RM.run_bind' hr
    obtain ⟨u, h4, hr⟩ := RM.run_bind' hr
    obtain ⟨hs, j, hj, e1, e2, e3⟩ := ti_spec hT h1
    obtain ⟨g, off, us, hv, k1, k2⟩ := loadCs_sound h.toHRel h3 (evC_rep (x := .tmp b) h.toSRel (ctx := []) (fun t ht => by cases ht) h2)
    have hl : us.length = j.size := by rw [k1.length, Nat.eq_of_beq_eq_true (run_guardR h4), e1]
    rw [← hs] at hr
    obtain ⟨v, hrun, hrep⟩ := run_loadVar' hr hj hl k1 k2
    have hv : a.tmps.getD b undef = .pointer (some ⟨g, off, none⟩) := hv
    refine ⟨v, ?_, hrep⟩
    simp [rd, hv, asAddr, hrun]

theorem dataR_sound (hT : TabOk P X.tab) (h : TRel w0 foot base S E a w) : ∀ {ts : List Ty} {rs : List ResultVar} {y : Tup ts} {ps : List Prop} {fr : Fro}, (dataR X ts rs y).run S [] = some (ps, fr) → (∀ p ∈ ps, p) →
    FroOk S.bl fr ∧ ∃ vs, (rs.mapM (rd a.tmps)).run P w = .ok vs w ∧ ∀ E', E.le E' → Frozen S.bl E' w fr → VReps E'.F ts y vs
  | [], rs, y, ps, fr, hr, hp => by
    unfold dataR at hr
    split at hr
    · cases hr
      exact ⟨.nil, [], rfl, fun _ _ _ => rfl⟩
    · cases hr
  | t :: ts, rs, y, ps, fr, hr, hp => by
    unfold dataR at hr
    split at hr
    · cases hr
    · rename_i r rs'
      obtain ⟨s, h1, hr⟩ := RM.run_bind' hr
      obtain ⟨cs, h2, hr⟩ := RM.run_bind' hr
      obtain ⟨z, h3, hr⟩ := RM.run_bind' hr
      obtain ⟨q, h4, hr⟩ := RM.run_bind' hr
      obtain ⟨_, h5, hr⟩ := RM.run_bind' hr
      cases RM.run_pure' hr
      obtain ⟨z1, z2⟩ := z
      obtain ⟨q1, q2⟩ := q
      obtain ⟨v, hrun, hrep⟩ := resR_sound hT h h1
      obtain ⟨k1, vs, k2, k3⟩ := dataR_sound hT h h4 (fun p hm => hp p (List.mem_cons_of_mem _ hm))
      have hz := hp _ List.mem_cons_self
      have hz : z1 = y.1 := hz
      subst hz
      refine ⟨(reify_froOk h3).append k1 (run_guardR h5), v :: vs, ?_, fun E' hle hf => ⟨v, vs, rfl, reify_value h2 h3 (hrep.mono hle) hf.left, k3 E' hle hf.right⟩⟩
      simp [List.mapM_cons, hrun, k2]

theorem results_eq (fn : Func) (tmps : Array Value) : results fn tmps = (do
    let vs ← fn.results.mapM (rd tmps)
    pure (if h : vs.size = 1 then vs[0] else .tuple vs)) := rfl

theorem results_run {fn : Func} {tmps : Array Value} {vs : List Value} (h : (fn.results.toList.mapM (rd tmps)).run P w = .ok vs w) : (results fn tmps).run P w = .ok (if h : vs.length = 1 then vs[0] else .tuple vs.toArray) w := by
  rw [results_eq, Array.mapM_eq_mapM_toList]
  simp [h]

theorem RepOut.of {F : Mem} : ∀ {ts : List Ty} {x : Tup ts} {vs : List Value}, VReps F ts x vs → RepOut F ts x (if h : vs.length = 1 then vs[0] else .tuple vs.toArray)
  | [], x, vs, k => by
    have k : vs = [] := k
    subst k
    exact ⟨_, rfl, rfl⟩
  | [t], x, vs, k => by
    obtain ⟨v, us, rfl, q1, q2⟩ := k
    have q2 : us = [] := q2
    subst q2
    exact q1
  | t :: u :: ts, x, vs, k => by
    have hl := k.length
    simp only [List.length_cons] at hl
    rw [dif_neg (by omega)]
    exact ⟨_, rfl, k⟩

/-- The memory that nobody changes, with what was there at the beginning. -/
def joinMem (F G : Mem) : Mem := fun b => match F b with
  | some o => some o
  | none => G b

theorem outR_sound (hT : TabOk P X.tab) (hbase : ∀ b o, base b = some o → w0.heap[b]? = some o) (h : TRel w0 noFoot base S E a w) {fn : Func} {o : Out} {y : Tup o.tys} {ps : List Prop} (hr : (outR X fn.results.toList o y).run S [] = some ps) (hp : ∀ p ∈ ps, p) :
    ∃ v, (results fn a.tmps).run P w = .ok v w ∧ ∃ F', base.le F' ∧ (∀ b o, F' b = some o → w.heap[b]? = some o) ∧ (∀ b o, F' b = some o → base b = some o ∨ w0.heap.size ≤ b) ∧ o.Rep F' w0 w y v := by
  have hb' : ∀ b o, base b = some o → w.heap[b]? = some o := fun b o hb => (h.keep.block b (heap_lt (hbase b o hb)) (fun h => h)).trans (hbase b o hb)
  have fin : ∀ {bl : List (Nat × Blk)} {used : List Nat} {E2 : Env}, HRel w0 noFoot base bl used E2 w → base.le (joinMem base E2.F) ∧ E2.F.le (joinMem base E2.F) ∧ (∀ b o, (joinMem base E2.F) b = some o → w.heap[b]? = some o) ∧ (∀ b o, (joinMem base E2.F) b = some o → base b = some o ∨ w0.heap.size ≤ b) := fun {bl used E2} h2 => by
    refine ⟨fun b o hb => ?_, fun b o hb => ?_, fun b o hb => ?_, fun b o hb => ?_⟩
    · unfold joinMem; rw [hb]
    · unfold joinMem
      split
      · rename_i o' ho'
        rw [← hb' b o' ho', h2.frz b o hb]
      · exact hb
    · unfold joinMem at hb
      split at hb
      · rename_i o' ho'; cases hb; exact hb' b _ ho'
      · exact h2.frz b o hb
    · unfold joinMem at hb
      split at hb
      · rename_i o' ho'; cases hb; exact .inl ho'
      · rcases h2.src b o hb with h3 | h3 | h3
        · exact .inl h3
        · exact .inr h3
        · cases h3
  cases o with
  | data ts =>
    unfold outR at hr
    obtain ⟨q, h1, hr⟩ := RM.run_bind' hr
    cases RM.run_pure' hr
    obtain ⟨ps, fr⟩ := q
    obtain ⟨k1, vs, k2, k3⟩ := dataR_sound hT h h1 hp
    obtain ⟨E2, hle, hpl, hsrc, hR2⟩ := h.toHRel.applyFro k1
    have k4 := k3 E2 hle (Frozen.of_apply k1 hR2)
    obtain ⟨f1, f2, f3, f4⟩ := fin hR2
    refine ⟨_, results_run k2, joinMem base E2.F, f1, f3, f4, ?_⟩
    have k5 := k4.mono f2
    exact RepOut.of k5
  | row e t =>
    have hr : (match fn.results.toList with | [r] => rowR X e t r y.1 | _ => (.fail : RM (List Prop))).run S [] = some ps := hr
    split at hr
    · rename_i r hrs
      unfold rowR at hr
      obtain ⟨s, h1, hr⟩ := RM.run_bind' hr
      obtain ⟨v, hrun, hrep⟩ := resR_sound hT h h1
      have hres : (results fn a.tmps).run P w = .ok v w := by
        have := results_run (P := P) (w := w) (fn := fn) (tmps := a.tmps) (vs := [v]) (by rw [hrs]; simp [hrun])
        simpa using this
      obtain ⟨f1, f2, f3, f4⟩ := fin h.toHRel
      refine ⟨v, hres, joinMem base E.F, f1, f3, f4, ?_⟩
      split at hr
      · cases hr
        have hy := hp _ (List.mem_singleton.2 rfl)
        have hrep : v = _ := hrep
        exact ⟨⟨true, 0, 0, 0⟩, fun hn => (by cases hn), .inl ⟨rfl, hy.symm, rfl⟩, .inl ⟨rfl, hrep, rfl⟩⟩
      · rename_i tt b
        simp only [RM.run] at hr
        split at hr
        · rename_i B hf
          split at hr
          · rename_i e' t' xs
            split at hr
            · rename_i hb
              simp only [Bool.and_eq_true] at hb
              obtain ⟨zs, h2, hr⟩ := RM.run_bind' hr
              cases RM.run_pure' hr
              have hy := hp _ (List.mem_singleton.2 rfl)
              obtain ⟨ee, rfl⟩ := Ty.as_some (run_ofOption h2)
              cases ee
              have hy : xs = y.1 := hy
              have := Nat.eq_of_beq_eq_true hb.2
              subst this
              obtain ⟨p, hpl, hv⟩ := hrep
              obtain ⟨q, hq, hB⟩ := h.blks b _ hf
              rw [hpl] at hq
              cases hq
              refine ⟨p, fun hn => ?_, ?_, hv⟩
              · have ho := h.own b _ p hf hpl hn
                have h0 : w0.heap.size ≤ p.blk := ho.1.resolve_right (fun h => h)
                refine ⟨h0, ?_⟩
                unfold joinMem
                split
                · rename_i o' ho'
                  have := heap_lt (hbase _ _ ho')
                  omega
                · exact ho.2 rfl
              · rw [← hy]
                rcases hB with hB | ⟨hn, h0, h1', vs, h3, h4, h5, h6⟩
                · exact .inl hB
                · refine .inr ⟨hn, h0, h1', vs, h3, h4, fun h => (by cases h), fun i x hx => ?_⟩
                  obtain ⟨us, g1, g2⟩ := h6 i x hx
                  exact ⟨us, g1.mono f2, g2⟩
            · cases hr
          · cases hr
        · cases hr
      · cases hr
    · cases hr

/-- The contract from the function's text. -/
theorem DOk.of (hT : TabOk P X.tab) (hK : ∀ f con, X.con f = some con → ConOk P f con) {f : Nat} {fn : Func} {c : DCon} {A : Tup c.args → Ann} (hf : P.funcs[f]? = some fn) (hn : (fn.name == "runtime.NumGoroutine") = false)
    (hv : fnVC X fn c A) : DOk P f c where
  fn := by
    obtain ⟨h, _⟩ := hv
    simp only [fnOk, Bool.and_eq_true] at h
    obtain ⟨code, hb⟩ := Option.isSome_iff_exists.1 h.2
    exact ⟨fn, code, hf, hn, hb⟩
  calls F w x vs hF hx hpre := by
    obtain ⟨hlen, h⟩ := hv
    simp only [fnOk, Bool.and_eq_true] at hlen
    replace hlen := hlen.1
    have h := h x hx.wfs hpre
    unfold bodyVC at h
    cases hb : fn.body with
    | none => rw [hb] at h; cases h
    | some code =>
      rw [hb] at h
      refine calls_of_wp hf hb ?_
      refine wp_mono (vc_sound hT hK h (begin_rel hlen hF hx)) fun e a w' hp => ?_
      have done : ∀ S E, (match (outR X fn.results.toList c.out (c.fn x)).run S [] with | some ps => conjP ps True | none => False) → TRel w noFoot F S E a w' → a.defers = [] ∧ ∃ v, (results fn a.tmps).run P w' = .ok v w' ∧
          ∃ v' F', Ending.returned v = .returned v' ∧ F.le F' ∧ (∀ b o, F' b = some o → w'.heap[b]? = some o) ∧ (∀ b o, F' b = some o → F b = some o ∨ w.heap.size ≤ b) ∧ Keep (fun _ => False) w w' ∧ c.out.Rep F' w w' (c.fn x) v' := fun S E hq hR => by
        split at hq
        · rename_i ps hps
          obtain ⟨v, h1, F', h2, h3, h4, h5⟩ := outR_sound hT hF hR hps (conjP_elim hq).1
          exact ⟨hR.defers, v, h1, v, F', rfl, h2, h3, h4, hR.keep, h5⟩
        · cases hq
      cases e with
      | normal => obtain ⟨S, E, hq, hR⟩ := hp; exact done S E hq hR
      | ret => obtain ⟨S, E, hq, hR⟩ := hp; exact done S E hq hR
      | exit id => obtain ⟨S, E, hq, hR⟩ := hp; cases hq
      | goto l => cases hp
      | panic ch => cases hp
      | outgrown => cases hp

end Go.Vc
