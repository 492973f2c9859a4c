/-
  Literal slices, calls by contract, and all single operations together.
-/
import Derived.Test.YtpnnfimacblhgaaVck
import Derived.Laws.BytesArg
set_option linter.unusedVariables false
set_option linter.unusedSimpArgs false
namespace Go.Vc
open Go

variable {P : Program} {X : Ctx} {w0 : World} {foot : Foot} {base : Mem} {S : St} {E : Env} {a : Act} {w : World} {ctx : Tags}

theorem RowVals.set {F : Mem} {t : Ty} {xs : List t.den} {us : List Value} (h : RowVals F t xs us) {i : Nat} (hi : i < xs.length) {y : t.den} {ws : List Value} (hy : Rep F t y ws) :
    RowVals F t (xs.set i y) (us.take (i * t.size) ++ ws ++ us.drop (i * t.size + t.size)) := by
  have hw := hy.length
  have hm : (i + 1) * t.size ≤ xs.length * t.size := Nat.mul_le_mul_right _ (by omega)
  rw [Nat.succ_mul] at hm
  have hl := h.1
  refine ⟨by simp only [List.length_append, List.length_take, List.length_drop, List.length_set]; omega, fun k x hx => ?_⟩
  by_cases hk : i = k
  · subst hk
    rw [List.getElem?_set_self hi] at hx
    cases hx
    refine ⟨ws, hy, hw, fun j u hu => ?_⟩
    have hj := (List.getElem?_eq_some_iff.1 hu).1
    rw [List.getElem?_append_left (by simp; omega), List.getElem?_append_right (by simp; omega), ← hu]
    congr 1
    simp only [List.length_take]
    omega
  · rw [List.getElem?_set_ne hk] at hx
    obtain ⟨vs, k1, k2, k3⟩ := h.2 k x hx
    refine ⟨vs, k1, k2, fun j u hu => ?_⟩
    have hj := (List.getElem?_eq_some_iff.1 hu).1
    have := k3 j u hu
    rcases Nat.lt_or_gt_of_ne hk with hlt | hlt
    · have hm2 : (i + 1) * t.size ≤ k * t.size := Nat.mul_le_mul_right _ (by omega)
      rw [Nat.succ_mul] at hm2
      rw [List.getElem?_append_right (by simp; omega), List.getElem?_drop, ← this]
      congr 1
      simp only [List.length_append, List.length_take]
      omega
    · have hm2 : (k + 1) * t.size ≤ i * t.size := Nat.mul_le_mul_right _ (by omega)
      rw [Nat.succ_mul] at hm2
      rw [List.append_assoc, List.getElem?_append_left (by simp; omega), List.getElem?_take_of_lt (by omega)]
      exact this

theorem buildXs_froOk {t : Ty} : ∀ {ps : List (Nat × Operand)} {xs : List t.den} {r : List t.den × Fro}, (buildXs t ps xs).run S ctx = some r → FroOk S.bl r.2
  | [], xs, r, hr => by cases hr; exact .nil
  | (i, x) :: ps, xs, r, hr => by
    unfold buildXs at hr
    have hr0 := RM.run_bind' hr
    clear hr
    obtain ⟨s, h1, hr⟩ := hr0
    have hr0 := RM.run_bind' hr
    clear hr
    obtain ⟨v, h2, hr⟩ := hr0
    have hr0 := RM.run_bind' hr
    clear hr
    obtain ⟨y, h3, hr⟩ := hr0
    have hr0 := RM.run_bind' hr
    clear hr
    obtain ⟨u, h4, hr⟩ := hr0
    have hr0 := RM.run_bind' hr
    clear hr
    obtain ⟨q, h5, hr⟩ := hr0
    have hr0 := RM.run_bind' hr
    clear hr
    obtain ⟨_, h6, hr⟩ := hr0
    cases RM.run_pure' hr
    exact (reify_froOk (x := y.1) (fr := y.2) h3).append (buildXs_froOk h5) (run_guardR h6)

theorem buildXs_sound {t : Ty} (h : SRel w0 foot base S E a w) (hc : TagsHold a ctx) {E' : Env} (hle : E.le E') : ∀ {ps : List (Nat × Operand)} {xs : List t.den} {r : List t.den × Fro} {cells : Array Value},
    (buildXs t ps xs).run S ctx = some r → Frozen S.bl E' w r.2 → RowVals E'.F t xs cells.toList →
    ∃ cells', Instr.fill (fun i => some (i * t.size, t.size)) cells (ps.map fun (i, x) => (i, a.eval x)) = some cells' ∧ RowVals E'.F t r.1 cells'.toList ∧ r.1.length = xs.length
  | [], xs, r, cells, hr, _, hv => by cases hr; exact ⟨cells, rfl, hv, rfl⟩
  | (i, x) :: ps, xs, r, cells, hr, hf, hv => by
    unfold buildXs at hr
    have hr0 := RM.run_bind' hr
    clear hr
    obtain ⟨s, h1, hr⟩ := hr0
    have hr0 := RM.run_bind' hr
    clear hr
    obtain ⟨cs, h2, hr⟩ := hr0
    have hr0 := RM.run_bind' hr
    clear hr
    obtain ⟨y, h3, hr⟩ := hr0
    have hr0 := RM.run_bind' hr
    clear hr
    obtain ⟨u, h4, hr⟩ := hr0
    have hr0 := RM.run_bind' hr
    clear hr
    obtain ⟨q, h5, hr⟩ := hr0
    have hr0 := RM.run_bind' hr
    clear hr
    obtain ⟨_, _, hr⟩ := hr0
    cases RM.run_pure' hr
    have hi : i < xs.length := Nat.le_of_ble_eq_true (run_guardR h4)
    have hcs := (evCells_rep h hc h1 h2).mono hle
    have hy := reify_rep (x := y.1) (fr := y.2) h3 hcs hf.left
    have hyl := hy.length
    have hm : (i + 1) * t.size ≤ xs.length * t.size := Nat.mul_le_mul_right _ (by omega)
    rw [Nat.succ_mul] at hm
    have hcl := hv.1
    simp only [Array.length_toList] at hcl hyl
    have hfold := fill_foldl cells (i * t.size) (a.eval x).cells.toList 0 cells (by simp only [Array.length_toList]; omega)
    simp only [Nat.add_zero] at hfold
    have e : ((a.eval x).cells.zipIdx.foldl (fun cs (c, j) => cs.setIfInBounds (i * t.size + j) c) cells).toList = cells.toList.take (i * t.size) ++ (a.eval x).cells.toList ++ cells.toList.drop (i * t.size + t.size) := by
      rw [← Array.foldl_toList, Array.toList_zipIdx]
      rw [show t.size = (a.eval x).cells.toList.length by simp [hyl]] at *
      exact hfold
    obtain ⟨cells', k1, k2, k3⟩ := buildXs_sound h hc hle (cells := (a.eval x).cells.zipIdx.foldl (fun cs (c, j) => cs.setIfInBounds (i * t.size + j) c) cells) h5 hf.right (by rw [e]; exact hv.set hi hy)
    refine ⟨cells', ?_, k2, by rw [k3]; simp⟩
    simp only [List.map_cons, Instr.fill]
    rw [if_neg (by simp; omega)]
    exact k1

theorem buildSlice_ok (hT : TabOk P X.tab) (h : SRel w0 foot base S E a w) (hc : TagsHold a ctx) {o : Oper} {t n d : Nat} {ps : Array (Nat × Operand)} (ho : o.op = .buildSlice t n ps) {r : Res}
    (hr : (do
      let i ← ti X t
      match i.d with
      | .slice e => (do
        let j ← ti X e
        let ty ← RM.ofOption j.ty
        guardR (Nat.ble (n * j.size) 16777216)
        let z ← zeroD j ty
        let r ← buildXs ty ps.toList (List.replicate n z)
        .ret { val := some (.one (.row ty d)), blks := r.2 ++ [(d, .row false e ty r.1)], new := [d] })
      | _ => .fail : RM Res).run S ctx = some r) (hn : ∀ i ∈ r.new, i ∉ S.used) : OpOk P w0 foot base S E a w o r := by
  have hr0 := RM.run_bind' hr
  clear hr
  obtain ⟨i, h1, hr⟩ := hr0
  obtain ⟨hs, _⟩ := ti_spec hT h1
  split at hr
  · rename_i e hd
    rw [hd] at hs
    have hr0 := RM.run_bind' hr
    clear hr
    obtain ⟨j, h2, hr⟩ := hr0
    have hr0 := RM.run_bind' hr
    clear hr
    obtain ⟨ty, h3, hr⟩ := hr0
    have hr0 := RM.run_bind' hr
    clear hr
    obtain ⟨u, h4, hr⟩ := hr0
    have hr0 := RM.run_bind' hr
    clear hr
    obtain ⟨z, h5, hr⟩ := hr0
    have hr0 := RM.run_bind' hr
    clear hr
    obtain ⟨q, h6, hr⟩ := hr0
    cases hr
    obtain ⟨j', g1, g2, g3, g4, g5, g6, g7, g8⟩ := zeroD_sound hT h2 h5
    have hsmall := Nat.le_of_ble_eq_true (run_guardR h4)
    have hfo := buildXs_froOk h6
    obtain ⟨E1, l1, q1, f1, hh⟩ := h.toHRel.applyFro hfo
    have hfz := Frozen.of_apply hfo hh
    have hmade := RowVals.made (n := n) (m := n) (g8 E1.F) (by omega) (Nat.le_refl _)
    rw [List.take_of_length_le (by simp [size_madeCells])] at hmade
    obtain ⟨cells', k1, k2, k3⟩ := buildXs_sound h hc l1 h6 hfz hmade
    have hlen : q.1.length = n := by rw [k3]; simp
    have hsz : cells'.size = n * ty.size := by rw [← Array.length_toList, k2.1, hlen]
    have hn63 : n ≤ maxLenI := by
      have : n * 1 ≤ n * j.size := Nat.mul_le_mul_left _ (by omega)
      unfold maxLenI
      omega
    obtain ⟨m1, m2, m3⟩ := new_row (S := { S with bl := applyFro q.2 S.bl }) (e := e) (cap := n) (rest := []) hh (hn d (by simp)) k2 hn63 (by omega) (by simp) hsz
    rw [hlen] at m1 m2 m3
    refine OpOk.value (v := _) (w' := _) ?_ ⟨l1.trans m2, by rw [applyBl_fro]; exact m1, m3⟩
    have k1' : Instr.fill (fun i => some (i * j'.size, j'.size)) (madeCells j.zero.cells (n * j'.size)) (ps.map fun x => (x.1, a.eval x.2)).toList = some cells' := by
      rw [Array.toList_map, g2, ← g5]
      exact k1
    have hgt : ¬ n * j'.size > 2 ^ 24 := by rw [g2]; omega
    by_cases hz : n * j'.size = 0
    · rw [hz] at k1'
      have hm0 : madeCells j.zero.cells 0 = #[] := by simp [madeCells]
      rw [hm0] at k1'
      simp only [execOp, ho, Instr.buildSlice, Sem.run_bind, run_underlying (skel_slice hs), Result.andThen_ok, run_sizeOf' g1]
      rw [if_neg hgt, if_pos hz, hz]
      simp only [Sem.run_bind, Sem.run_pure, Result.andThen_ok]
      have hr0 : Array.map (fun x => (#[] : Array Value)[x % (#[] : Array Value).size]!) (Array.range 0) = #[] := by simp
      rw [hr0, k1']
      rfl
    · simp only [execOp, ho, Instr.buildSlice, Sem.run_bind, run_underlying (skel_slice hs), Result.andThen_ok, run_sizeOf' g1]
      rw [if_neg hgt, if_neg hz]
      simp only [Sem.run_bind, Sem.run_pure, Result.andThen_ok, run_zeroValue' g1 g4]
      unfold madeCells at k1'
      rw [k1']
      rfl
  · cases hr

/-! ### Calls by contract -/

def SReps (E : Env) : List SV → List Value → Prop
  | [], vs => vs = []
  | s :: ss, vs => ∃ v us, vs = v :: us ∧ SRep E s v ∧ SReps E ss us

theorem evAll_rep (h : SRel w0 foot base S E a w) (hc : TagsHold a ctx) : ∀ {xs : List Operand} {ss : List SV}, (evAll xs).run S ctx = some ss → SReps E ss (xs.map a.eval)
  | [], ss, hr => by cases hr; rfl
  | x :: xs, ss, hr => by
    unfold evAll at hr
    have hr0 := RM.run_bind' hr
    clear hr
    obtain ⟨s, h1, hr⟩ := hr0
    have hr0 := RM.run_bind' hr
    clear hr
    obtain ⟨ss', h2, hr⟩ := hr0
    cases RM.run_pure' hr
    exact ⟨_, _, rfl, ev_rep h hc h1, evAll_rep h hc h2⟩

/-- What a contract promises. -/
structure ConOk (P : Program) (f : Nat) (con : Con) : Prop where
  fn : ∃ fn c, P.funcs[f]? = some fn ∧ (fn.name == "runtime.NumGoroutine") = false ∧ fn.body = some c
  calls : ∀ (w0 : World) (foot : Foot) (base : Mem) (S : St) (ctx : Tags) (E : Env) (w : World) (args : List SV) (vs : List Value) (d : Nat) (r : Res), HRel w0 foot base S.bl S.used E w → SReps E args vs →
    (con.run args d).run S ctx = some r → (∀ c ∈ r.conds, c) → (∀ i ∈ r.new, i ∉ S.used) →
    Calls P f vs.toArray w fun e w' => ∃ v E', e = .returned v ∧ After w0 foot base S.bl S.used E r E' w' v

theorem call_ok (hK : ∀ f con, X.con f = some con → ConOk P f con) (h : SRel w0 foot base S E a w) (hc : TagsHold a ctx) {o : Oper} {f d : Nat} {args : Array Operand} {ats : Array Nat} (ho : o.op = .call { callee := .value (.func f), args := args, argTypes := ats }) {r : Res}
    (hr : (do
      let con ← RM.ofOption (X.con f)
      let vs ← evAll args.toList
      con.run vs d : RM Res).run S ctx = some r) (hn : ∀ i ∈ r.new, i ∉ S.used) (hcond : ∀ c ∈ r.conds, c) : OpOk P w0 foot base S E a w o r := by
  have hr0 := RM.run_bind' hr
  clear hr
  obtain ⟨con, h1, hr⟩ := hr0
  have hr0 := RM.run_bind' hr
  clear hr
  obtain ⟨ss, h2, hr⟩ := hr0
  have hcon := hK f con (run_ofOption h1)
  obtain ⟨fn, c, hf, hname, hbody⟩ := hcon.fn
  intro next Q hnext
  unfold Oper.wp
  have hrun : (execOp a.eval o).run P w = .ok (.enter f (args.map a.eval)) w := by
    simp only [execOp, ho, resolve, Act.eval, Deferred.ofValue, Sem.run_bind, Sem.run_pure, Result.andThen_ok, invoke, callFunc, run_program, hf, hname, hbody]
    simp
  rw [hrun, Oper.upon_enter]
  have hcalls := hcon.calls w0 foot base S ctx E w ss (args.toList.map a.eval) d r h.toHRel (evAll_rep h hc h2) hr hcond hn
  have ea : (args.toList.map a.eval).toArray = args.map a.eval := by apply Array.ext'; simp
  rw [ea] at hcalls
  refine hcalls.mono fun e w' => ?_
  rintro ⟨v, E', rfl, hA⟩
  exact hnext _ _ _ hA

/-! ### Function values -/

theorem SReps.append {E : Env} : ∀ {ss ts : List SV} {vs us : List Value}, SReps E ss vs → SReps E ts us → SReps E (ss ++ ts) (vs ++ us)
  | [], _, _, _, h, k => by have h : _ = _ := h; subst h; exact k
  | _ :: _, _, _, _, ⟨v, ws, hv, k1, k2⟩, k => ⟨v, ws ++ _, by rw [hv]; rfl, k1, SReps.append k2 k⟩

theorem capSVs_reps : ∀ {t : Ty} {x : t.den} {ss : List SV} {vs : List Value}, capSVs t x = some ss → Rep E.F t x vs → SReps E ss vs
  | .unit, x, ss, vs, h, hv => by
    cases h
    have hv : vs = [] := hv
    exact hv
  | .pair a b, x, ss, vs, h, hv => by
    unfold capSVs at h
    split at h
    · rename_i c us hc hu
      cases h
      obtain ⟨vs1, vs2, rfl, h1, h2⟩ := hv
      have h3 := CReps_flat (E := E) h1
      rw [hc] at h3
      obtain ⟨v, rfl, h4⟩ := one_reps h3
      exact ⟨v, vs2, rfl, h4, capSVs_reps hu h2⟩
    · cases h
  | .int _, _, _, _, h, _ => by cases h
  | .bool, _, _, _, h, _ => by cases h
  | .str, _, _, _, h, _ => by cases h
  | .list _, _, _, _, h, _ => by cases h
  | .ref _, _, _, _, h, _ => by cases h
  | .ptr _, _, _, _, h, _ => by cases h
  | .clo _ _, _, _, _, h, _ => by cases h

theorem oneCells_reps {E : Env} : ∀ {ss : List SV} {cs : List C} {vs : List Value}, (oneCells ss).run S ctx = some cs → SReps E ss vs → CReps E cs vs
  | [], cs, vs, hr, h => by cases hr; exact h
  | s :: ss, cs, vs, hr, h => by
    obtain ⟨v, us, rfl, k1, k2⟩ := h
    unfold oneCells at hr
    obtain ⟨c, h1, hr⟩ := RM.run_bind' hr
    obtain ⟨ds, h2, hr⟩ := RM.run_bind' hr
    cases RM.run_pure' hr
    exact ⟨v, us, rfl, asC_rep k1 h1, oneCells_reps h2 k2⟩

theorem ptrIds_rep {E : Env} : ∀ {cs : List C} {bs : List Nat} {vs : List Value}, (ptrIds cs).run S ctx = some bs → CReps E cs vs →
    ∃ ps : List Place, ps.length = bs.length ∧ (∀ (i : Nat) b, bs[i]? = some b → ∃ p, ps[i]? = some p ∧ E.place b = some p ∧ p.nil = false) ∧ vs = ps.map fun p => Value.pointer (some ⟨p.blk, 0, none⟩)
  | [], bs, vs, hr, h => by
    cases hr
    have h : _ = _ := h
    exact ⟨[], rfl, fun i b hb => by simp at hb, h⟩
  | c :: cs, bs, vs, hr, h => by
    unfold ptrIds at hr
    split at hr
    · rename_i heq
      cases heq
    · rename_i b o cs' heq
      cases heq
      split at hr
      · rename_i ho
        have ho := Nat.eq_of_beq_eq_true ho
        subst ho
        obtain ⟨ds, h1, hr⟩ := RM.run_bind' hr
        cases RM.run_pure' hr
        obtain ⟨v, us, rfl, ⟨p, hp, hn, rfl⟩, k2⟩ := h
        obtain ⟨ps, g1, g2, rfl⟩ := ptrIds_rep h1 k2
        refine ⟨p :: ps, by simp [g1], fun i b' hb => ?_, rfl⟩
        cases i with
        | zero => simp at hb; subst hb; exact ⟨p, rfl, hp, hn⟩
        | succ i => simpa using g2 i b' (by simpa using hb)
      · cases hr
    · cases hr

theorem ptrs_reps {E : Env} : ∀ {bs : List Nat} {ps : List Place}, ps.length = bs.length → (∀ (i : Nat) b, bs[i]? = some b → ∃ p, ps[i]? = some p ∧ E.place b = some p ∧ p.nil = false) →
    SReps E (bs.map fun b => .one (.ptr b 0)) (ps.map fun p => Value.pointer (some ⟨p.blk, 0, none⟩))
  | [], [], _, _ => rfl
  | b :: bs, p :: ps, hl, h => by
    obtain ⟨q, h1, h2, h3⟩ := h 0 b rfl
    simp at h1
    subst h1
    exact ⟨_, _, rfl, ⟨p, h2, h3, rfl⟩, ptrs_reps (by simpa using hl) fun i b' hb => h (i + 1) b' (by simpa using hb)⟩
  | [], _ :: _, h, _ => by simp at h
  | _ :: _, [], h, _ => by simp at h

theorem makeFunc_ok (h : SRel w0 foot base S E a w) (hc : TagsHold a ctx) {o : Oper} {k : Nat} {first caught : Array Operand} (ho : o.op = .makeFunc (.func k) first caught) {r : Res}
    (hr : (match first.toList with
    | [] => do
      let vs ← evAll caught.toList
      let cs ← oneCells vs
      match has X.mclos k with
      | true => do
        let bs ← ptrIds cs
        pureC (.mclo k bs)
      | false => do
        let ty ← RM.ofOption (find X.clos k)
        let y ← reify ty cs
        .ret { val := some (.one (.dat (.clo k ty) y.1)), blks := y.2 }
    | _ => .fail : RM Res).run S ctx = some r) : OpOk P w0 foot base S E a w o r := by
  split at hr
  · rename_i hfirst
    obtain ⟨vs, h2, hr⟩ := RM.run_bind' hr
    obtain ⟨cs, h3, hr⟩ := RM.run_bind' hr
    split at hr
    · obtain ⟨bs, h4, hr⟩ := RM.run_bind' hr
      have hf : first.map a.eval = #[] := by
        apply Array.ext'
        simp [hfirst]
      have hcs := oneCells_reps h3 (evAll_rep h hc h2)
      obtain ⟨ps, k1, k2, k3⟩ := ptrIds_rep h4 hcs
      refine OpOk.value (v := .func (.func k) #[] (caught.map a.eval)) (w' := w) ?_ ((Reckons.pureC hr ⟨ps, k1, k2, ?_⟩).after h.toHRel)
      · simp only [execOp, ho, Instr.makeFunc, hf]
        rfl
      · congr 1
        apply Array.ext'
        rw [Array.toList_map, k3]
    obtain ⟨ty, h1, hr⟩ := RM.run_bind' hr
    obtain ⟨⟨y, fr⟩, h4, hr⟩ := RM.run_bind' hr
    cases hr
    have hfo := reify_froOk h4
    obtain ⟨E1, l1, q1, f1, h1'⟩ := h.toHRel.applyFro hfo
    have hrep := reify_rep h4 ((oneCells_reps h3 (evAll_rep h hc h2)).mono l1) (Frozen.of_apply hfo h1')
    have hf : first.map a.eval = #[] := by
      apply Array.ext'
      simp [hfirst]
    refine OpOk.value (v := .func (.func k) #[] (caught.map a.eval)) (w' := w) (E' := E1) ?_ ⟨l1, ?_, rfl, _, rfl, ?_⟩
    · simp only [execOp, ho, Instr.makeFunc, hf]
      rfl
    · exact h1'
    · rw [Array.toList_map]
      exact hrep
  · cases hr

theorem callDyn_ok (hK : ∀ f con, X.con f = some con → ConOk P f con) (h : SRel w0 foot base S E a w) (hc : TagsHold a ctx) {o : Oper} {f d : Nat} {args : Array Operand} {ats : Array Nat} (ho : o.op = .call { callee := .value (.tmp f), args := args, argTypes := ats }) {r : Res}
    (hr : (do
      match ← evC (.tmp f) with
      | .dat (.clo k ty) y => (do
        let con ← RM.ofOption (X.con k)
        let vs ← evAll args.toList
        let us ← RM.ofOption (capSVs ty y)
        con.run (vs ++ us) d)
      | .mclo k bs => (do
        let con ← RM.ofOption (X.con k)
        let vs ← evAll args.toList
        con.run (vs ++ bs.map fun b => .one (.ptr b 0)) d)
      | _ => .fail : RM Res).run S ctx = some r) (hn : ∀ i ∈ r.new, i ∉ S.used) (hcond : ∀ c ∈ r.conds, c) : OpOk P w0 foot base S E a w o r := by
  have hr0 := RM.run_bind' hr
  clear hr
  obtain ⟨cf, h0, hr⟩ := hr0
  have hcf := evC_rep h hc h0
  split at hr
  · rename_i k ty y
    have hr0 := RM.run_bind' hr
    clear hr
    obtain ⟨con, h1, hr⟩ := hr0
    have hr0 := RM.run_bind' hr
    clear hr
    obtain ⟨ss, h2, hr⟩ := hr0
    have hr0 := RM.run_bind' hr
    clear hr
    obtain ⟨us, h3, hr⟩ := hr0
    obtain ⟨_, ws, hv, hrep⟩ := hcf
    simp only [List.cons.injEq, and_true] at hv
    have hcon := hK k con (run_ofOption h1)
    obtain ⟨fn, c, hf, hname, hbody⟩ := hcon.fn
    intro next Q hnext
    unfold Oper.wp
    have hrun : (execOp a.eval o).run P w = .ok (.enter k (args.map a.eval ++ ws)) w := by
      simp only [execOp, ho, resolve, hv, Deferred.ofValue, Sem.run_bind, Sem.run_pure, Result.andThen_ok, invoke, callFunc, run_program, hf, hname, hbody]
      simp
    rw [hrun, Oper.upon_enter]
    have hcalls := hcon.calls w0 foot base S ctx E w (ss ++ us) (args.toList.map a.eval ++ ws.toList) d r h.toHRel ((evAll_rep h hc h2).append (capSVs_reps (run_ofOption h3) hrep)) hr hcond hn
    have ea : (args.toList.map a.eval ++ ws.toList).toArray = args.map a.eval ++ ws := by apply Array.ext'; simp
    rw [ea] at hcalls
    refine hcalls.mono fun e w' => ?_
    rintro ⟨v, E', rfl, hA⟩
    exact hnext _ _ _ hA
  · rename_i k bs
    have hr0 := RM.run_bind' hr
    clear hr
    obtain ⟨con, h1, hr⟩ := hr0
    have hr0 := RM.run_bind' hr
    clear hr
    obtain ⟨ss, h2, hr⟩ := hr0
    obtain ⟨ps, g1, g2, hv⟩ := hcf
    have hcon := hK k con (run_ofOption h1)
    obtain ⟨fn, c, hf, hname, hbody⟩ := hcon.fn
    intro next Q hnext
    unfold Oper.wp
    have hrun : (execOp a.eval o).run P w = .ok (.enter k (args.map a.eval ++ (ps.map fun p => Value.pointer (some ⟨p.blk, 0, none⟩)).toArray)) w := by
      simp only [execOp, ho, resolve, hv, Deferred.ofValue, Sem.run_bind, Sem.run_pure, Result.andThen_ok, invoke, callFunc, run_program, hf, hname, hbody]
      simp
    rw [hrun, Oper.upon_enter]
    have hcalls := hcon.calls w0 foot base S ctx E w (ss ++ bs.map fun b => .one (.ptr b 0)) (args.toList.map a.eval ++ ps.map fun p => Value.pointer (some ⟨p.blk, 0, none⟩)) d r h.toHRel ((evAll_rep h hc h2).append (ptrs_reps g1 g2)) hr hcond hn
    have ea : (args.toList.map a.eval ++ ps.map fun p => Value.pointer (some ⟨p.blk, 0, none⟩)).toArray = args.map a.eval ++ (ps.map fun p => Value.pointer (some ⟨p.blk, 0, none⟩)).toArray := by apply Array.ext'; simp
    rw [ea] at hcalls
    refine hcalls.mono fun e w' => ?_
    rintro ⟨v, E', rfl, hA⟩
    exact hnext _ _ _ hA
  · cases hr

/-! ### Conversions -/

theorem RowVals.bytes {F : Mem} : ∀ {xs : List Int} {us : List Value}, RowVals F (.int .u8) xs us → us = xs.map (Value.int .u8) := fun {xs us} h => by
  obtain ⟨h1, h2⟩ := h
  have h1 : us.length = xs.length := by simpa [Ty.size] using h1
  apply List.ext_getElem?
  intro i
  by_cases hi : i < xs.length
  · obtain ⟨ws, k1, k2, k3⟩ := h2 i xs[i] (List.getElem?_eq_getElem hi)
    obtain ⟨k1, _⟩ := k1
    subst k1
    have := k3 0 _ rfl
    simp only [Ty.size, Nat.mul_one, Nat.add_zero] at this
    rw [this]
    simp [List.getElem?_eq_getElem hi]
  · rw [List.getElem?_eq_none (by omega), List.getElem?_eq_none (by simp; omega)]

theorem convert_ok (hT : TabOk P X.tab) (h : SRel w0 foot base S E a w) (hc : TagsHold a ctx) {o : Oper} {s t : Nat} {x : Operand} (ho : o.op = .convert s t x) {r : Res}
    (hr : (do
      let i' ← ti X s
      let i ← ti X t
      match i'.d, i.d, ← ev x with
      | .int _, .int k, .one (.dat (.int j) n) => (match kindLe j k with
        | true => pureC (.dat (.int k) n)
        | false => pureC (.dat (.int k) (k.wrap n)))
      | .slice e, .str, .one c => (do
        let j ← ti X e
        match j.d with
        | .int .u8 => (do
          let ys ← srcR (.int .u8) c
          pureC (.dat .str (ys.map fun (n : Int) => UInt8.ofNat n.toNat)))
        | _ => .fail)
      | _, _, _ => .fail : RM Res).run S ctx = some r) : OpOk P w0 foot base S E a w o r := by
  have hr0 := RM.run_bind' hr
  clear hr
  obtain ⟨i', h1, hr⟩ := hr0
  have hr0 := RM.run_bind' hr
  clear hr
  obtain ⟨i, h2, hr⟩ := hr0
  have hr0 := RM.run_bind' hr
  clear hr
  obtain ⟨sv, h3, hr⟩ := hr0
  obtain ⟨hs', _⟩ := ti_spec hT h1
  obtain ⟨hs, _⟩ := ti_spec hT h2
  have hx := ev_rep h hc h3
  split at hr
  · rename_i k' k j n hd' hd
    rw [hd] at hs
    rw [hd'] at hs'
    obtain ⟨_, h4, h5⟩ := hx
    simp only [List.cons.injEq, and_true] at h4
    have hrun : (execOp a.eval o).run P w = .ok (.value (.int k (k.wrap n))) w := by
      simp [execOp, ho, convert, run_underlying (skel_int hs'), run_underlying (skel_int hs), h4, Conv.intToInt]
    split at hr
    · rename_i hle
      rw [inR_wrap (kindLe_inR hle h5)] at hrun
      exact OpOk.value hrun ((Reckons.pureC hr ⟨rfl, rfl, kindLe_inR hle h5⟩).after h.toHRel)
    · exact OpOk.value hrun ((Reckons.pureC hr ⟨rfl, rfl, wrap_inR _ _⟩).after h.toHRel)
  · rename_i e c hd' hd
    rw [hd] at hs
    rw [hd'] at hs'
    have hr0 := RM.run_bind' hr
    clear hr
    obtain ⟨j, h4, hr⟩ := hr0
    obtain ⟨hse, _⟩ := ti_spec hT h4
    split at hr
    · rename_i hdj
      rw [hdj] at hse
      have hr0 := RM.run_bind' hr
      clear hr
      obtain ⟨ys, h5, hr⟩ := hr0
      have hx : CRep E c (a.eval x) := hx
      have hu := skel_slice hs'
      have he := skel_int hse
      have hd := skel_str hs
      rcases src_sound h.toHRel (by decide) hx h5 with ⟨hv, hys⟩ | ⟨ad, cap, news, hv, hrow, hcell⟩
      · subst hys
        refine OpOk.value (v := .string ⟨⟨[]⟩⟩) ?_ ((Reckons.pureC hr ⟨rfl, rfl, by simp [maxLenI]⟩).after h.toHRel)
        simp only [execOp, ho, hv]
        have := run_convert_bytes_nil (P := P) w s e hu he 0 0 t hd
        simp only [Sem.run_bind, this, Result.andThen_ok, Sem.run_pure]
        rfl
      · have hb := RowVals.bytes hrow
        have hlen : ys.length ≤ maxLenI := by
          have hw := hx
          rw [hv] at hw
          have : (ys.length ≤ maxLenI) := by
            cases c with
            | dat tt z =>
              obtain ⟨hag, hw⟩ := hw
              cases tt with
              | list t => obtain ⟨a', cap', g1, g2, g3, _⟩ := hw; simp only [List.cons.injEq, Value.slice.injEq, and_true] at g1; omega
              | int _ => simp [Rep] at hw
              | bool => simp [Rep] at hw
              | str => simp [Rep] at hw
              | unit => simp [Rep] at hw
              | pair _ _ => simp [Ty.isAgg] at hag
              | ref _ => simp [Rep] at hw
              | ptr _ => simp [Rep] at hw
              | clo _ _ => simp [Rep] at hw
            | row tt b =>
              obtain ⟨p, _, ⟨_, g, _⟩ | ⟨_, g, g1, g2⟩⟩ := hw
              · cases g
              · simp only [Value.slice.injEq] at g; omega
            | sub tt b lo len =>
              obtain ⟨p, _, g0, ⟨_, g, _⟩ | ⟨_, aa, g, g1, g2, _⟩⟩ := hw
              · cases g
              · simp only [Value.slice.injEq] at g; omega
            | ptr _ _ => obtain ⟨_, _, _, g⟩ := hw; cases g
            | rptr _ _ _ _ => obtain ⟨_, _, _, _, g⟩ := hw; cases g
            | elt _ _ _ _ => obtain ⟨_, _, _, g, _⟩ := hw; cases g
            | nilsl => cases hw
            | nilptr => cases hw
            | nilfn => cases hw
            | mclo _ _ => obtain ⟨_, _, _, g⟩ := hw; cases g
          exact this
        refine OpOk.value (v := .string (strOfNums ys)) ?_ ((Reckons.pureC hr ⟨rfl, ?_, by simpa using hlen⟩).after h.toHRel)
        · have hl : (loadCells ad ys.length).run P w = .ok (ys.map (Value.int .u8)).toArray w := by
            have := run_loadCells_list (P := P) w ad (ys.map (Value.int .u8)) (fun j v hj => hcell j v (by rw [hb]; exact hj))
            simpa using this
          have hcv : (convert s t (.slice (some ad) ys.length cap)).run P w = .ok (.string (strOfNums ys)) w := by
            rw [run_convert_bytes_string w s t e _ ys.length cap hu he hd, run_bytesToString w _ ys.length cap ys hl, foldl_push_bytes]
            simp [strOfNums, ByteArray.empty, ByteArray.emptyWithCapacity]
            rfl
          simp only [execOp, ho, hv, Sem.run_bind, hcv, Result.andThen_ok, Sem.run_pure]
        · simp [strOfNums]
    · cases hr
  · cases hr

/-! ### All operations -/

theorem exOp_sound (hT : TabOk P X.tab) (hK : ∀ f con, X.con f = some con → ConOk P f con) (h : SRel w0 foot base S E a w) (hc : TagsHold a ctx) {o : Oper} {r : Res} (hr : (exOp X o).run S ctx = some r)
    (hn : ∀ i ∈ r.new, i ∉ S.used) (hcond : ∀ c ∈ r.conds, c) : OpOk P w0 foot base S E a w o r := by
  cases ho : o.op with
  | move x => simp only [exOp, ho] at hr; exact move_ok h hc (.inl ho) hr
  | assign x => simp only [exOp, ho] at hr; exact move_ok h hc (.inr ho) hr
  | pick c x y =>
    cases c with
    | tmp c => simp only [exOp, ho] at hr; exact pick_ok h hc ho hr
    | _ => simp only [exOp, ho] at hr; cases hr
  | alloc t => simp only [exOp, ho] at hr; exact allocA_ok hT h ho hr hn
  | box t x => simp only [exOp, ho] at hr; exact box_ok h hc ho hr hn
  | build t ps => simp only [exOp, ho] at hr; exact build_ok hT h hc ho hr
  | buildSlice t n ps => simp only [exOp, ho] at hr; exact buildSlice_ok hT h hc ho hr hn
  | load t x => simp only [exOp, ho] at hr; exact load_ok hT h hc ho hr
  | store t x v => simp only [exOp, ho] at hr; exact store_ok hT h hc ho hr
  | nilCheck x => simp only [exOp, ho] at hr; exact nilCheck_ok h hc ho hr hcond
  | makeFunc fn first caught =>
    cases fn with
    | func k => simp only [exOp, ho] at hr; exact makeFunc_ok h hc ho hr
    | _ => simp only [exOp, ho] at hr; cases hr
  | binOp op t x y yt => simp only [exOp, ho] at hr; exact binOp_ok hT h hc ho hr hcond
  | unOp op t x => simp only [exOp, ho] at hr; exact unOp_ok h hc ho hr hcond
  | convert s t x => simp only [exOp, ho] at hr; exact convert_ok hT h hc ho hr
  | makeSlice t l c => simp only [exOp, ho] at hr; exact makeSlice_ok hT h hc ho hr hn hcond
  | slice t x lo hi mx =>
    cases mx with
    | none => simp only [exOp, ho] at hr; exact slice_ok hT h hc ho hr hcond
    | some _ => simp only [exOp, ho] at hr; cases hr
  | fieldAddr s x f => simp only [exOp, ho] at hr; exact fieldAddr_ok hT h hc ho hr
  | field s x f => simp only [exOp, ho] at hr; exact field_ok hT h hc ho hr
  | indexAddr t x ix => simp only [exOp, ho] at hr; exact indexAddr_ok hT h hc ho hr hcond
  | index t x ix => simp only [exOp, ho] at hr; exact index_ok hT h hc ho hr hcond
  | extract x k => simp only [exOp, ho] at hr; exact extract_ok h hc ho hr
  | call c =>
    obtain ⟨callee, args, ats⟩ := c
    cases callee with
    | value f =>
      cases f with
      | func f => simp only [exOp, ho] at hr; exact call_ok hK h hc ho hr hn hcond
      | tmp f => simp only [exOp, ho] at hr; exact callDyn_ok hK h hc ho hr hn hcond
      | _ => simp only [exOp, ho] at hr; cases hr
    | invoke _ _ => simp only [exOp, ho] at hr; cases hr
    | builtin b =>
      cases b with
      | len =>
        simp only [exOp, ho] at hr
        split at hr
        · rename_i x t h1 h2
          exact len_ok hT h hc ho h1 h2 hr
        · cases hr
      | max =>
        simp only [exOp, ho] at hr
        split at hr
        · rename_i x y h1
          exact minMax_ok (big := true) h hc ho h1 hr
        · cases hr
      | min =>
        simp only [exOp, ho] at hr
        split at hr
        · rename_i x y h1
          exact minMax_ok (big := false) h hc ho h1 hr
        · cases hr
      | append =>
        simp only [exOp, ho] at hr
        split at hr
        · rename_i s x t u h1 h2
          have hr0 := RM.run_bind' hr
          clear hr
          obtain ⟨u', h3, hr⟩ := hr0
          have := Nat.eq_of_beq_eq_true (run_guardR h3)
          subst this
          exact append_ok hT h hc ho h1 h2 hr hn hcond
        · cases hr
      | _ => simp only [exOp, ho] at hr; cases hr
  | _ => simp only [exOp, ho] at hr; cases hr

end Go.Vc
