/-
  Literal slices, calls by contract, and all single operations together.
-/
import Derived.Test.YtpjgggcaamigdaaVck
set_option linter.unusedVariables false
set_option linter.unusedSimpArgs false
namespace Go.Vc
open Go

variable {P : Program} {X : Ctx} {w0 : World} {foot : Nat → Prop} {base : Mem} {S : St} {E : Env} {a : Act} {w : World} {ctx : Tags}

theorem RowVals.set {F : Mem} {t : Ty} {xs : List t.den} {us : List Value} (h : RowVals F t xs us) {i : Nat} (hi : i < xs.length) {y : t.den} {ws : List Value} (hy : Rep F t y ws) :
    RowVals F t (xs.set i y) (us.take (i * t.size) ++ ws ++ us.drop (i * t.size + t.size)) := by
  have hw := hy.length
  have hm : (i + 1) * t.size ≤ xs.length * t.size := Nat.mul_le_mul_right _ (by omega)
  rw [Nat.succ_mul] at hm
  have hl := h.1
  refine ⟨by simp only [List.length_append, List.length_take, List.length_drop, List.length_set]; omega, fun k x hx => ?_⟩
  by_cases hk : i = k
  · subst hk
    rw [List.getElem?_set_self hi] at hx
    cases hx
    refine ⟨ws, hy, hw, fun j u hu => ?_⟩
    have hj := (List.getElem?_eq_some_iff.1 hu).1
    rw [List.getElem?_append_left (by simp; omega), List.getElem?_append_right (by simp; omega), ← hu]
    congr 1
    simp only [List.length_take]
    omega
  · rw [List.getElem?_set_ne hk] at hx
    obtain ⟨vs, k1, k2, k3⟩ := h.2 k x hx
    refine ⟨vs, k1, k2, fun j u hu => ?_⟩
    have hj := (List.getElem?_eq_some_iff.1 hu).1
    have := k3 j u hu
    rcases Nat.lt_or_gt_of_ne hk with hlt | hlt
    · have hm2 : (i + 1) * t.size ≤ k * t.size := Nat.mul_le_mul_right _ (by omega)
      rw [Nat.succ_mul] at hm2
      rw [List.getElem?_append_right (by simp; omega), List.getElem?_drop, ← this]
      congr 1
      simp only [List.length_append, List.length_take]
      omega
    · have hm2 : (k + 1) * t.size ≤ i * t.size := Nat.mul_le_mul_right _ (by omega)
      rw [Nat.succ_mul] at hm2
      rw [List.append_assoc, List.getElem?_append_left (by simp; omega), List.getElem?_take_of_lt (by omega)]
      exact this

theorem buildXs_froOk {t : Ty} : ∀ {ps : List (Nat × Operand)} {xs : List t.den} {r : List t.den × Fro}, (buildXs t ps xs).run S ctx = some r → FroOk S.bl r.2
  | [], xs, r, hr => by cases hr; intro p hp; cases hp
  | (i, x) :: ps, xs, r, hr => by
    unfold buildXs at hr
    have hr0 := RM.run_bind' hr
    clear hr
    obtain ⟨s, h1, hr⟩ := hr0
    have hr0 := RM.run_bind' hr
    clear hr
    obtain ⟨v, h2, hr⟩ := hr0
    have hr0 := RM.run_bind' hr
    clear hr
    obtain ⟨y, h3, hr⟩ := hr0
    have hr0 := RM.run_bind' hr
    clear hr
    obtain ⟨u, h4, hr⟩ := hr0
    have hr0 := RM.run_bind' hr
    clear hr
    obtain ⟨q, h5, hr⟩ := hr0
    cases RM.run_pure' hr
    exact (reify_froOk (x := y.1) (fr := y.2) h3).append (buildXs_froOk h5)

theorem buildXs_sound {t : Ty} (h : SRel w0 foot base S E a w) (hc : TagsHold a ctx) {E' : Env} (hle : E.le E') : ∀ {ps : List (Nat × Operand)} {xs : List t.den} {r : List t.den × Fro} {cells : Array Value},
    (buildXs t ps xs).run S ctx = some r → Frozen S.bl E' w r.2 → RowVals E'.F t xs cells.toList →
    ∃ cells', Instr.fill (fun i => some (i * t.size, t.size)) cells (ps.map fun (i, x) => (i, a.eval x)) = some cells' ∧ RowVals E'.F t r.1 cells'.toList ∧ r.1.length = xs.length
  | [], xs, r, cells, hr, _, hv => by cases hr; exact ⟨cells, rfl, hv, rfl⟩
  | (i, x) :: ps, xs, r, cells, hr, hf, hv => by
    unfold buildXs at hr
    have hr0 := RM.run_bind' hr
    clear hr
    obtain ⟨s, h1, hr⟩ := hr0
    have hr0 := RM.run_bind' hr
    clear hr
    obtain ⟨cs, h2, hr⟩ := hr0
    have hr0 := RM.run_bind' hr
    clear hr
    obtain ⟨y, h3, hr⟩ := hr0
    have hr0 := RM.run_bind' hr
    clear hr
    obtain ⟨u, h4, hr⟩ := hr0
    have hr0 := RM.run_bind' hr
    clear hr
    obtain ⟨q, h5, hr⟩ := hr0
    cases RM.run_pure' hr
    have hi : i < xs.length := Nat.le_of_ble_eq_true (run_guardR h4)
    have hcs := (evCells_rep h hc h1 h2).mono hle
    have hy := reify_rep (x := y.1) (fr := y.2) h3 hcs hf.left
    have hyl := hy.length
    have hm : (i + 1) * t.size ≤ xs.length * t.size := Nat.mul_le_mul_right _ (by omega)
    rw [Nat.succ_mul] at hm
    have hcl := hv.1
    simp only [Array.length_toList] at hcl hyl
    have hfold := fill_foldl cells (i * t.size) (a.eval x).cells.toList 0 cells (by simp only [Array.length_toList]; omega)
    simp only [Nat.add_zero] at hfold
    have e : ((a.eval x).cells.zipIdx.foldl (fun cs (c, j) => cs.setIfInBounds (i * t.size + j) c) cells).toList = cells.toList.take (i * t.size) ++ (a.eval x).cells.toList ++ cells.toList.drop (i * t.size + t.size) := by
      rw [← Array.foldl_toList, Array.toList_zipIdx]
      rw [show t.size = (a.eval x).cells.toList.length by simp [hyl]] at *
      exact hfold
    obtain ⟨cells', k1, k2, k3⟩ := buildXs_sound h hc hle (cells := (a.eval x).cells.zipIdx.foldl (fun cs (c, j) => cs.setIfInBounds (i * t.size + j) c) cells) h5 hf.right (by rw [e]; exact hv.set hi hy)
    refine ⟨cells', ?_, k2, by rw [k3]; simp⟩
    simp only [List.map_cons, Instr.fill]
    rw [if_neg (by simp; omega)]
    exact k1

theorem buildSlice_ok (hT : TabOk P X.tab) (h : SRel w0 foot base S E a w) (hc : TagsHold a ctx) {o : Oper} {t n d : Nat} {ps : Array (Nat × Operand)} (ho : o.op = .buildSlice t n ps) {r : Res}
    (hr : (do
      let i ← ti X t
      match i.d with
      | .slice e => (do
        let j ← ti X e
        let ty ← RM.ofOption j.ty
        guardR (Nat.ble (n * j.size) 16777216)
        let z ← zeroD j ty
        let r ← buildXs ty ps.toList (List.replicate n z)
        .ret { val := some (.one (.row ty d)), blks := r.2 ++ [(d, .row false e ty r.1)], new := [d] })
      | _ => .fail : RM Res).run S ctx = some r) (hn : ∀ i ∈ r.new, i ∉ S.used) : OpOk P w0 foot base S E a w o r := by
  have hr0 := RM.run_bind' hr
  clear hr
  obtain ⟨i, h1, hr⟩ := hr0
  obtain ⟨hs, _⟩ := ti_spec hT h1
  split at hr
  · rename_i e hd
    rw [hd] at hs
    have hr0 := RM.run_bind' hr
    clear hr
    obtain ⟨j, h2, hr⟩ := hr0
    have hr0 := RM.run_bind' hr
    clear hr
    obtain ⟨ty, h3, hr⟩ := hr0
    have hr0 := RM.run_bind' hr
    clear hr
    obtain ⟨u, h4, hr⟩ := hr0
    have hr0 := RM.run_bind' hr
    clear hr
    obtain ⟨z, h5, hr⟩ := hr0
    have hr0 := RM.run_bind' hr
    clear hr
    obtain ⟨q, h6, hr⟩ := hr0
    cases hr
    obtain ⟨j', g1, g2, g3, g4, g5, g6, g7, g8⟩ := zeroD_sound hT h2 h5
    have hsmall := Nat.le_of_ble_eq_true (run_guardR h4)
    have hfo := buildXs_froOk h6
    obtain ⟨E1, l1, q1, f1, hh⟩ := h.toHRel.applyFro hfo
    have hfz := Frozen.of_apply hfo hh
    have hmade := RowVals.made (n := n) (m := n) (g8 E1.F) (by omega) (Nat.le_refl _)
    rw [List.take_of_length_le (by simp [size_madeCells])] at hmade
    obtain ⟨cells', k1, k2, k3⟩ := buildXs_sound h hc l1 h6 hfz hmade
    have hlen : q.1.length = n := by rw [k3]; simp
    have hsz : cells'.size = n * ty.size := by rw [← Array.length_toList, k2.1, hlen]
    have hn63 : n ≤ maxLenI := by
      have : n * 1 ≤ n * j.size := Nat.mul_le_mul_left _ (by omega)
      unfold maxLenI
      omega
    obtain ⟨m1, m2, m3⟩ := new_row (S := { S with bl := applyFro q.2 S.bl }) (e := e) (cap := n) (rest := []) hh (hn d (by simp)) k2 hn63 (by omega) (by simp) hsz
    rw [hlen] at m1 m2 m3
    refine OpOk.value (v := _) (w' := _) ?_ ⟨l1.trans m2, by rw [applyBl_fro]; exact m1, m3⟩
    have k1' : Instr.fill (fun i => some (i * j'.size, j'.size)) (madeCells j.zero.cells (n * j'.size)) (ps.map fun x => (x.1, a.eval x.2)).toList = some cells' := by
      rw [Array.toList_map, g2, ← g5]
      exact k1
    have hgt : ¬ n * j'.size > 2 ^ 24 := by rw [g2]; omega
    by_cases hz : n * j'.size = 0
    · rw [hz] at k1'
      have hm0 : madeCells j.zero.cells 0 = #[] := by simp [madeCells]
      rw [hm0] at k1'
      simp only [execOp, ho, Instr.buildSlice, Sem.run_bind, run_underlying (skel_slice hs), Result.andThen_ok, run_sizeOf' g1]
      rw [if_neg hgt, if_pos hz, hz]
      simp only [Sem.run_bind, Sem.run_pure, Result.andThen_ok]
      have hr0 : Array.map (fun x => (#[] : Array Value)[x % (#[] : Array Value).size]!) (Array.range 0) = #[] := by simp
      rw [hr0, k1']
      rfl
    · simp only [execOp, ho, Instr.buildSlice, Sem.run_bind, run_underlying (skel_slice hs), Result.andThen_ok, run_sizeOf' g1]
      rw [if_neg hgt, if_neg hz]
      simp only [Sem.run_bind, Sem.run_pure, Result.andThen_ok, run_zeroValue' g1 g4]
      unfold madeCells at k1'
      rw [k1']
      rfl
  · cases hr

/-! ### Calls by contract -/

def SReps (E : Env) : List SV → List Value → Prop
  | [], vs => vs = []
  | s :: ss, vs => ∃ v us, vs = v :: us ∧ SRep E s v ∧ SReps E ss us

theorem evAll_rep (h : SRel w0 foot base S E a w) (hc : TagsHold a ctx) : ∀ {xs : List Operand} {ss : List SV}, (evAll xs).run S ctx = some ss → SReps E ss (xs.map a.eval)
  | [], ss, hr => by cases hr; rfl
  | x :: xs, ss, hr => by
    unfold evAll at hr
    have hr0 := RM.run_bind' hr
    clear hr
    obtain ⟨s, h1, hr⟩ := hr0
    have hr0 := RM.run_bind' hr
    clear hr
    obtain ⟨ss', h2, hr⟩ := hr0
    cases RM.run_pure' hr
    exact ⟨_, _, rfl, ev_rep h hc h1, evAll_rep h hc h2⟩

/-- What a contract promises. -/
structure ConOk (P : Program) (f : Nat) (con : Con) : Prop where
  fn : ∃ fn c, P.funcs[f]? = some fn ∧ (fn.name == "runtime.NumGoroutine") = false ∧ fn.body = some c
  calls : ∀ (w0 : World) (foot : Nat → Prop) (base : Mem) (S : St) (ctx : Tags) (E : Env) (w : World) (args : List SV) (vs : List Value) (d : Nat) (r : Res), HRel w0 foot base S.bl S.used E w → SReps E args vs →
    (con.run args d).run S ctx = some r → (∀ c ∈ r.conds, c) → (∀ i ∈ r.new, i ∉ S.used) →
    Calls P f vs.toArray w fun e w' => ∃ v E', e = .returned v ∧ After w0 foot base S.bl S.used E r E' w' v

theorem call_ok (hK : ∀ f con, X.con f = some con → ConOk P f con) (h : SRel w0 foot base S E a w) (hc : TagsHold a ctx) {o : Oper} {f d : Nat} {args : Array Operand} {ats : Array Nat} (ho : o.op = .call { callee := .value (.func f), args := args, argTypes := ats }) {r : Res}
    (hr : (do
      let con ← RM.ofOption (X.con f)
      let vs ← evAll args.toList
      con.run vs d : RM Res).run S ctx = some r) (hn : ∀ i ∈ r.new, i ∉ S.used) (hcond : ∀ c ∈ r.conds, c) : OpOk P w0 foot base S E a w o r := by
  have hr0 := RM.run_bind' hr
  clear hr
  obtain ⟨con, h1, hr⟩ := hr0
  have hr0 := RM.run_bind' hr
  clear hr
  obtain ⟨ss, h2, hr⟩ := hr0
  have hcon := hK f con (run_ofOption h1)
  obtain ⟨fn, c, hf, hname, hbody⟩ := hcon.fn
  intro next Q hnext
  unfold Oper.wp
  have hrun : (execOp a.eval o).run P w = .ok (.enter f (args.map a.eval)) w := by
    simp only [execOp, ho, resolve, Act.eval, Deferred.ofValue, Sem.run_bind, Sem.run_pure, Result.andThen_ok, invoke, callFunc, run_program, hf, hname, hbody]
    simp
  rw [hrun, Oper.upon_enter]
  have hcalls := hcon.calls w0 foot base S ctx E w ss (args.toList.map a.eval) d r h.toHRel (evAll_rep h hc h2) hr hcond hn
  have ea : (args.toList.map a.eval).toArray = args.map a.eval := by apply Array.ext'; simp
  rw [ea] at hcalls
  refine hcalls.mono fun e w' => ?_
  rintro ⟨v, E', rfl, hA⟩
  exact hnext _ _ _ hA

/-! ### All operations -/

theorem exOp_sound (hT : TabOk P X.tab) (hK : ∀ f con, X.con f = some con → ConOk P f con) (h : SRel w0 foot base S E a w) (hc : TagsHold a ctx) {o : Oper} {r : Res} (hr : (exOp X o).run S ctx = some r)
    (hn : ∀ i ∈ r.new, i ∉ S.used) (hcond : ∀ c ∈ r.conds, c) : OpOk P w0 foot base S E a w o r := by
  cases ho : o.op with
  | move x => simp only [exOp, ho] at hr; exact move_ok h hc (.inl ho) hr
  | assign x => simp only [exOp, ho] at hr; exact move_ok h hc (.inr ho) hr
  | pick c x y =>
    cases c with
    | tmp c => simp only [exOp, ho] at hr; exact pick_ok h hc ho hr
    | _ => simp only [exOp, ho] at hr; cases hr
  | alloc t => simp only [exOp, ho] at hr; exact alloc_ok hT h ho hr hn
  | box t x => simp only [exOp, ho] at hr; exact box_ok h hc ho hr hn
  | build t ps => simp only [exOp, ho] at hr; exact build_ok hT h hc ho hr
  | buildSlice t n ps => simp only [exOp, ho] at hr; exact buildSlice_ok hT h hc ho hr hn
  | load t x => simp only [exOp, ho] at hr; exact load_ok hT h hc ho hr
  | store t x v => simp only [exOp, ho] at hr; exact store_ok hT h hc ho hr
  | nilCheck x => simp only [exOp, ho] at hr; exact nilCheck_ok h hc ho hr
  | binOp op t x y yt => simp only [exOp, ho] at hr; exact binOp_ok hT h hc ho hr hcond
  | unOp op t x => simp only [exOp, ho] at hr; exact unOp_ok h hc ho hr hcond
  | convert s t x => simp only [exOp, ho] at hr; exact convert_ok hT h hc ho hr
  | makeSlice t l c => simp only [exOp, ho] at hr; exact makeSlice_ok hT h hc ho hr hn hcond
  | slice t x lo hi mx =>
    cases mx with
    | none => simp only [exOp, ho] at hr; exact slice_ok hT h hc ho hr hcond
    | some _ => simp only [exOp, ho] at hr; cases hr
  | fieldAddr s x f => simp only [exOp, ho] at hr; exact fieldAddr_ok hT h hc ho hr
  | field s x f => simp only [exOp, ho] at hr; exact field_ok hT h hc ho hr
  | indexAddr t x ix => simp only [exOp, ho] at hr; exact indexAddr_ok hT h hc ho hr hcond
  | index t x ix => simp only [exOp, ho] at hr; exact index_ok hT h hc ho hr hcond
  | extract x k => simp only [exOp, ho] at hr; exact extract_ok h hc ho hr
  | call c =>
    obtain ⟨callee, args, ats⟩ := c
    cases callee with
    | value f =>
      cases f with
      | func f => simp only [exOp, ho] at hr; exact call_ok hK h hc ho hr hn hcond
      | _ => simp only [exOp, ho] at hr; cases hr
    | invoke _ _ => simp only [exOp, ho] at hr; cases hr
    | builtin b =>
      cases b with
      | len =>
        simp only [exOp, ho] at hr
        split at hr
        · rename_i x t h1 h2
          exact len_ok hT h hc ho h1 h2 hr
        · cases hr
      | append =>
        simp only [exOp, ho] at hr
        split at hr
        · rename_i s x t u h1 h2
          have hr0 := RM.run_bind' hr
          clear hr
          obtain ⟨u', h3, hr⟩ := hr0
          have := Nat.eq_of_beq_eq_true (run_guardR h3)
          subst this
          exact append_ok hT h hc ho h1 h2 hr hn hcond
        · cases hr
      | _ => simp only [exOp, ho] at hr; cases hr
  | _ => simp only [exOp, ho] at hr; cases hr

end Go.Vc
