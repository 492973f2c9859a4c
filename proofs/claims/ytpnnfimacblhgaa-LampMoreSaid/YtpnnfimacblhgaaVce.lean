/-
  The executor's single operations are sound, first part: values, numbers, places, loads and stores.
-/
import Derived.Test.YtpnnfimacblhgaaVcd
set_option linter.unusedVariables false
set_option linter.unusedSimpArgs false
namespace Go.Vc
open Go

variable {P : Program} {X : Ctx} {w0 : World} {foot : Foot} {base : Mem} {S : St} {E : Env} {a : Act} {w : World} {ctx : Tags}

/-! ### What is to be shown of an operation -/

def applyBl (r : Res) (bl : List (Nat × Blk)) : List (Nat × Blk) := r.blks.foldl (fun l p => put l p.1 p.2) (r.del.foldl rem bl)

def ValOk (E : Env) : Option SV → Value → Prop
  | none, _ => True
  | some s, v => SRep E s v

structure After (w0 : World) (foot : Foot) (base : Mem) (bl : List (Nat × Blk)) (used : List Nat) (E : Env) (r : Res) (E' : Env) (w' : World) (v : Value) : Prop where
  le : E.le E'
  heap : HRel w0 foot base (applyBl r bl) (r.new ++ used) E' w'
  val : ValOk E' r.val v

def OpOk (P : Program) (w0 : World) (foot : Foot) (base : Mem) (S : St) (E : Env) (a : Act) (w : World) (o : Oper) (r : Res) : Prop :=
  ∀ (next : Act → World → Prop) (Q : Exit → Act → World → Prop), (∀ E' w' v, After w0 foot base S.bl S.used E r E' w' v → next (a.put o.dst v) w') → o.wp P a w next Q

theorem OpOk.value {o : Oper} {r : Res} {v : Value} {w' : World} {E' : Env} (hrun : (execOp a.eval o).run P w = .ok (.value v) w') (hA : After w0 foot base S.bl S.used E r E' w' v) :
    OpOk P w0 foot base S E a w o r := fun next Q hn => by
  unfold Oper.wp
  rw [hrun]
  exact hn _ _ _ hA

theorem OpOk.skip {o : Oper} {r : Res} {w' : World} {E' : Env} (hrun : (execOp a.eval o).run P w = .ok .skip w') (hA : After w0 foot base S.bl S.used E r E' w' undef) :
    OpOk P w0 foot base S E a w o r := fun next Q hn => by
  unfold Oper.wp
  rw [hrun]
  exact hn _ _ _ hA

theorem After.pure (h : HRel w0 foot base S.bl S.used E w) {s : SV} {v : Value} {cs : List Prop} (hv : SRep E s v) : After w0 foot base S.bl S.used E { val := some s, conds := cs } E w v :=
  ⟨.refl _, h, hv⟩

/-! ### Types -/

theorem tabOf_mem : ∀ {l : List TI} {t : Nat} {i : TI}, tabOf l t = some i → i ∈ l ∧ i.id = t
  | [], _, _, h => by cases h
  | j :: l, t, i, h => by
    unfold tabOf at h
    split at h
    · rename_i hb
      cases h
      exact ⟨List.mem_cons_self, Nat.eq_of_beq_eq_true hb⟩
    · obtain ⟨h1, h2⟩ := tabOf_mem h
      exact ⟨List.mem_cons_of_mem _ h1, h2⟩

theorem map_eq_mem {α β : Type} {f g : α → β} : ∀ {l : List α}, l.map f = l.map g → ∀ x ∈ l, f x = g x
  | [], _, x, hx => by cases hx
  | y :: l, h, x, hx => by
    simp only [List.map_cons, List.cons.injEq] at h
    rcases List.mem_cons.1 hx with rfl | hx
    · exact h.1
    · exact map_eq_mem h.2 x hx

theorem ti_spec (hT : TabOk P X.tab) {t : Nat} {i : TI} (h : (ti X t).run S ctx = some i) :
    skel P t = i.d ∧ ∃ j, P.info? t = some j ∧ j.size = i.size ∧ j.bytes = i.bytes ∧ j.zero = some i.zero := by
  have h := run_ofOption h
  obtain ⟨hm, rfl⟩ := tabOf_mem h
  refine ⟨map_eq_mem hT.skels i hm, ?_⟩
  have := map_eq_mem hT.infos i hm
  obtain ⟨j, hj, e⟩ := Option.map_eq_some_iff.1 this
  simp only [Prod.mk.injEq] at e
  exact ⟨j, hj, e.1, e.2.1, e.2.2⟩

theorem skel_slice {t e : Nat} (h : skel P t = .slice e) : P.underlying t = some (.slice e) := by
  unfold skel at h; split at h <;> first | cases h | skip
  assumption
theorem skel_int {t : Nat} {k : IntKind} (h : skel P t = .int k) : P.underlying t = some (.int k) := by
  unfold skel at h; split at h <;> first | cases h | skip
  assumption
theorem skel_bool {t : Nat} (h : skel P t = .bool) : P.underlying t = some .bool := by
  unfold skel at h; split at h <;> first | cases h | skip
  assumption
theorem skel_str {t : Nat} (h : skel P t = .str) : P.underlying t = some .string := by
  unfold skel at h; split at h <;> first | cases h | skip
  assumption
theorem skel_struct {t : Nat} {fs : List (Nat × Nat × Nat)} (h : skel P t = .struct fs) :
    ∃ gs, P.underlying t = some (.struct gs) ∧ fs = gs.toList.map fun f => (f.offset, P.cellsOf f.type, f.type) := by
  unfold skel at h; split at h <;> first | cases h | skip
  rename_i gs hg
  exact ⟨gs, hg, rfl⟩

theorem skel_array {t n e : Nat} (h : skel P t = .array n e) : P.underlying t = some (.array n e) := by
  unfold skel at h; split at h <;> first | cases h | skip
  assumption

theorem skel_plain {t : Nat} (h : skel P t = .plain) : (∃ e, P.underlying t = some (.pointer e)) ∨ ∃ a b c, P.underlying t = some (.func a b c) := by
  unfold skel at h; split at h <;> first | cases h | skip
  · rename_i e he; exact .inl ⟨e, he⟩
  · rename_i a b c he; exact .inr ⟨a, b, c, he⟩

theorem run_typeInfo' {t : Nat} {j : TypeInfo} (h : P.info? t = some j) : (typeInfo t).run P w = .ok j w := by
  simp [typeInfo, h]
theorem run_sizeOf' {t : Nat} {j : TypeInfo} (h : P.info? t = some j) : (sizeOf t).run P w = .ok j.size w := by
  simp [sizeOf, run_typeInfo' h]
theorem run_zeroValue' {t : Nat} {j : TypeInfo} {z : Value} (h : P.info? t = some j) (hz : j.zero = some z) : (zeroValue t).run P w = .ok z w := by
  simp [zeroValue, run_typeInfo' h, hz]

theorem run_isAgg_struct {t : Nat} {gs : Array Field} (h : P.underlying t = some (.struct gs)) : (isAgg t).run P w = .ok true w := by
  simp [isAgg, run_underlying h]

theorem run_isAgg_scalar {t : Nat} (h : (match skel P t with | .struct _ => false | .array _ _ => false | .other => false | _ => true) = true) : (isAgg t).run P w = .ok false w := by
  cases hs : skel P t with
  | int k => simp [isAgg, run_underlying (skel_int hs)]
  | bool => simp [isAgg, run_underlying (skel_bool hs)]
  | str => simp [isAgg, run_underlying (skel_str hs)]
  | slice e => simp [isAgg, run_underlying (skel_slice hs)]
  | struct fs => rw [hs] at h; cases h
  | plain =>
    rcases skel_plain hs with ⟨e, he⟩ | ⟨a, b, c, he⟩ <;> simp [isAgg, run_underlying he]
  | array n e => rw [hs] at h; cases h
  | other => rw [hs] at h; cases h

/-! ### Memory -/

def CellsAt (w : World) (b o : Nat) (us : List Value) : Prop := ∀ (j : Nat) u, us[j]? = some u → w.cell? ⟨b, o + j, none⟩ = some u

theorem addr_add (b o n : Nat) : (⟨b, o, none⟩ : Addr).add n = ⟨b, o + n, none⟩ := by
  unfold Addr.add
  split
  · rename_i h; subst h; rfl
  · rfl

theorem cell_of_heap {w : World} {b : Nat} {vs : Array Value} {e : TypeId} {m : Nat × Nat} (h : w.heap[b]? = some (.cells vs e m)) (o : Nat) : w.cell? ⟨b, o, none⟩ = vs[o]? := by
  simp [World.cell?, h]

theorem run_loadCells' {b o : Nat} {us : List Value} (h : CellsAt w b o us) : (loadCells ⟨b, o, none⟩ us.length).run P w = .ok us.toArray w :=
  run_loadCells_list w _ us fun j v hv => by rw [addr_add]; exact h j v hv

theorem run_loadVar' {t b o : Nat} {us : List Value} {cs : List C} {s : SV} {j : TypeInfo} (hd : (mkSV (skel P t) cs).run S ctx = some s) (hi : P.info? t = some j) (hl : us.length = j.size)
    (hr : CReps E cs us) (h : CellsAt w b o us) : ∃ v, (loadVar t ⟨b, o, none⟩).run P w = .ok v w ∧ SRep E s v := by
  unfold mkSV at hd
  split at hd
  · rename_i fs hs
    cases hd
    obtain ⟨gs, hu, _⟩ := skel_struct hs
    refine ⟨.agg us.toArray, ?_, _, rfl, hr⟩
    simp [loadVar, run_isAgg_struct hu, run_sizeOf' hi, ← hl, run_loadCells' h]
  · cases hd
  · cases hd
  · rename_i h1 h2 h3
    split at hd
    · rename_i c
      cases hd
      obtain ⟨v, vs, rfl, k1, k2⟩ := hr
      have hvs : vs = [] := k2
      subst hvs
      refine ⟨v, ?_, k1⟩
      have hc := h 0 v rfl
      have : (isAgg t).run P w = .ok false w := run_isAgg_scalar (by
        cases hs : skel P t <;> simp_all)
      simp only [loadVar, Sem.run_bind, this, Result.andThen_ok]
      simp only [Bool.false_eq_true, if_false, run_load]
      simp only [Nat.add_zero] at hc
      rw [hc]
    · cases hd

theorem row_cells {p : Place} {fro : Bool} {e : Nat} {t : Ty} {xs : List t.den} (hB : BRow E w p fro e t xs) {i : Nat} (hi : i < p.len) :
    ∃ us, Rep E.F t (at' xs i) us ∧ us.length = t.size ∧ CellsAt w p.blk (i * t.size) us := by
  obtain ⟨h0, ⟨h1, h1'⟩, vs, h2, h3, h4, h5⟩ := hB
  have hx : xs[i]? = some (at' xs i) := by
    unfold at'
    rw [List.getD_eq_getElem?_getD, List.getElem?_eq_getElem (by omega)]
    rfl
  obtain ⟨us, k1, k2, k3⟩ := h5 i _ hx
  exact ⟨us, k1, k2, fun j u hu => by rw [cell_of_heap h2]; exact k3 j u hu⟩

theorem CellsAt.drop {b o : Nat} {us : List Value} (h : CellsAt w b o us) (n : Nat) : CellsAt w b (o + n) (us.drop n) := fun j u hu => by
  rw [List.getElem?_drop] at hu
  have := h _ _ hu
  rwa [← Nat.add_assoc] at this

theorem CellsAt.take {b o : Nat} {us : List Value} (h : CellsAt w b o us) (n : Nat) : CellsAt w b o (us.take n) := fun j u hu => by
  have hj : j < n := by
    have := (List.getElem?_eq_some_iff.1 hu).1
    simp only [List.length_take] at this
    omega
  rw [List.getElem?_take_of_lt hj] at hu
  exact h _ _ hu

theorem loadCs_sound (h : HRel w0 foot base S.bl S.used E w) {size : Nat} {c : C} {cs : List C} {v : Value} (hr : (loadCs size c).run S ctx = some cs) (hv : CRep E c v) :
    ∃ b o us, v = .pointer (some ⟨b, o, none⟩) ∧ CReps E cs us ∧ CellsAt w b o us := by
  unfold loadCs at hr
  split at hr
  · rename_i b o
    simp only [RM.run] at hr
    split at hr
    · rename_i B hf
      split at hr
      · rename_i old
        cases hr
        obtain ⟨p, hp, hn, rfl⟩ := hv
        obtain ⟨p', hp', _, vs, e, h1, h2⟩ := h.blks _ _ hf
        rw [hp] at hp'; cases hp'
        refine ⟨_, _, (vs.toList.drop o).take size, rfl, (h2.drop o).take size, ?_⟩
        have : CellsAt w p.blk 0 vs.toList := fun j u hu => by rw [cell_of_heap h1]; simpa using hu
        simpa using (this.drop o).take size
      · cases hr
        obtain ⟨p, hp, hn, rfl⟩ := hv
        obtain ⟨p', hp', _, vs, e, h1, _, h2⟩ := h.blks _ _ hf
        rw [hp] at hp'; cases hp'
        refine ⟨_, _, (vs.toList.drop o).take size, rfl, ((CReps_flat h2).drop o).take size, ?_⟩
        have : CellsAt w p.blk 0 vs.toList := fun j u hu => by rw [cell_of_heap h1]; simpa using hu
        simpa using (this.drop o).take size
      · cases hr
    · cases hr
  · rename_i tt b i o
    simp only [RM.run] at hr
    split at hr
    · rename_i B hf
      split at hr
      · rename_i fro e t xs
        split at hr
        · rename_i ht
          have ht := Ty.beq_eq ht
          subst ht
          cases hr
          obtain ⟨p, hp, hn, hi, rfl⟩ := hv
          obtain ⟨p', hp', hB⟩ := h.blks _ _ hf
          rw [hp] at hp'; cases hp'
          rcases hB with ⟨hn', _⟩ | ⟨_, hB⟩
          · rw [hn] at hn'; cases hn'
          · obtain ⟨us, k1, k2, k3⟩ := row_cells hB hi
            exact ⟨_, _, (us.drop o).take size, rfl, ((CReps_flat k1).drop o).take size, (k3.drop o).take size⟩
        · cases hr
      · cases hr
    · cases hr
  · rename_i t xs i o
    cases hr
    obtain ⟨hi, b, off, rfl, k⟩ := hv
    have hx : (Ty.L (t := t) xs)[i]? = some (at' xs i) := by
      unfold at'
      rw [List.getD_eq_getElem?_getD, List.getElem?_eq_getElem hi]
      rfl
    obtain ⟨us, k1, k2, k3⟩ := k i _ hx
    have : CellsAt w b (off + i * t.size) us := fun j u hu => by
      obtain ⟨c, e, m, h1, h2⟩ := k3 j u hu
      rw [cell_of_heap (h.frz _ _ h1), Nat.add_assoc]
      exact h2
    have := (this.drop o).take size
    rw [Nat.add_assoc] at this
    exact ⟨_, _, (us.drop o).take size, rfl, ((CReps_flat k1).drop o).take size, this⟩
  · cases hr

/-! ### Single operations -/

theorem pureV_spec {s : SV} {r : Res} (h : (pureV s).run S ctx = some r) : r = { val := some s } := by cases h; rfl
theorem pureC_spec {c : C} {r : Res} (h : (pureC c).run S ctx = some r) : r = { val := some (.one c) } := by cases h; rfl
theorem pureIf_spec {p : Prop} {c : C} {r : Res} (h : (pureIf p c).run S ctx = some r) : r = { val := some (.one c), conds := [p] } := by cases h; rfl

theorem load_ok (hT : TabOk P X.tab) (h : SRel w0 foot base S E a w) (hc : TagsHold a ctx) {o : Oper} {t : Nat} {x : Operand} (ho : o.op = .load t x) {r : Res}
    (hr : (do let i ← ti X t; let cs ← loadCs i.size (← evC x); guardR (Nat.beq cs.length i.size); pureV (← mkSV i.d cs) : RM Res).run S ctx = some r) : OpOk P w0 foot base S E a w o r := by
  obtain ⟨i, h1, hr⟩ := RM.run_bind' hr
  obtain ⟨c, h2, hr⟩ := RM.run_bind' hr
  obtain ⟨cs, h3, hr⟩ := RM.run_bind' hr
  obtain ⟨u, h4, hr⟩ := RM.run_bind' hr
  obtain ⟨s, h5, hr⟩ := RM.run_bind' hr
  obtain ⟨hs, j, hj, e1, e2, e3⟩ := ti_spec hT h1
  obtain ⟨b, off, us, hv, k1, k2⟩ := loadCs_sound h.toHRel h3 (evC_rep h hc h2)
  have hl : us.length = j.size := by rw [k1.length, Nat.eq_of_beq_eq_true (run_guardR h4), e1]
  rw [← hs] at h5
  obtain ⟨v, hrun, hrep⟩ := run_loadVar' h5 hj hl k1 k2
  rw [pureV_spec hr]
  refine OpOk.value (v := v) (w' := w) ?_ (After.pure h.toHRel hrep)
  simp [execOp, ho, Instr.loadAt, Instr.sureAddr, hv, hrun]

theorem alloc_rel (h : HRel w0 foot base S.bl S.used E w) {d : Nat} {cs : List C} {vs : Array Value} {e : TypeId} (hv : CReps E cs vs.toList) (hd : d ∉ S.used) :
    After w0 foot base S.bl S.used E { val := some (.one (.ptr d 0)), blks := [(d, .cells cs)], new := [d] } (E.new d ⟨false, w.heap.size, 0, 0⟩) (w.alloc (.cells vs e)) (.pointer (some ⟨w.heap.size, 0, none⟩)) := by
  have hnone : E.place d = none := by
    cases he : E.place d with
    | none => rfl
    | some q => exact absurd (h.used d q he) hd
  have hle := Env.new_le (p := ⟨false, w.heap.size, 0, 0⟩) hnone
  exact ⟨hle, h.alloc hd (fun _ => rfl) ⟨rfl, vs, e, alloc_same, hv.mono hle⟩, ⟨_, Env.new_same, rfl, rfl⟩⟩

theorem alloc_ok (hT : TabOk P X.tab) (h : SRel w0 foot base S E a w) {o : Oper} {t d : Nat} (ho : o.op = .alloc t) {r : Res} {i : TI} (h1 : (ti X t).run S ctx = some i)
    (hr : (do let cs ← RM.ofOption (constCs i.zero.cells.toList); .ret { val := some (.one (.ptr d 0)), blks := [(d, .cells cs)], new := [d] } : RM Res).run S ctx = some r)
    (hn : ∀ i ∈ r.new, i ∉ S.used) : OpOk P w0 foot base S E a w o r := by
  obtain ⟨cs, h2, hr⟩ := RM.run_bind' hr
  obtain ⟨hs, j, hj, e1, e2, e3⟩ := ti_spec hT h1
  cases hr
  refine OpOk.value (v := .pointer (some ⟨w.heap.size, 0, none⟩)) (w' := w.alloc (.cells i.zero.cells t)) ?_ (alloc_rel h.toHRel (constCs_rep (run_ofOption h2)) (hn d (by simp)))
  simp [execOp, ho, Instr.alloc, run_zeroValue' hj e3, newVar, newRow]

theorem box_ok (h : SRel w0 foot base S E a w) (hc : TagsHold a ctx) {o : Oper} {t d : Nat} {x : Operand} (ho : o.op = .box t x) {r : Res}
    (hr : (do let cs ← asCells (← ev x); .ret { val := some (.one (.ptr d 0)), blks := [(d, .cells cs)], new := [d] } : RM Res).run S ctx = some r)
    (hn : ∀ i ∈ r.new, i ∉ S.used) : OpOk P w0 foot base S E a w o r := by
  obtain ⟨s, h1, hr⟩ := RM.run_bind' hr
  obtain ⟨cs, h2, hr⟩ := RM.run_bind' hr
  cases hr
  refine OpOk.value (v := .pointer (some ⟨w.heap.size, 0, none⟩)) (w' := w.alloc (.cells (a.eval x).cells t)) ?_ (alloc_rel h.toHRel (evCells_rep h hc h1 h2) (hn d (by simp)))
  simp [execOp, ho, Instr.box, newVar, newRow]

theorem move_ok (h : SRel w0 foot base S E a w) (hc : TagsHold a ctx) {o : Oper} {x : Operand} (ho : o.op = .move x ∨ o.op = .assign x) {r : Res}
    (hr : (do pureV (← ev x) : RM Res).run S ctx = some r) : OpOk P w0 foot base S E a w o r := by
  obtain ⟨s, h1, hr⟩ := RM.run_bind' hr
  rw [pureV_spec hr]
  refine OpOk.value (v := a.eval x) (w' := w) ?_ (After.pure h.toHRel (ev_rep h hc h1))
  rcases ho with ho | ho <;> simp [execOp, ho]

theorem pick_ok (h : SRel w0 foot base S E a w) (hc : TagsHold a ctx) {o : Oper} {c : Nat} {x y : Operand} (ho : o.op = .pick (.tmp c) x y) {r : Res}
    (hr : (do
      let g ← asB (← ev (.tmp c))
      let x ← asB (← evx [(c, true)] x)
      let y ← asB (← evx [(c, false)] y)
      pureC (.dat .bool (bif g then x else y)) : RM Res).run S ctx = some r) : OpOk P w0 foot base S E a w o r := by
  obtain ⟨s, h1, hr⟩ := RM.run_bind' hr
  obtain ⟨g, h2, hr⟩ := RM.run_bind' hr
  obtain ⟨s', h3, hr⟩ := RM.run_bind' hr
  obtain ⟨x', h4, hr⟩ := RM.run_bind' hr
  obtain ⟨s'', h5, hr⟩ := RM.run_bind' hr
  obtain ⟨y', h6, hr⟩ := RM.run_bind' hr
  rw [pureC_spec hr]
  have hg := asB_rep (ev_rep h hc h1) h2
  have htag : TagsHold a ((c, g) :: ctx) := fun t ht => by
    rcases List.mem_cons.1 ht with rfl | ht
    · have : a.tmps.getD c undef = .bool g := hg
      simp only
      rw [Array.getD_eq_getD_getElem?] at this
      cases hh : a.tmps[c]? with
      | none => rw [hh] at this; simp [undef] at this
      | some v => rw [hh] at this; simpa using this
    · exact hc t ht
  cases g with
  | true =>
    have hx := asB_rep (evx_rep h htag h3) h4
    refine OpOk.value (v := .bool x') (w' := w) ?_ (After.pure h.toHRel ⟨rfl, rfl⟩)
    simp [execOp, ho, hg, asBool, hx]
  | false =>
    have hy := asB_rep (evx_rep h htag h5) h6
    refine OpOk.value (v := .bool y') (w' := w) ?_ (After.pure h.toHRel ⟨rfl, rfl⟩)
    simp [execOp, ho, hg, asBool, hy]

theorem nilCheck_ok (h : SRel w0 foot base S E a w) (hc : TagsHold a ctx) {o : Oper} {x : Operand} (ho : o.op = .nilCheck x) {r : Res}
    (hr : (do
      match ← evC x with
      | .ptr b o => pureC (.ptr b o)
      | .rptr t b i o => pureC (.rptr t b i o)
      | .elt t xs i o => pureC (.elt t xs i o)
      | .dat (.ptr t) x => .ret { val := some (.one (.elt t [x.getD t.dflt] 0 0)), conds := [x ≠ none] }
      | _ => .fail : RM Res).run S ctx = some r) (hcond : ∀ c ∈ r.conds, c) : OpOk P w0 foot base S E a w o r := by
  obtain ⟨c, h1, hr⟩ := RM.run_bind' hr
  have hv := evC_rep h hc h1
  have key : ∀ b off, a.eval x = .pointer (some ⟨b, off, none⟩) → r = { val := some (.one c) } → OpOk P w0 foot base S E a w o r := fun b off he er => by
    rw [er]
    exact OpOk.value (v := a.eval x) (w' := w) (by simp [execOp, ho, he]) (After.pure h.toHRel hv)
  split at hr
  · obtain ⟨p, _, _, he⟩ := hv; exact key _ _ he (pureC_spec hr)
  · obtain ⟨p, _, _, _, he⟩ := hv; exact key _ _ he (pureC_spec hr)
  · obtain ⟨_, b, off, he, _⟩ := hv; exact key _ _ he (pureC_spec hr)
  · rename_i t y
    cases hr
    have hy := hcond _ (List.mem_singleton.2 rfl)
    obtain ⟨_, ⟨hy', _⟩ | ⟨z, hz, b, off, he, us, k1, k2, k3⟩⟩ := hv
    · exact absurd hy' hy
    · subst hz
      simp only [List.cons.injEq, and_true] at he
      refine OpOk.value (v := a.eval x) (w' := w) (by simp [execOp, ho, he]) (After.pure h.toHRel ⟨by simp, b, off, by simpa using he, fun i y hy => ?_⟩)
      cases i with
      | zero =>
        have hy : z = y := by simpa using hy
        subst hy
        exact ⟨us, k1, k2, fun j u hu => by simpa using k3 j u hu⟩
      | succ i => simp at hy
  · cases hr

theorem fieldAddr_ok (hT : TabOk P X.tab) (h : SRel w0 foot base S E a w) (hc : TagsHold a ctx) {o : Oper} {s : Nat} {x : Operand} {f : Nat} (ho : o.op = .fieldAddr s x f) {r : Res}
    (hr : (do
      let i ← ti X s
      match i.d with
      | .struct fs => (match fs[f]? with
        | some (off, size, _) => (do
          guardR (Nat.blt 0 size)
          match ← evC x with
          | .ptr b o => pureC (.ptr b (o + off))
          | .rptr t b i o => pureC (.rptr t b i (o + off))
          | .elt t xs i o => pureC (.elt t xs i (o + off))
          | _ => .fail)
        | none => .fail)
      | _ => .fail : RM Res).run S ctx = some r) : OpOk P w0 foot base S E a w o r := by
  obtain ⟨i, h1, hr⟩ := RM.run_bind' hr
  obtain ⟨hs, j, hj, e1, e2, e3⟩ := ti_spec hT h1
  split at hr
  · rename_i fs hd
    rw [hd] at hs
    obtain ⟨gs, hu, rfl⟩ := skel_struct hs
    split at hr
    · rename_i off size tf hf
      rw [List.getElem?_map] at hf
      obtain ⟨g, hg, e⟩ := Option.map_eq_some_iff.1 hf
      simp only [Prod.mk.injEq] at e
      obtain ⟨u, h2, hr⟩ := RM.run_bind' hr
      obtain ⟨c, h3, hr⟩ := RM.run_bind' hr
      have hsz : 0 < size := Nat.le_of_ble_eq_true (run_guardR h2)
      have hv := evC_rep h hc h3
      have hgi : ∃ jj, P.info? g.type = some jj ∧ jj.size = size := by
        have := e.2.1
        unfold Program.cellsOf at this
        cases hh : P.info? g.type with
        | none => rw [hh] at this; simp at this; omega
        | some jj => rw [hh] at this; exact ⟨jj, rfl, by simpa using this⟩
      obtain ⟨jj, hjj, hjs⟩ := hgi
      have hg' : gs[f]? = some g := by simpa using hg
      have key : ∀ b oo c', a.eval x = .pointer (some ⟨b, oo, none⟩) → r = { val := some (.one c') } → CRep E c' (.pointer (some ⟨b, oo + off, none⟩)) → OpOk P w0 foot base S E a w o r := fun b oo c' he er hrep => by
        rw [er]
        refine OpOk.value (v := .pointer (some ⟨b, oo + off, none⟩)) (w' := w) ?_ (After.pure h.toHRel hrep)
        have hne : ¬ jj.size = 0 := by omega
        simp [execOp, ho, Instr.fieldAt, run_underlying hu, hg', Instr.sureAddr, he, fieldPlace, run_sizeOf' hjj, hne, addr_add, e.1]
      split at hr
      · obtain ⟨p, hp, hn, he⟩ := hv
        exact key _ _ _ he (pureC_spec hr) ⟨p, hp, hn, rfl⟩
      · obtain ⟨p, hp, hn, hi, he⟩ := hv
        exact key _ _ _ he (pureC_spec hr) ⟨p, hp, hn, hi, by simp [Nat.add_assoc]⟩
      · obtain ⟨hi, b, oo, he, k⟩ := hv
        exact key _ _ _ he (pureC_spec hr) ⟨hi, b, oo, by simp [Nat.add_assoc], k⟩
      · cases hr
    · cases hr
  · cases hr

end Go.Vc
