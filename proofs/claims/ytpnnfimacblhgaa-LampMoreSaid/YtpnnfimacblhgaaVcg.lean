/-
  The executor's single operations are sound, third part: structs in registers, numbers, places of elements, pieces of slices.
-/
import Derived.Test.YtpnnfimacblhgaaVcf
set_option linter.unusedVariables false
set_option linter.unusedSimpArgs false
namespace Go.Vc
open Go

variable {P : Program} {X : Ctx} {w0 : World} {foot : Foot} {base : Mem} {S : St} {E : Env} {a : Act} {w : World} {ctx : Tags}

theorem info_of_cellsOf {t : Nat} (h : 0 < P.cellsOf t) : ∃ j, P.info? t = some j := by
  unfold Program.cellsOf at h
  cases hh : P.info? t with
  | none => rw [hh] at h; simp at h
  | some j => exact ⟨j, rfl⟩

theorem build_ok (hT : TabOk P X.tab) (h : SRel w0 foot base S E a w) (hc : TagsHold a ctx) {o : Oper} {t : Nat} {ps : Array (Nat × Operand)} (ho : o.op = .build t ps) {r : Res}
    (hr : (do
      let i ← ti X t
      match i.d with
      | .struct fs => (do
        guardR (fs.all fun f => Nat.blt 0 f.2.1)
        let z ← RM.ofOption (constCs i.zero.cells.toList)
        let cs ← buildCs fs ps.toList z
        pureV (.agg cs))
      | _ => .fail : RM Res).run S ctx = some r) : OpOk P w0 foot base S E a w o r := by
  obtain ⟨i, h1, hr⟩ := RM.run_bind' hr
  obtain ⟨hs, j, hj, e1, e2, e3⟩ := ti_spec hT h1
  split at hr
  · rename_i fs hd
    rw [hd] at hs
    obtain ⟨gs, hu, rfl⟩ := skel_struct hs
    obtain ⟨u, h2, hr⟩ := RM.run_bind' hr
    obtain ⟨z, h3, hr⟩ := RM.run_bind' hr
    obtain ⟨cs, h4, hr⟩ := RM.run_bind' hr
    rw [pureV_spec hr]
    have hall := run_guardR h2
    have hinfo : ∀ f ∈ gs, ∃ j, P.info? f.type = some j := fun f hf => by
      rw [List.all_map, List.all_eq_true] at hall
      have := hall f (by simpa using hf)
      exact info_of_cellsOf (Nat.le_of_ble_eq_true this)
    obtain ⟨cells', k1, k2⟩ := buildCs_sound h hc (places := gs.map fun f => (f.offset, P.cellsOf f.type)) (fun i off size t hf => by
      rw [List.getElem?_map] at hf
      obtain ⟨g, hg, e⟩ := Option.map_eq_some_iff.1 hf
      simp only [Prod.mk.injEq] at e
      have hg' : gs[i]? = some g := by simpa using hg
      simp [hg', e.1, e.2.1]) h4 (constCs_rep (run_ofOption h3))
    refine OpOk.value (v := .agg cells') (w' := w) ?_ (After.pure h.toHRel ⟨cells', rfl, k2⟩)
    have hm := run_mapM_places (P := P) (w := w) gs hinfo
    simp only [execOp, ho, Instr.build, Sem.run_bind, run_zeroValue' hj e3, run_underlying hu, Result.andThen_ok]
    simp only [Sem.run_bind, hm, Result.andThen_ok]
    simp at k1
    simp [k1]
  · cases hr

theorem mkSV_part {d : TD} {t : Nat} (hs : skel P t = d) {cs ds : List C} {vs : Array Value} {off : Nat} {s : SV} {j : TypeInfo} (hj : P.info? t = some j) (hv : CReps E ds vs.toList) (hd : cs = (ds.drop off).take j.size) (hl : off + j.size ≤ ds.length)
    (hr : (mkSV d cs).run S ctx = some s) : ∃ v, (part t vs off).run P w = .ok v w ∧ SRep E s v := by
  subst hs
  have hvl := hv.length
  have hcs := (hv.drop off).take j.size
  rw [← hd] at hcs
  unfold mkSV at hr
  split at hr
  · rename_i fs hs
    cases hr
    obtain ⟨gs, hu, _⟩ := skel_struct hs
    refine ⟨.agg (vs.extract off (off + j.size)), by simp [part, run_isAgg_struct hu, run_sizeOf' hj], _, rfl, ?_⟩
    have e : (vs.extract off (off + j.size)).toList = (vs.toList.drop off).take j.size := by simp [List.extract_eq_take_drop]
    rw [e]
    exact hcs
  · cases hr
  · cases hr
  · split at hr
    · rename_i h1 h2 h3 c
      cases hr
      obtain ⟨v, us, he, k1, k2⟩ := hcs
      refine ⟨v, ?_, k1⟩
      have hagg : (isAgg t).run P w = .ok false w := run_isAgg_scalar (by cases hs : skel P t <;> simp_all)
      have hget : vs[off]? = some v := by
        have : ((vs.toList.drop off).take j.size)[0]? = some v := by rw [he]; rfl
        have hj1 : 0 < j.size := by
          rcases Nat.eq_zero_or_pos j.size with hz | hz
          · rw [hz] at hd; simp at hd
          · exact hz
        rw [List.getElem?_take_of_lt hj1, List.getElem?_drop] at this
        simpa using this
      simp [part, hagg, hget]
    · cases hr

theorem field_ok (hT : TabOk P X.tab) (h : SRel w0 foot base S E a w) (hc : TagsHold a ctx) {o : Oper} {t : Nat} {x : Operand} {f : Nat} (ho : o.op = .field t x f) {r : Res}
    (hr : (do
      let i ← ti X t
      match i.d, ← ev x with
      | .struct fs, .agg cs => (match fs[f]? with
        | some (off, size, t) => (do
          let j ← ti X t
          guardR (Nat.ble (off + size) cs.length && Nat.beq j.size size)
          pureV (← mkSV j.d ((cs.drop off).take size)))
        | none => .fail)
      | _, _ => .fail : RM Res).run S ctx = some r) : OpOk P w0 foot base S E a w o r := by
  obtain ⟨i, h1, hr⟩ := RM.run_bind' hr
  obtain ⟨s, h2, hr⟩ := RM.run_bind' hr
  obtain ⟨hs, j, hj, e1, e2, e3⟩ := ti_spec hT h1
  have hv := ev_rep h hc h2
  split at hr
  · rename_i fs cs hd
    rw [hd] at hs
    obtain ⟨gs, hu, rfl⟩ := skel_struct hs
    obtain ⟨vs, hev, hrep⟩ := hv
    split at hr
    · rename_i off size tf hf
      obtain ⟨i', h3, hr⟩ := RM.run_bind' hr
      obtain ⟨u, h4, hr⟩ := RM.run_bind' hr
      obtain ⟨s', h5, hr⟩ := RM.run_bind' hr
      rw [pureV_spec hr]
      obtain ⟨hs', j', hj', e1', e2', e3'⟩ := ti_spec hT h3
      have hb := run_guardR h4
      simp only [Bool.and_eq_true] at hb
      have hb1 := Nat.le_of_ble_eq_true hb.1
      have hb2 := Nat.eq_of_beq_eq_true hb.2
      rw [List.getElem?_map] at hf
      obtain ⟨g, hg, e⟩ := Option.map_eq_some_iff.1 hf
      simp only [Prod.mk.injEq] at e
      have hg' : gs[f]? = some g := by simpa using hg
      obtain ⟨eo, es, et⟩ := e
      subst eo et
      have hsz : j'.size = size := by omega
      obtain ⟨v, k1, k2⟩ := mkSV_part (w := w) hs' hj' hrep (off := g.offset) (by rw [hsz]) (by omega) h5
      refine OpOk.value (v := v) (w' := w) ?_ (After.pure h.toHRel k2)
      simp [execOp, ho, Instr.field, run_underlying hu, hg', hev, asAgg, k1]
    · cases hr
  · cases hr

theorem SRep.go_get : ∀ {l : List (Bool × List C)} {vs : List Value}, SRep.go E l vs → ∀ (k : Nat) g cs, l[k]? = some (g, cs) → ∃ v, vs[k]? = some v ∧
    (match g with | true => ∃ ws, v = .agg ws ∧ CReps E cs ws.toList | false => ∃ c, cs = [c] ∧ CRep E c v)
  | [], _, _, k, g, cs, h => by simp at h
  | (g', cs') :: l, _, hh, 0, g, cs, h => by
    obtain ⟨v, us, hv, k1, k2⟩ := hh
    subst hv
    simp only [List.getElem?_cons_zero, Option.some.injEq, Prod.mk.injEq] at h
    obtain ⟨rfl, rfl⟩ := h
    exact ⟨v, rfl, k1⟩
  | (g', cs') :: l, _, hh, k + 1, g, cs, h => by
    obtain ⟨v, us, hv, k1, k2⟩ := hh
    subst hv
    simpa using SRep.go_get k2 k g cs (by simpa using h)

theorem extract_ok (h : SRel w0 foot base S E a w) (hc : TagsHold a ctx) {o : Oper} {x : Operand} {k : Nat} (ho : o.op = .extract x k) {r : Res}
    (hr : (do
      match ← ev x with
      | .tup vs => (match vs[k]? with
        | some (true, cs) => pureV (.agg cs)
        | some (false, [c]) => pureC c
        | _ => .fail)
      | _ => .fail : RM Res).run S ctx = some r) : OpOk P w0 foot base S E a w o r := by
  obtain ⟨s, h1, hr⟩ := RM.run_bind' hr
  have hv := ev_rep h hc h1
  split at hr
  · rename_i l
    obtain ⟨vs, hev, hrep⟩ := hv
    split at hr
    · rename_i cs hk
      rw [pureV_spec hr]
      obtain ⟨v, k1, ws, rfl, k2⟩ := SRep.go_get hrep k _ _ hk
      refine OpOk.value (v := .agg ws) (w' := w) ?_ (After.pure h.toHRel ⟨ws, rfl, k2⟩)
      have k1' : vs[k]? = some (.agg ws) := by simpa using k1
      simp [execOp, ho, Instr.extract, hev, k1']
    · rename_i c hk
      rw [pureC_spec hr]
      obtain ⟨v, k1, c', hcc, k2⟩ := SRep.go_get hrep k _ _ hk
      cases hcc
      refine OpOk.value (v := v) (w' := w) ?_ (After.pure h.toHRel k2)
      have k1' : vs[k]? = some v := by simpa using k1
      simp [execOp, ho, Instr.extract, hev, k1']
    · cases hr
  · cases hr

/-! ### Numbers -/

theorem wrap_inR (k : IntKind) (n : Int) : InR k (k.wrap n) := by
  cases k <;> simp [InR, IntKind.min, IntKind.max, IntKind.wrap, IntKind.signed, IntKind.bits] <;> (first | (split <;> omega) | omega)

theorem inR_wrap {k : IntKind} {n : Int} (h : InR k n) : k.wrap n = n := by
  cases k <;> simp [InR, IntKind.min, IntKind.max, IntKind.wrap, IntKind.signed, IntKind.bits] at * <;> (first | (split <;> omega) | omega)

theorem arith_spec {wr : Bool} {k : IntKind} {n : Int} {r : Res} (h : (arith wr k n).run S ctx = some r) (hc : ∀ c ∈ r.conds, c) :
    ∃ m, r.val = some (.one (.dat (.int k) m)) ∧ m = k.wrap n ∧ InR k m ∧ r.blks = [] ∧ r.del = [] ∧ r.new = [] := by
  unfold arith at h
  split at h
  · cases h
    exact ⟨_, rfl, rfl, wrap_inR _ _, rfl, rfl, rfl⟩
  · cases h
    have : InR k n := hc _ (by simp)
    exact ⟨_, rfl, (inR_wrap this).symm, this, rfl, rfl, rfl⟩

/-- The answer of an operation that only reckons. -/
def Reckons (E : Env) (r : Res) (v : Value) : Prop := (∃ s, r.val = some s ∧ SRep E s v) ∧ r.blks = [] ∧ r.del = [] ∧ r.new = []

theorem Reckons.after (h : HRel w0 foot base S.bl S.used E w) {r : Res} {v : Value} (hv : Reckons E r v) : After w0 foot base S.bl S.used E r E w v := by
  obtain ⟨⟨s, h1, h2⟩, h3, h4, h5⟩ := hv
  refine ⟨.refl _, ?_, ?_⟩
  · have : applyBl r S.bl = S.bl := by simp [applyBl, h3, h4]
    rw [this, h5]
    exact h
  · rw [h1]; exact h2

theorem Reckons.pureC {c : C} {r : Res} {v : Value} (h : (Vc.pureC c).run S ctx = some r) (hv : CRep E c v) : Reckons E r v := by
  rw [pureC_spec h]; exact ⟨⟨_, rfl, hv⟩, rfl, rfl, rfl⟩

theorem Reckons.int {k : IntKind} {n : Int} {r : Res} {conds : List Prop} (h : r = { val := some (.one (.dat (.int k) n)), conds := conds }) (hn : InR k n) : Reckons E r (.int k n) := by
  rw [h]; exact ⟨⟨_, rfl, rfl, rfl, hn⟩, rfl, rfl, rfl⟩

theorem Reckons.bool {b : Bool} {r : Res} (h : (Vc.pureC (.dat .bool b)).run S ctx = some r) : Reckons E r (.bool b) := .pureC h ⟨rfl, rfl⟩

theorem arith_reckons {wr : Bool} {k : IntKind} {n : Int} {r : Res} (h : (arith wr k n).run S ctx = some r) (hc : ∀ c ∈ r.conds, c) : Reckons E r (.int k (k.wrap n)) := by
  obtain ⟨m, h1, h2, h3, h4, h5, h6⟩ := arith_spec h hc
  subst h2
  exact ⟨⟨_, h1, rfl, rfl, h3⟩, h4, h5, h6⟩

theorem inR_of_between {k : IntKind} {x z : Int} (hx : InR k x) (h1 : 0 ≤ x → 0 ≤ z ∧ z ≤ x) (h2 : x < 0 → x ≤ z ∧ z ≤ 0) : InR k z := by
  have h0 : k.min ≤ 0 ∧ 0 ≤ k.max := by cases k <;> decide
  unfold InR at *
  by_cases h : 0 ≤ x
  · have := h1 h; omega
  · have := h2 (by omega); omega

theorem tmod_inR {k : IntKind} {x y : Int} (hx : InR k x) : InR k (x.tmod y) := by
  have h1 : (x.tmod y).natAbs ≤ x.natAbs := by
    rw [Int.natAbs_tmod]
    exact Nat.mod_le _ _
  have h2 : 0 ≤ x → 0 ≤ x.tmod y := Int.tmod_nonneg y
  have h3 : x < 0 → x.tmod y ≤ 0 := fun h => by
    have := Int.tmod_nonneg (a := -x) y (by omega)
    rw [Int.neg_tmod] at this
    omega
  exact inR_of_between hx (fun h => by have := h2 h; omega) (fun h => by have := h3 h; omega)

theorem intOp_sound {wr : Bool} {op : BinOp} {k : IntKind} {x y : Int} {r : Res} (hx : InR k x) (hy : InR k y) (h : (intOp wr op k x y).run S ctx = some r) (hc : ∀ c ∈ r.conds, c) (t : Nat) :
    ∃ v, (binOp op t (.int k x) (.int k y)).run P w = .ok v w ∧ Reckons E r v := by
  cases op <;> simp only [intOp] at h
  case add => exact ⟨.int k (k.wrap (x + y)), by simp [binOp, Op.intArith], arith_reckons h hc⟩
  case sub => exact ⟨.int k (k.wrap (x - y)), by simp [binOp, Op.intArith], arith_reckons h hc⟩
  case mul => exact ⟨.int k (k.wrap (x * y)), by simp [binOp, Op.intArith], arith_reckons h hc⟩
  case quo =>
    cases h
    have hy0 : y ≠ 0 := hc (y ≠ 0) (by simp)
    exact ⟨.int k (k.wrap (x.tdiv y)), by simp [binOp, Op.intDiv, hy0], .int rfl (wrap_inR _ _)⟩
  case rem =>
    cases h
    have hy0 : y ≠ 0 := hc (y ≠ 0) (by simp)
    exact ⟨.int k (x.tmod y), by simp [binOp, Op.intDiv, hy0], .int rfl (tmod_inR hx)⟩
  case and => exact ⟨.int k (bitsOf .and k x y), by simp [binOp, Op.intBits, bitsOf], .pureC h ⟨rfl, rfl, wrap_inR _ _⟩⟩
  case or => exact ⟨.int k (bitsOf .or k x y), by simp [binOp, Op.intBits, bitsOf], .pureC h ⟨rfl, rfl, wrap_inR _ _⟩⟩
  case xor => exact ⟨.int k (bitsOf .xor k x y), by simp [binOp, Op.intBits, bitsOf], .pureC h ⟨rfl, rfl, wrap_inR _ _⟩⟩
  case andNot => exact ⟨.int k (bitsOf .andNot k x y), by simp [binOp, Op.intBits, bitsOf], .pureC h ⟨rfl, rfl, wrap_inR _ _⟩⟩
  case eql => exact ⟨.bool (x == y), by simp [binOp, Op.intCmp], .bool h⟩
  case neq => exact ⟨.bool (x != y), by simp [binOp, Op.intCmp], .bool h⟩
  case lss => exact ⟨.bool (decide (x < y)), by simp [binOp, Op.intCmp], .bool h⟩
  case leq => exact ⟨.bool (decide (x ≤ y)), by simp [binOp, Op.intCmp], .bool h⟩
  case gtr => exact ⟨.bool (decide (x > y)), by simp [binOp, Op.intCmp], .bool h⟩
  case geq => exact ⟨.bool (decide (x ≥ y)), by simp [binOp, Op.intCmp], .bool h⟩
  all_goals cases h

theorem fdiv_inR {k : IntKind} {x : Int} {n : Nat} (hx : InR k x) : InR k (x.fdiv (2 ^ n)) := by
  have hp : (0 : Int) < 2 ^ n := Int.pow_pos (by decide)
  rw [Int.fdiv_eq_ediv_of_nonneg _ (Int.le_of_lt hp)]
  have h1 : 0 ≤ x → x / 2 ^ n ≤ x := fun h => Int.ediv_le_self _ h
  have h2 : 0 ≤ x → 0 ≤ x / 2 ^ n := fun h => Int.ediv_nonneg h (Int.le_of_lt hp)
  have h3 : x < 0 → x / 2 ^ n < 0 := fun h => Int.ediv_neg_of_neg_of_pos h hp
  have h4 : x < 0 → x ≤ x / 2 ^ n := fun h => by
    rw [Int.le_ediv_iff_mul_le hp]
    have : x * 2 ^ n ≤ x * 1 := Int.mul_le_mul_of_nonpos_left (by omega) (by omega)
    omega
  exact inR_of_between hx (fun h => ⟨h2 h, h1 h⟩) (fun h => ⟨h4 h, by have := h3 h; omega⟩)

theorem shiftOp_sound {op : BinOp} {j k : IntKind} {x y : Int} {r : Res} (hx : InR j x) (h : (shiftOp op j x y).run S ctx = some r) (hc : ∀ c ∈ r.conds, c) (t : Nat) :
    ∃ v, (binOp op t (.int j x) (.int k y)).run P w = .ok v w ∧ Reckons E r v := by
  cases op <;> simp only [shiftOp] at h
  case shl =>
    cases h
    have hy : 0 ≤ y := hc (0 ≤ y) (by simp)
    have hy' : ¬ y < 0 := by omega
    exact ⟨_, by simp only [binOp, Op.shift, if_neg hy']; rfl, .int rfl (wrap_inR _ _)⟩
  case shr =>
    cases h
    have hy : 0 ≤ y := hc (0 ≤ y) (by simp)
    have hy' : ¬ y < 0 := by omega
    exact ⟨_, by simp only [binOp, Op.shift, if_neg hy']; rfl, .int rfl (fdiv_inR hx)⟩
  all_goals cases h

end Go.Vc
