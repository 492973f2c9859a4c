/-
  The executor's single operations are sound, fourth part: '==' and its like, conversions, places of elements, pieces of slices and texts.
-/
import Derived.Test.YtpnnfimacblhgaaVcg
import Derived.Laws.StructEq
set_option linter.unusedVariables false
set_option linter.unusedSimpArgs false
namespace Go.Vc
open Go

variable {P : Program} {X : Ctx} {w0 : World} {foot : Foot} {base : Mem} {S : St} {E : Env} {a : Act} {w : World} {ctx : Tags}

theorem run_eqGuard_int (op : BinOp) (t : TypeId) (x y : Operand) (j k : IntKind) (m n : Int) : (eqGuard op t x y (.int j m) (.int k n)).run P w = .ok () w := by
  cases op <;> simp [eqGuard]
theorem run_eqGuard_bool (op : BinOp) (t : TypeId) (x y : Operand) (m n : Bool) : (eqGuard op t x y (.bool m) (.bool n)).run P w = .ok () w := by
  cases op <;> simp [eqGuard]
theorem run_eqGuard_str (op : BinOp) (t : TypeId) (x y : Operand) (m n : ByteArray) : (eqGuard op t x y (.string m) (.string n)).run P w = .ok () w := by
  cases op <;> simp [eqGuard]

theorem str_toList (s : List UInt8) : (⟨⟨s⟩⟩ : ByteArray).toList = s := by rw [Go.ByteArray.toList_eq]
theorem str_size (s : List UInt8) : (⟨⟨s⟩⟩ : ByteArray).size = s.length := rfl
theorem str_append (s t : List UInt8) : (⟨⟨s⟩⟩ : ByteArray) ++ ⟨⟨t⟩⟩ = ⟨⟨s ++ t⟩⟩ := by
  apply ByteArray.ext
  simp

theorem strOp_sound {op : BinOp} {x y : List UInt8} {r : Res} (h : (strOp op x y).run S ctx = some r) (hc : ∀ c ∈ r.conds, c) (t : Nat) :
    ∃ v, (binOp op t (.string ⟨⟨x⟩⟩) (.string ⟨⟨y⟩⟩)).run P w = .ok v w ∧ Reckons E r v := by
  cases op <;> simp only [strOp] at h
  case add =>
    cases h
    have hl : x.length + y.length ≤ maxLenI := hc _ (by simp)
    refine ⟨.string ⟨⟨x ++ y⟩⟩, ?_, ⟨_, rfl, rfl, rfl, by simpa using hl⟩, rfl, rfl, rfl⟩
    have hmax : IntKind.i64.max = 9223372036854775807 := by decide
    have : ¬ (((⟨⟨x⟩⟩ : ByteArray).size + (⟨⟨y⟩⟩ : ByteArray).size : Nat) : Int) > IntKind.i64.max := by
      rw [str_size, str_size, hmax]
      unfold maxLenI at hl
      omega
    simp only [binOp, Op.stringOp, if_neg this, str_append]
    rfl
  case eql => exact ⟨.bool (x == y), by simp only [binOp, Op.stringOp, str_toList]; rfl, .bool h⟩
  case neq => exact ⟨.bool (!(x == y)), by simp only [binOp, Op.stringOp, str_toList]; rfl, .bool h⟩
  case lss => exact ⟨.bool (Op.bytesLess x y), by simp only [binOp, Op.stringOp, str_toList]; rfl, .bool h⟩
  all_goals cases h

theorem eqC_equal {d t : Nat} {c c' : C} {b : Bool} {u v : Value} (hb : eqC (skel P t) c c' = some b) (hu : CRep E c u) (hv : CRep E c' v) :
    (Op.equalIn (d + 1) t u v).run P w = .ok b w := by
  unfold eqC at hb
  split at hb
  · rename_i k' j x k y hs
    split at hb
    · rename_i hjk
      cases hb
      have e := kindBeq_eq hjk
      subst e
      obtain ⟨_, h1, _⟩ := hu
      obtain ⟨_, h2, _⟩ := hv
      simp only [List.cons.injEq, and_true] at h1 h2
      subst h1 h2
      exact run_equalIn_int w d t _ k' _ _ (skel_int hs)
    · cases hb
  · rename_i hs
    cases hb
    obtain ⟨_, h1⟩ := hu
    obtain ⟨_, h2⟩ := hv
    simp only [Rep, List.cons.injEq, and_true] at h1 h2
    subst h1 h2
    exact run_equalIn_bool w d t _ _ (skel_bool hs)
  · rename_i hs
    cases hb
    obtain ⟨_, h1, _⟩ := hu
    obtain ⟨_, h2, _⟩ := hv
    simp only [List.cons.injEq, and_true] at h1 h2
    subst h1 h2
    rw [run_equalIn_string w d t _ _ (skel_str hs), str_toList, str_toList]
  · cases hb

/-- What a scalar comparison looks at is no struct. -/
theorem eqC_scalar {t : Nat} {c c' : C} {b : Bool} (hb : eqC (skel P t) c c' = some b) : (match skel P t with | .struct _ => false | .array _ _ => false | .other => false | _ => true) = true := by
  unfold eqC at hb
  split at hb
  · rename_i hs; rw [hs]
  · rename_i hs; rw [hs]
  · rename_i hs; rw [hs]
  · cases hb

theorem run_part_scalar {t off : Nat} {vs : Array Value} {v : Value} (h : (match skel P t with | .struct _ => false | .array _ _ => false | .other => false | _ => true) = true) (hv : vs[off]? = some v) :
    (part t vs off).run P w = .ok v w := by
  simp [part, run_isAgg_scalar h, hv]

theorem eqFields_sound (hT : TabOk P X.tab) {d : Nat} {xs ys : Array Value} : ∀ {gs : List Field} {cs ds : List C} {b : Bool},
    (eqFields X (gs.map fun f => (f.offset, P.cellsOf f.type, f.type)) cs ds).run S ctx = some b → CReps E cs xs.toList → CReps E ds ys.toList → (gs.all fun f => f.name != "_") = true →
    (Op.eqFields (d + 1) xs ys gs).run P w = .ok b w
  | [], cs, ds, b, hr, _, _, _ => by cases hr; simp [Op.eqFields]
  | g :: gs, cs, ds, b, hr, hx, hy, hn => by
    simp only [List.map_cons, eqFields] at hr
    have hr0 := RM.run_bind' hr
    clear hr
    obtain ⟨i, h1, hr⟩ := hr0
    obtain ⟨hs, _⟩ := ti_spec hT h1
    simp only [List.all_cons, Bool.and_eq_true, bne_iff_ne] at hn
    split at hr
    · rename_i c c' hc hc'
      have hr0 := RM.run_bind' hr
      clear hr
      obtain ⟨b1, h2, hr⟩ := hr0
      have hr0 := RM.run_bind' hr
      clear hr
      obtain ⟨b2, h3, hr⟩ := hr0
      cases RM.run_pure' hr
      have h2 := run_ofOption h2
      rw [← hs] at h2
      obtain ⟨u, hu, ku⟩ := hx.get _ _ hc
      obtain ⟨v, hv, kv⟩ := hy.get _ _ hc'
      have hsc := eqC_scalar h2
      have ih := eqFields_sound hT (d := d) h3 hx hy (by simpa using hn.2)
      simp only [Op.eqFields, if_pos hn.1, Sem.run_bind, run_part_scalar hsc (show xs[g.offset]? = some u by simpa using hu), run_part_scalar hsc (show ys[g.offset]? = some v by simpa using hv),
        Result.andThen_ok, eqC_equal h2 ku kv]
      cases b1 with
      | true => simpa using ih
      | false => simp
    · cases hr

theorem binR_sound {wr : Bool} {op : BinOp} {s s' : SV} {u v : Value} {r : Res} (hu : SRep E s u) (hv : SRep E s' v) (hr : (binR wr op s s').run S ctx = some r) (hc : ∀ c ∈ r.conds, c) (t : Nat) (x y : Operand)
    (ht : ∀ b b', s = .one (.dat .bool b) → s' = .one (.dat .bool b') → P.underlying t = some .bool) :
    ∃ z, (do eqGuard op t x y u v; binOp op t u v : Sem Value).run P w = .ok z w ∧ Reckons E r z := by
  unfold binR at hr
  split at hr
  · rename_i j m k n
    obtain ⟨_, h1, h1'⟩ := hu
    obtain ⟨_, h2, h2'⟩ := hv
    simp only [List.cons.injEq, and_true] at h1 h2
    subst h1 h2
    have hg := run_eqGuard_int (P := P) (w := w) op t x y j k m n
    simp only [Sem.run_bind]
    rw [hg, Result.andThen_ok]
    split at hr
    · exact shiftOp_sound h1' hr hc t
    · split at hr
      · rename_i hjk
        have e := kindBeq_eq hjk
        subst e
        exact intOp_sound h1' h2' hr hc t
      · cases hr
  · obtain ⟨_, h1, _⟩ := hu
    obtain ⟨_, h2, _⟩ := hv
    simp only [List.cons.injEq, and_true] at h1 h2
    subst h1 h2
    rw [Sem.run_bind, run_eqGuard_str, Result.andThen_ok]
    exact strOp_sound hr hc t
  · rename_i m n
    have hb := ht _ _ rfl rfl
    obtain ⟨_, h1⟩ := hu
    obtain ⟨_, h2⟩ := hv
    simp only [Rep, List.cons.injEq, and_true] at h1 h2
    subst h1 h2
    simp only [Sem.run_bind]
    have key : (Op.equal t (.bool m) (.bool n)).run P w = .ok (Ty.B m == Ty.B n) w := by
      unfold Op.equal
      exact run_equalIn_bool w 9999 t _ _ hb
    have hg := fun op' => run_eqGuard_bool (P := P) (w := w) op' t x y m n
    split at hr
    · exact ⟨.bool (Ty.B m == Ty.B n), by rw [hg, Result.andThen_ok]; simp [binOp, key], .bool hr⟩
    · exact ⟨.bool (!(Ty.B m == Ty.B n)), by rw [hg, Result.andThen_ok]; simp [binOp, key], .bool hr⟩
    · cases hr
  · cases hr

theorem binOp_ok (hT : TabOk P X.tab) (h : SRel w0 foot base S E a w) (hc : TagsHold a ctx) {o : Oper} {op : BinOp} {t yt : Nat} {x y : Operand} (ho : o.op = .binOp op t x y yt) {wr : Bool} {r : Res}
    (hr : (do
      let a ← ev x
      let b ← ev y
      match a, b with
      | .agg cs, .agg ds => (do
        let i ← ti X t
        guardR i.eq
        match op, i.d with
        | .eql, .struct fs => (do pureC (.dat .bool (← eqFields X fs cs ds)))
        | .neq, .struct fs => (do pureC (.dat .bool (!(← eqFields X fs cs ds))))
        | _, _ => .fail)
      | .one (.dat .bool _), .one (.dat .bool _) => (do
        let i ← ti X t
        match i.d with
        | .bool => binR wr op a b
        | _ => .fail)
      | _, _ => binR wr op a b : RM Res).run S ctx = some r) (hcond : ∀ c ∈ r.conds, c) : OpOk P w0 foot base S E a w o r := by
  have hr0 := RM.run_bind' hr
  clear hr
  obtain ⟨s, h1, hr⟩ := hr0
  have hr0 := RM.run_bind' hr
  clear hr
  obtain ⟨s', h2, hr⟩ := hr0
  have hx := ev_rep h hc h1
  have hy := ev_rep h hc h2
  have key : ∀ z, (do eqGuard op t x y (a.eval x) (a.eval y); binOp op t (a.eval x) (a.eval y) : Sem Value).run P w = .ok z w → Reckons E r z → OpOk P w0 foot base S E a w o r := fun z hz hR => by
    refine OpOk.value (v := z) (w' := w) ?_ (hR.after h.toHRel)
    simp only [execOp, ho]
    rw [Sem.run_bind, hz]
    rfl
  split at hr
  · rename_i cs ds
    have hr0 := RM.run_bind' hr
    clear hr
    obtain ⟨i, h3, hr⟩ := hr0
    have hr0 := RM.run_bind' hr
    clear hr
    obtain ⟨u, h4, hr⟩ := hr0
    obtain ⟨hs, _⟩ := ti_spec hT h3
    obtain ⟨xs, ex, kx⟩ := hx
    obtain ⟨ys, ey, ky⟩ := hy
    have heq : plainEq P t = true := by
      have h3 := run_ofOption h3
      obtain ⟨hm, rfl⟩ := tabOf_mem h3
      rw [map_eq_mem hT.eqs i hm]
      exact run_guardR h4
    unfold plainEq at heq
    simp only [Bool.and_eq_true, Bool.not_eq_true'] at heq
    have go : ∀ fs b, i.d = .struct fs → (eqFields X fs cs ds).run S ctx = some b → (Op.equalIn 10000 t (.agg xs) (.agg ys)).run P w = .ok b w := fun fs b hd hb => by
      rw [hd] at hs
      obtain ⟨gs, hu, rfl⟩ := skel_struct hs
      have hgs : P.fieldsOf t = gs := by simp [Program.fieldsOf, hu]
      rw [show (10000 : Nat) = 9999 + 1 from rfl, run_equalIn_struct w 9999 t xs ys (by rw [hgs]; exact hu) heq.1.2, hgs]
      refine eqFields_sound hT (d := 9998) hb kx ky ?_
      have := heq.2
      rw [hu] at this
      exact this
    rw [ex, ey] at key
    split at hr
    · rename_i fs hd
      have hr0 := RM.run_bind' hr
      clear hr
      obtain ⟨b, h5, hr⟩ := hr0
      refine key (.bool b) ?_ (.bool hr)
      rw [Sem.run_bind, run_eqGuard_agg w _ _ _ _ _ _ heq.1.1, Result.andThen_ok, run_eql_struct, go _ _ hd h5]
      rfl
    · rename_i fs hd
      have hr0 := RM.run_bind' hr
      clear hr
      obtain ⟨b, h5, hr⟩ := hr0
      refine key (.bool (!b)) ?_ (.bool hr)
      rw [Sem.run_bind, run_eqGuard_agg w _ _ _ _ _ _ heq.1.1, Result.andThen_ok, run_neq_struct, go _ _ hd h5]
      rfl
    · cases hr
  · rename_i b1 b2
    have hr0 := RM.run_bind' hr
    clear hr
    obtain ⟨i, h3, hr⟩ := hr0
    obtain ⟨hs, _⟩ := ti_spec hT h3
    split at hr
    · rename_i hd
      rw [hd] at hs
      obtain ⟨z, k1, k2⟩ := binR_sound (w := w) (P := P) hx hy hr hcond t x y (fun _ _ _ _ => skel_bool hs)
      exact key z k1 k2
    · cases hr
  · rename_i n1 n2
    obtain ⟨z, k1, k2⟩ := binR_sound (w := w) (P := P) hx hy hr hcond t x y (fun b b' e e' => absurd e' (n2 b b' e))
    exact key z k1 k2

theorem unOp_ok (h : SRel w0 foot base S E a w) (hc : TagsHold a ctx) {o : Oper} {op : UnOp} {t : Nat} {x : Operand} (ho : o.op = .unOp op t x) {wr : Bool} {r : Res}
    (hr : (do
      match op, ← ev x with
      | .not, .one (.dat .bool b) => pureC (.dat .bool (!b))
      | .neg, .one (.dat (.int k) n) => arith wr k (0 - Ty.I n)
      | _, _ => .fail : RM Res).run S ctx = some r) (hcond : ∀ c ∈ r.conds, c) : OpOk P w0 foot base S E a w o r := by
  have hr0 := RM.run_bind' hr
  clear hr
  obtain ⟨s, h1, hr⟩ := hr0
  have hx := ev_rep h hc h1
  split at hr
  · obtain ⟨_, h2⟩ := hx
    simp only [Rep, List.cons.injEq, and_true] at h2
    refine OpOk.value (v := _) (w' := w) ?_ ((Reckons.bool hr).after h.toHRel)
    simp [execOp, ho, Op.unary, h2]
  · obtain ⟨_, h2, h3⟩ := hx
    simp only [List.cons.injEq, and_true] at h2
    refine OpOk.value (v := _) (w' := w) ?_ ((arith_reckons hr hcond).after h.toHRel)
    simp only [execOp, ho, Op.unary, h2, Op.intArith]
    rfl
  · cases hr

theorem kindLe_inR {j k : IntKind} (h : kindLe j k = true) {n : Int} (hn : InR j n) : InR k n := by
  cases j <;> cases k <;> simp [kindLe] at h <;> simp [InR, IntKind.min, IntKind.max, IntKind.signed, IntKind.bits] at * <;> omega

end Go.Vc
