/-
  The executor's single operations are sound, fifth part: places of elements, pieces of slices and texts, slices that the call makes, appends, lengths.
-/
import Derived.Test.YtpnnfimacblhgaaVch
import Derived.Laws.Append
import Derived.Lib.Strings
set_option linter.unusedVariables false
set_option linter.unusedSimpArgs false
namespace Go.Vc
open Go

variable {P : Program} {X : Ctx} {w0 : World} {foot : Foot} {base : Mem} {S : St} {E : Env} {a : Act} {w : World} {ctx : Tags}

/-! ### Places of elements -/

theorem pureIf_reckons {p : Prop} {c : C} {r : Res} {v : Value} (h : (pureIf p c).run S ctx = some r) (hv : p → CRep E c v) (hc : ∀ q ∈ r.conds, q) : Reckons E r v := by
  rw [pureIf_spec h] at hc ⊢
  exact ⟨⟨_, rfl, hv (hc p (by simp))⟩, rfl, rfl, rfl⟩

theorem pureIf_cond {p : Prop} {c : C} {r : Res} (h : (pureIf p c).run S ctx = some r) (hc : ∀ q ∈ r.conds, q) : p := by
  rw [pureIf_spec h] at hc
  exact hc p (by simp)

theorem BRep.row_len {p : Place} {fro : Bool} {e : Nat} {t : Ty} {xs : List t.den} (hB : BRep E w p (.row fro e t xs)) : xs.length = p.len := by
  rcases hB with ⟨_, hx, hz⟩ | ⟨_, _, ⟨h1, _⟩, _⟩
  · rw [hx, hz]; rfl
  · exact h1

theorem run_indexAt' {t e : Nat} {b off len cap : Nat} {k : IntKind} {n : Int} {j : TypeInfo} (hu : P.underlying t = some (.slice e)) (hj : P.info? e = some j) (h0 : 0 ≤ n) (h1 : n < len) :
    (Instr.indexAt t (.slice (some ⟨b, off, none⟩) len cap) (.int k n)).run P w = .ok (.pointer (some ⟨b, off + n.toNat * j.size, none⟩)) w := by
  simp [Instr.indexAt, run_underlying hu, asIntOf, h0, h1, run_sizeOf' hj, addr_add]

theorem run_indexAtA {t e len : Nat} {b off : Nat} {k : IntKind} {n : Int} {j : TypeInfo} (hu : P.underlying t = some (.array len e)) (hj : P.info? e = some j) (h0 : 0 ≤ n) (h1 : n < len) :
    (Instr.indexAt t (.pointer (some ⟨b, off, none⟩)) (.int k n)).run P w = .ok (.pointer (some ⟨b, off + n.toNat * j.size, none⟩)) w := by
  simp [Instr.indexAt, run_underlying hu, asIntOf, h0, h1, run_sizeOf' hj, addr_add, Instr.sureAddr]

theorem indexAddr_ok (hT : TabOk P X.tab) (h : SRel w0 foot base S E a w) (hc : TagsHold a ctx) {o : Oper} {t : Nat} {x ix : Operand} (ho : o.op = .indexAddr t x ix) {r : Res}
    (hr : (do
      let i ← ti X t
      match i.d with
      | .slice e => (do
        let j ← ti X e
        let c ← evC x
        indexR j.size (← asI (← ev ix)) c)
      | .array n e => (do
        let j ← ti X e
        let c ← evC x
        indexA j.size n (← asI (← ev ix)) c)
      | _ => .fail : RM Res).run S ctx = some r) (hcond : ∀ c ∈ r.conds, c) : OpOk P w0 foot base S E a w o r := by
  have hr0 := RM.run_bind' hr
  clear hr
  obtain ⟨i, h1, hr⟩ := hr0
  obtain ⟨hs, j0, hj0, _⟩ := ti_spec hT h1
  split at hr
  · rename_i e hd
    rw [hd] at hs
    have hu := skel_slice hs
    have hr0 := RM.run_bind' hr
    clear hr
    obtain ⟨i', h2, hr⟩ := hr0
    obtain ⟨hs', j, hj, e1, _⟩ := ti_spec hT h2
    have hr0 := RM.run_bind' hr
    clear hr
    obtain ⟨c, h3, hr⟩ := hr0
    have hr0 := RM.run_bind' hr
    clear hr
    obtain ⟨s, h4, hr⟩ := hr0
    have hr0 := RM.run_bind' hr
    clear hr
    obtain ⟨n, h5, hr⟩ := hr0
    have hx := evC_rep h hc h3
    obtain ⟨k, hn, hnr⟩ := asI_rep (ev_rep h hc h4) h5
    have key : ∀ b off len cap v, a.eval x = .slice (some ⟨b, off, none⟩) len cap → InB n len → v = .pointer (some ⟨b, off + n.toNat * j.size, none⟩) → Reckons E r v → OpOk P w0 foot base S E a w o r :=
      fun b off len cap v hv hb he hR => by
        refine OpOk.value (v := v) (w' := w) ?_ (hR.after h.toHRel)
        rw [he]
        simp [execOp, ho, hv, hn, run_indexAt' hu hj hb.1 hb.2]
    unfold indexR at hr
    split at hr
    · rename_i tt xs
      split at hr
      · rename_i hsz
        have hsz := Nat.eq_of_beq_eq_true hsz
        have hb := pureIf_cond hr hcond
        obtain ⟨_, aa, cap, g1, g2, g3, g4, g5⟩ := hx
        simp only [List.cons.injEq, and_true] at g1
        have hi : n.toNat < (Ty.L xs).length := by have := hb.1; have := hb.2; omega
        cases aa with
        | none => have := g4 rfl; omega
        | some p =>
          have hx0 := List.getElem?_eq_getElem hi
          obtain ⟨hsp, _⟩ := g5 p rfl _ _ hx0
          obtain ⟨b, off, spot⟩ := p
          simp only at hsp
          subst hsp
          refine key b off _ cap _ g1 hb rfl (pureIf_reckons hr (fun _ => ⟨hi, b, off, by rw [e1, hsz]; rfl, fun i x hx => ?_⟩) hcond)
          obtain ⟨_, us, k1, k2, k3⟩ := g5 _ rfl i x hx
          exact ⟨us, k1, k2, k3⟩
      · cases hr
    · rename_i tt b
      simp only [RM.run] at hr
      split at hr
      · rename_i B hf
        split at hr
        · rename_i fro e' t' xs
          split at hr
          · rename_i hb
            simp only [Bool.and_eq_true] at hb
            have hsz := Nat.eq_of_beq_eq_true hb.1
            have htt := Ty.beq_eq hb.2
            subst htt
            have hbd := pureIf_cond hr hcond
            obtain ⟨p, hp, hk⟩ := hx
            obtain ⟨p', hp', hB⟩ := h.blks _ _ hf
            rw [hp] at hp'; cases hp'
            have hlen := hB.row_len
            rcases hk with ⟨hn', _, hz⟩ | ⟨hn', hv, _⟩
            · have := hbd.1; have := hbd.2; omega
            · rw [hlen] at hbd
              refine key _ 0 _ _ _ hv hbd rfl (pureIf_reckons hr (fun _ => ⟨p, hp, hn', by have := hbd.1; have := hbd.2; omega, by rw [e1, hsz]; simp⟩) hcond)
          · cases hr
        · cases hr
      · cases hr
    · rename_i tt b lo len
      simp only [RM.run] at hr
      split at hr
      · rename_i B hf
        split at hr
        · rename_i fro e' t' xs
          split at hr
          · rename_i hb
            simp only [Bool.and_eq_true] at hb
            have hsz := Nat.eq_of_beq_eq_true hb.1
            have htt := Ty.beq_eq hb.2
            subst htt
            have hbd := pureIf_cond hr hcond
            obtain ⟨p, hp, hl, hk⟩ := hx
            rcases hk with ⟨hn', _, hz⟩ | ⟨hn', aa, hv, g1, g2, g3⟩
            · have := hbd.1; have := hbd.2; omega
            · have hb1 := hbd.1
              have hb2 := hbd.2
              rcases g3 with g3 | rfl
              · omega
              · refine key _ _ _ _ _ hv hbd rfl (pureIf_reckons hr (fun _ => ⟨p, hp, hn', by omega, by rw [e1, hsz, Nat.add_mul]; simp⟩) hcond)
          · cases hr
        · cases hr
      · cases hr
    · cases hr
  · rename_i len e hd
    rw [hd] at hs
    have hu := skel_array hs
    have hr0 := RM.run_bind' hr
    clear hr
    obtain ⟨i', h2, hr⟩ := hr0
    obtain ⟨hs', j, hj, e1, _⟩ := ti_spec hT h2
    have hr0 := RM.run_bind' hr
    clear hr
    obtain ⟨c, h3, hr⟩ := hr0
    have hr0 := RM.run_bind' hr
    clear hr
    obtain ⟨s, h4, hr⟩ := hr0
    have hr0 := RM.run_bind' hr
    clear hr
    obtain ⟨n, h5, hr⟩ := hr0
    have hx := evC_rep h hc h3
    obtain ⟨k, hn, hnr⟩ := asI_rep (ev_rep h hc h4) h5
    unfold indexA at hr
    split at hr
    · rename_i tt b i1 o1
      simp only [RM.run] at hr
      split at hr
      · rename_i B hf
        split at hr
        · rename_i fro e' t' xs
          split at hr
          · rename_i hb
            simp only [Bool.and_eq_true] at hb
            have hi0 := Nat.eq_of_beq_eq_true hb.1
            have ho0 := Nat.eq_of_beq_eq_true hb.2.1
            have hsz := Nat.eq_of_beq_eq_true hb.2.2.1
            have htt := Ty.beq_eq hb.2.2.2
            subst htt hi0 ho0
            obtain ⟨hbd, hxl⟩ := pureIf_cond hr hcond
            obtain ⟨p, hp, hn', hil, hv⟩ := hx
            obtain ⟨p', hp', hB⟩ := h.blks _ _ hf
            rw [hp] at hp'; cases hp'
            have hlen := hB.row_len
            have hb1 := hbd.1
            have hb2 := hbd.2
            refine OpOk.value (v := .pointer (some ⟨p.blk, n.toNat * j.size, none⟩)) (w' := w) ?_ ((pureIf_reckons hr (fun _ => ⟨p, hp, hn', by omega, by rw [e1, hsz]; simp⟩) hcond).after h.toHRel)
            simp only [Nat.zero_mul, Nat.add_zero] at hv
            simp [execOp, ho, hv, hn, run_indexAtA hu hj hb1 hb2]
          · cases hr
        · cases hr
      · cases hr
    · cases hr
  · cases hr

theorem index_ok (hT : TabOk P X.tab) (h : SRel w0 foot base S E a w) (hc : TagsHold a ctx) {o : Oper} {t : Nat} {x ix : Operand} (ho : o.op = .index t x ix) {r : Res}
    (hr : (do
      let i ← ti X t
      match i.d, ← evC x with
      | .str, .dat .str s => (do
        let n ← asI (← ev ix)
        pureIf (InB n (Ty.S s).length) (.dat (.int .u8) (((Ty.S s).getD n.toNat 0).toNat : Int)))
      | _, _ => .fail : RM Res).run S ctx = some r) (hcond : ∀ c ∈ r.conds, c) : OpOk P w0 foot base S E a w o r := by
  have hr0 := RM.run_bind' hr
  clear hr
  obtain ⟨i, h1, hr⟩ := hr0
  have hr0 := RM.run_bind' hr
  clear hr
  obtain ⟨c, h2, hr⟩ := hr0
  obtain ⟨hs, _⟩ := ti_spec hT h1
  have hx := evC_rep h hc h2
  split at hr
  · rename_i s hd
    rw [hd] at hs
    have hr0 := RM.run_bind' hr
    clear hr
    obtain ⟨sv, h3, hr⟩ := hr0
    have hr0 := RM.run_bind' hr
    clear hr
    obtain ⟨n, h4, hr⟩ := hr0
    obtain ⟨k, hn, hnr⟩ := asI_rep (ev_rep h hc h3) h4
    have hb := pureIf_cond hr hcond
    obtain ⟨_, g1, g2⟩ := hx
    simp only [List.cons.injEq, and_true] at g1
    have hi : n.toNat < (Ty.S s).length := by have := hb.1; have := hb.2; omega
    have hget : (⟨⟨Ty.S s⟩⟩ : ByteArray)[n.toNat]? = some ((Ty.S s).getD n.toNat 0) := by
      rw [List.getD_eq_getElem?_getD, List.getElem?_eq_getElem hi]
      rw [getElem?_pos (⟨⟨Ty.S s⟩⟩ : ByteArray) n.toNat hi]
      rfl
    have hu8 : InR .u8 (((Ty.S s).getD n.toNat 0).toNat : Int) := by
      generalize (Ty.S s).getD n.toNat 0 = q
      have := q.toNat_lt
      have h1 : IntKind.u8.min = 0 := by decide
      have h2 : IntKind.u8.max = 255 := by decide
      unfold InR
      rw [h1, h2]
      omega
    refine OpOk.value (v := .int .u8 (((Ty.S s).getD n.toNat 0).toNat : Int)) (w' := w) ?_ ((pureIf_reckons hr (fun _ => ⟨rfl, rfl, hu8⟩) hcond).after h.toHRel)
    simp [execOp, ho, Instr.index, run_underlying (skel_str hs), g1, hn, asIntOf, hb.1, hget]
  · cases hr

/-! ### Pieces -/

def valO (x : Option Value) (n : Option Int) : Prop :=
  match x, n with
  | none, none => True
  | some v, some n => ∃ k, v = .int k n ∧ InR k n
  | _, _ => False

theorem evO_rep (h : SRel w0 foot base S E a w) (hc : TagsHold a ctx) {x : Option Operand} {n : Option Int} (hr : (evO x).run S ctx = some n) : valO (x.map a.eval) n := by
  cases x with
  | none => cases hr; trivial
  | some x =>
    unfold evO at hr
    have hr0 := RM.run_bind' hr
    clear hr
    obtain ⟨s, h1, hr⟩ := hr0
    have hr0 := RM.run_bind' hr
    clear hr
    obtain ⟨m, h2, hr⟩ := hr0
    cases RM.run_pure' hr
    exact asI_rep (ev_rep h hc h1) h2

/-- The bounds that a piece comes to. -/
theorem run_sliceBounds {isSlice : Bool} {len cap : Nat} {lo hi : Option Value} {l h : Option Int} (hl : valO lo l) (hh : valO hi h) (hcap : len ≤ cap) (hc : ∀ c ∈ cutOk len l h, c) :
    (Instr.sliceBounds isSlice len cap lo hi none).run P w = .ok (cutLo l, cutLo l + cutLen len l h, cap) w ∧ cutLo l + cutLen len l h ≤ len := by
  cases lo with
  | none =>
    cases l with
    | some _ => exact hl.elim
    | none =>
      cases hi with
      | none =>
        cases h with
        | some _ => exact hh.elim
        | none => simp [Instr.sliceBounds, cutLo, cutLen]
      | some v =>
        cases h with
        | none => exact hh.elim
        | some h =>
          obtain ⟨k, rfl, _⟩ := hh
          have := hc (0 ≤ h ∧ h ≤ len) (by simp [cutOk])
          have h2 : h ≤ (cap : Int) := by omega
          refine ⟨by simp [Instr.sliceBounds, Instr.sliceBound, asIntOf, cutLo, cutLen, this.1, h2], by simp [cutLo, cutLen]; omega⟩
  | some v =>
    cases l with
    | none => exact hl.elim
    | some l =>
      obtain ⟨k, rfl, _⟩ := hl
      cases hi with
      | none =>
        cases h with
        | some _ => exact hh.elim
        | none =>
          have := hc (0 ≤ l ∧ l ≤ len) (by simp [cutOk])
          refine ⟨?_, by simp [cutLo, cutLen]; omega⟩
          have : l.toNat + (len - l.toNat) = len := by omega
          simp [Instr.sliceBounds, Instr.sliceBound, asIntOf, cutLo, cutLen, *]
      | some v' =>
        cases h with
        | none => exact hh.elim
        | some h =>
          obtain ⟨k', rfl, _⟩ := hh
          have h1 := hc (0 ≤ l ∧ l ≤ h) (by simp [cutOk])
          have h2 := hc (h ≤ len) (by simp [cutOk])
          refine ⟨?_, by simp [cutLo, cutLen]; omega⟩
          have e1 : 0 ≤ h := by omega
          have e2 : h ≤ (cap : Int) := by omega
          have e3 : l ≤ (h.toNat : Int) := by omega
          have e4 : l.toNat + (h.toNat - l.toNat) = h.toNat := by omega
          simp [Instr.sliceBounds, Instr.sliceBound, asIntOf, cutLo, cutLen, h1.1, e1, e2, e4]
          intro hlt
          omega

theorem cut_length {α : Type} {xs : List α} {l h : Option Int} (hc : ∀ c ∈ cutOk xs.length l h, c) : (cut xs l h).length = cutLen xs.length l h := by
  cases l with
  | none =>
    cases h with
    | none => rfl
    | some h =>
      have := hc (0 ≤ h ∧ h ≤ xs.length) (by simp [cutOk])
      simp [cut, cutLen]
      omega
  | some l =>
    cases h with
    | none => simp [cut, cutLen]
    | some h =>
      have := hc (0 ≤ l ∧ l ≤ h) (by simp [cutOk])
      have := hc (h ≤ xs.length) (by simp [cutOk])
      simp [cut, cutLen]
      omega

theorem cut_get {α : Type} {xs : List α} {l h : Option Int} {i : Nat} {x : α} (hx : (cut xs l h)[i]? = some x) : xs[cutLo l + i]? = some x := by
  cases l with
  | none =>
    cases h with
    | none => simpa [cut, cutLo] using hx
    | some h =>
      simp only [cut] at hx
      have hi : i < h.toNat := by
        have := (List.getElem?_eq_some_iff.1 hx).1
        simp at this
        omega
      rw [List.getElem?_take_of_lt hi] at hx
      simpa [cutLo] using hx
  | some l =>
    cases h with
    | none => simpa [cut, cutLo] using hx
    | some h =>
      simp only [cut, List.getElem?_drop] at hx
      have hi : l.toNat + i < h.toNat := by
        have := (List.getElem?_eq_some_iff.1 hx).1
        simp at this
        omega
      rw [List.getElem?_take_of_lt hi] at hx
      exact hx

theorem cut_str (s : List UInt8) {l h : Option Int} (hc : ∀ c ∈ cutOk s.length l h, c) :
    (⟨⟨s⟩⟩ : ByteArray).extract (cutLo l) (cutLo l + cutLen s.length l h) = ⟨⟨cut s l h⟩⟩ := by
  rw [Go.Lib.extract_eq]
  congr 2
  cases l with
  | none =>
    cases h with
    | none => simp [cut, cutLo, cutLen]
    | some h => simp [cut, cutLo, cutLen]
  | some l =>
    cases h with
    | none =>
      have e : List.take (s.length - l.toNat) (s.drop l.toNat) = s.drop l.toNat := List.take_of_length_le (by simp)
      simp [cut, cutLo, cutLen, e]
    | some h => simp [cut, cutLo, cutLen, List.drop_take]

theorem slice_ok (hT : TabOk P X.tab) (h : SRel w0 foot base S E a w) (hc : TagsHold a ctx) {o : Oper} {t : Nat} {x : Operand} {lo hi : Option Operand} (ho : o.op = .slice t x lo hi none) {r : Res}
    (hr : (do
      let i ← ti X t
      let c ← evC x
      let l ← evO lo
      let h ← evO hi
      match i.d, c with
      | .slice e, .dat (.list tt) _ => (do
        let j ← ti X e
        guardR (Nat.beq tt.size j.size)
        sliceR l h c)
      | .slice e, .row tt _ => (do
        let j ← ti X e
        guardR (Nat.beq tt.size j.size)
        sliceR l h c)
      | .slice e, .sub tt _ _ _ => (do
        let j ← ti X e
        guardR (Nat.beq tt.size j.size)
        sliceR l h c)
      | .str, .dat .str _ => sliceR l h c
      | _, _ => .fail : RM Res).run S ctx = some r) (hcond : ∀ c ∈ r.conds, c) : OpOk P w0 foot base S E a w o r := by
  have hr0 := RM.run_bind' hr
  clear hr
  obtain ⟨i, h1, hr⟩ := hr0
  have hr0 := RM.run_bind' hr
  clear hr
  obtain ⟨c, h2, hr⟩ := hr0
  have hr0 := RM.run_bind' hr
  clear hr
  obtain ⟨l, h3, hr⟩ := hr0
  have hr0 := RM.run_bind' hr
  clear hr
  obtain ⟨hh, h4, hr⟩ := hr0
  obtain ⟨hs, _⟩ := ti_spec hT h1
  have hx := evC_rep h hc h2
  have hl := evO_rep h hc h3
  have hhi := evO_rep h hc h4
  have key : ∀ v, (Instr.sliceAt t (a.eval x) (lo.map a.eval) (hi.map a.eval) none).run P w = .ok v w → Reckons E r v → OpOk P w0 foot base S E a w o r := fun v hv hR => by
    refine OpOk.value (v := v) (w' := w) ?_ (hR.after h.toHRel)
    simp [execOp, ho, hv]
  have sl : ∀ e j (b : Option Addr) len cap, P.underlying t = some (.slice e) → P.info? e = some j → len ≤ cap → a.eval x = .slice b len cap → (∀ c ∈ cutOk len l hh, c) →
      (Instr.sliceAt t (a.eval x) (lo.map a.eval) (hi.map a.eval) none).run P w = .ok (.slice (if cap = cutLo l then b else b.map (·.add (cutLo l * j.size))) (cutLen len l hh) (cap - cutLo l)) w ∧ cutLo l + cutLen len l hh ≤ len := fun e j b len cap hu hj hle hv hco => by
    obtain ⟨hb1, hb2⟩ := run_sliceBounds (P := P) (w := w) (isSlice := true) hl hhi hle hco
    refine ⟨?_, hb2⟩
    simp [Instr.sliceAt, Instr.slice, run_underlying hu, hv, hb1, run_sizeOf' hj]
  split at hr
  · rename_i e tt xs hd
    rw [hd] at hs
    have hr0 := RM.run_bind' hr
    clear hr
    obtain ⟨i', h5, hr⟩ := hr0
    have hr0 := RM.run_bind' hr
    clear hr
    obtain ⟨u, h6, hr⟩ := hr0
    obtain ⟨hs', j, hj, e1, _⟩ := ti_spec hT h5
    have hsz := Nat.eq_of_beq_eq_true (run_guardR h6)
    unfold sliceR at hr
    cases hr
    obtain ⟨_, aa, cap, g1, g2, g3, g4, g5⟩ := hx
    simp only [List.cons.injEq, and_true] at g1
    obtain ⟨k1, k2⟩ := sl e j aa _ cap (skel_slice hs) hj g2 g1 hcond
    refine key _ k1 ⟨⟨_, rfl, rfl, (if cap = cutLo l then aa else aa.map (·.add (cutLo l * j.size))), cap - cutLo l, ?_, ?_, by omega, ?_, ?_⟩, rfl, rfl, rfl⟩
    · rw [show (Ty.L (t := tt) (cut (Ty.L xs) l hh)).length = _ from cut_length hcond]
    · rw [show (Ty.L (t := tt) (cut (Ty.L xs) l hh)).length = _ from cut_length hcond]; omega
    · intro hn
      split at hn
      · rename_i hcl; omega
      · cases aa with
        | none => have := g4 rfl; omega
        | some p => cases hn
    · intro p hp n y hy
      have hlen := cut_length (xs := Ty.L xs) hcond
      have hn : n < cutLen (Ty.L xs).length l hh := by
        have := (List.getElem?_eq_some_iff.1 hy).1
        rw [← hlen]; exact this
      rw [if_neg (by omega)] at hp
      cases aa with
      | none => cases hp
      | some q =>
        obtain ⟨hsp, us, m1, m2, m3⟩ := g5 q rfl _ _ (cut_get hy)
        obtain ⟨b, off, spot⟩ := q
        simp only at hsp
        subst hsp
        simp only [Option.map_some, Option.some.injEq] at hp
        rw [addr_add] at hp
        subst hp
        refine ⟨rfl, us, m1, m2, fun jj u hu => ?_⟩
        have := m3 jj u hu
        rw [Nat.add_mul] at this
        rw [e1, ← hsz]
        simpa [Nat.add_assoc] using this
  · rename_i e tt b hd
    rw [hd] at hs
    have hr0 := RM.run_bind' hr
    clear hr
    obtain ⟨i', h5, hr⟩ := hr0
    have hr0 := RM.run_bind' hr
    clear hr
    obtain ⟨u, h6, hr⟩ := hr0
    obtain ⟨hs', j, hj, e1, _⟩ := ti_spec hT h5
    have hsz := Nat.eq_of_beq_eq_true (run_guardR h6)
    unfold sliceR at hr
    simp only [RM.run] at hr
    split at hr
    · rename_i B hf
      split at hr
      · rename_i fro e' t' xs
        split at hr
        · rename_i htt
          have htt := Ty.beq_eq htt
          subst htt
          cases hr
          obtain ⟨p, hp, hk⟩ := hx
          obtain ⟨p', hp', hB⟩ := h.blks _ _ hf
          rw [hp] at hp'; cases hp'
          have hlen := hB.row_len
          rw [hlen] at hcond
          rcases hk with ⟨hn', hv, hz⟩ | ⟨hn', hv, g1, g2⟩
          · obtain ⟨k1, k2⟩ := sl e j none 0 0 (skel_slice hs) hj (by omega) hv (by rw [← hz]; exact hcond)
            have hz1 : cutLo l = 0 := by omega
            have hz2 : cutLen 0 l hh = 0 := by omega
            refine key _ k1 ⟨⟨_, rfl, p, hp, by rw [hlen, hz]; omega, Or.inl ⟨hn', by simp [hz1, hz2], hz⟩⟩, rfl, rfl, rfl⟩
          · obtain ⟨k1, k2⟩ := sl e j _ p.len p.cap (skel_slice hs) hj g1 hv hcond
            refine key _ k1 ⟨⟨_, rfl, p, hp, by rw [hlen]; exact k2, Or.inr ⟨hn', (if p.cap = cutLo l then ⟨p.blk, 0, none⟩ else ⟨p.blk, cutLo l * j.size, none⟩), ?_, g1, g2, ?_⟩⟩, rfl, rfl, rfl⟩
            · rw [hlen]; split <;> simp [addr_add]
            · by_cases hcl : p.cap = cutLo l
              · exact .inl hcl.symm
              · exact .inr (by rw [if_neg hcl, e1, hsz])
        · cases hr
      · cases hr
    · cases hr
  · rename_i e tt b lo' len hd
    rw [hd] at hs
    have hr0 := RM.run_bind' hr
    clear hr
    obtain ⟨i', h5, hr⟩ := hr0
    have hr0 := RM.run_bind' hr
    clear hr
    obtain ⟨u, h6, hr⟩ := hr0
    obtain ⟨hs', j, hj, e1, _⟩ := ti_spec hT h5
    have hsz := Nat.eq_of_beq_eq_true (run_guardR h6)
    unfold sliceR at hr
    cases hr
    obtain ⟨p, hp, hl', hk⟩ := hx
    rcases hk with ⟨hn', hv, hz⟩ | ⟨hn', aa, hv, g1, g2, g3⟩
    · have hl0 : len = 0 := by omega
      subst hl0
      obtain ⟨k1, k2⟩ := sl e j none 0 0 (skel_slice hs) hj (by omega) hv hcond
      have hz1 : cutLo l = 0 := by omega
      have hz2 : cutLen 0 l hh = 0 := by omega
      exact key _ k1 ⟨⟨_, rfl, p, hp, by omega, Or.inl ⟨hn', by simp [hz1, hz2], hz⟩⟩, rfl, rfl, rfl⟩
    · obtain ⟨k1, k2⟩ := sl e j (some aa) len (p.cap - lo') (skel_slice hs) hj (by omega) hv hcond
      refine key _ k1 ⟨⟨_, rfl, p, hp, by omega, Or.inr ⟨hn', (if p.cap - lo' = cutLo l then aa else aa.add (cutLo l * j.size)), ?_, g1, g2, ?_⟩⟩, rfl, rfl, rfl⟩
      · rw [Nat.sub_sub]; split <;> simp
      · by_cases hcl : p.cap - lo' = cutLo l
        · exact .inl (by omega)
        · refine .inr ?_
          rw [if_neg hcl]
          rcases g3 with g3 | rfl
          · omega
          · rw [addr_add, e1, ← hsz, Nat.add_mul]
  · rename_i s hd
    rw [hd] at hs
    unfold sliceR at hr
    cases hr
    obtain ⟨_, g1, g2⟩ := hx
    simp only [List.cons.injEq, and_true] at g1
    obtain ⟨hb1, hb2⟩ := run_sliceBounds (P := P) (w := w) (isSlice := false) (len := (Ty.S s).length) (cap := (Ty.S s).length) hl hhi (Nat.le_refl _) hcond
    refine key (.string ⟨⟨cut (Ty.S s) l hh⟩⟩) ?_ ⟨⟨_, rfl, rfl, rfl, ?_⟩, rfl, rfl, rfl⟩
    · have hb1' : (Instr.sliceBounds false (⟨⟨Ty.S s⟩⟩ : ByteArray).size (⟨⟨Ty.S s⟩⟩ : ByteArray).size (lo.map a.eval) (hi.map a.eval) none).run P w = _ := hb1
      simp only [Instr.sliceAt, Instr.slice, Sem.run_bind, run_underlying (skel_str hs), Result.andThen_ok, g1, hb1', Option.isSome_none, Bool.false_eq_true, if_false, Sem.run_pure, cut_str _ hcond]
    · rw [show (Ty.S (cut (Ty.S s) l hh)).length = _ from cut_length hcond]
      omega
  · cases hr

end Go.Vc
