/-
  The executor's single operations are sound, second part: stores, structs, indexes, slices, numbers.
-/
import Derived.Test.YtpnnfimacblhgaaVce
set_option linter.unusedVariables false
set_option linter.unusedSimpArgs false
namespace Go.Vc
open Go

variable {P : Program} {X : Ctx} {w0 : World} {foot : Foot} {base : Mem} {S : St} {E : Env} {a : Act} {w : World} {ctx : Tags}

/-! ### Stores -/

theorem setRow_eq {g : Nat} {cur cs : Array Value} {e : TypeId} {m : Nat × Nat} (h : w.heap[g]? = some (.cells cur e m)) : w.setRow g cs = setBlk w g (.cells cs e m) := by
  unfold World.setRow setBlk
  have hg := heap_lt h
  congr 1
  apply Array.ext_getElem?
  intro i
  rw [Array.getElem?_modify]
  by_cases hi : g = i
  · subst hi
    rw [if_pos rfl, h, Array.getElem?_setIfInBounds_self_of_lt hg]
    rfl
  · rw [if_neg hi, Array.getElem?_setIfInBounds_ne hi]

theorem run_storeVar' {t g o : Nat} {cur : Array Value} {e : TypeId} {v : Value} {j : TypeInfo} (hi : P.info? t = some j) (hs : v.cells.toList.length = j.size)
    (hg : w.heap[g]? = some (.cells cur e (0, 0))) (hl : o + v.cells.toList.length ≤ cur.size) (h1 : ∀ u ∈ v.cells.toList, u.oneCell' = true) :
    (storeVar t ⟨g, o, none⟩ v).run P w = .ok () (setBlk w g (.cells (cur.toList.take o ++ v.cells.toList ++ cur.toList.drop (o + v.cells.toList.length)).toArray e (0, 0))) := by
  have := run_storeCells_at (P := P) g o e v.cells.toList 0 cur w hg (by simpa using hl) h1
  rw [setRow_eq hg] at this
  simp only [storeVar, Sem.run_bind, run_sizeOf' hi, Result.andThen_ok]
  rw [if_neg (by simpa using hs)]
  simpa using this

theorem CReps.splice {cs : List C} {us : List Value} (h : CReps E cs us) {old : List C} {vs : List Value} (k : CReps E old vs) (o : Nat) :
    CReps E (splice old o cs) (vs.take o ++ us ++ vs.drop (o + us.length)) := by
  unfold Vc.splice
  rw [h.length]
  exact ((k.take o).append h).append (k.drop _)

theorem noId_spec : ∀ {fr : Fro} {b : Nat}, noId fr b = true → ∀ p ∈ fr, p.1 ≠ b
  | [], _, _, p, hp => by cases hp
  | (m, B) :: fr, b, h, p, hp => by
    unfold noId at h
    split at h
    · cases h
    · rename_i hb
      rcases List.mem_cons.1 hp with rfl | hp
      · intro e; simp only at e; subst e; simp at hb
      · exact noId_spec h p hp

theorem find_applyFro_other : ∀ {fr : Fro} {bl : List (Nat × Blk)} {b : Nat}, (∀ p ∈ fr, p.1 ≠ b) → find (applyFro fr bl) b = find bl b
  | [], _, _, _ => rfl
  | q :: fr, bl, b, h => by
    show find (applyFro fr (put bl q.1 q.2)) b = _
    rw [find_applyFro_other fun p hp => h p (List.mem_cons_of_mem _ hp), find_put_other _ _ _ _ (h q List.mem_cons_self)]

theorem applyBl_fro {fr : Fro} {b : Nat} {B : Blk} {bl : List (Nat × Blk)} {v : Option SV} {cs : List Prop} {new : List Nat} :
    applyBl { val := v, blks := fr ++ [(b, B)], new := new, conds := cs } bl = put (applyFro fr bl) b B := by
  simp [applyBl, applyFro, List.foldl_append]

/-- An element of a row written anew. -/
theorem BRow.set {p : Place} {e : Nat} {t : Ty} {xs : List t.den} (hB : BRow E w p false e t xs) {vs : Array Value} (hv : w.heap[p.blk]? = some (.cells vs e (0, 0))) {i : Nat} (hi : i < p.len) {y : t.den} {us : List Value}
    (hy : Rep E.F t y us) : BRow E (setBlk w p.blk (.cells (vs.toList.take (i * t.size) ++ us ++ vs.toList.drop (i * t.size + t.size)).toArray e (0, 0))) p false e t (xs.set i y) := by
  obtain ⟨h0, ⟨h1, h1'⟩, vs', h2, h3, h4, h5⟩ := hB
  rw [hv] at h2
  cases h2
  have hus := hy.length
  have hmul : i * t.size + t.size ≤ p.cap * t.size := by
    rw [← Nat.succ_mul]
    exact Nat.mul_le_mul_right _ (by omega)
  have hvl : vs.toList.length = p.cap * t.size := by simpa using h3
  refine ⟨h0, ⟨by simpa using h1, h1'⟩, _, setBlk_same (heap_lt hv), ?_, (fun hf => by cases hf), fun k x hx => ?_⟩
  · simp only [List.size_toArray, List.length_append, List.length_take, List.length_drop]
    omega
  · by_cases hk : i = k
    · subst hk
      rw [List.getElem?_set_self (by omega)] at hx
      cases hx
      refine ⟨us, hy, hus, fun j u hu => ?_⟩
      have hj : j < us.length := (List.getElem?_eq_some_iff.1 hu).1
      simp only [List.getElem?_toArray]
      rw [List.getElem?_append_left (by simp; omega), List.getElem?_append_right (by simp; omega)]
      rw [← hu]
      congr 1
      simp
      omega
    · rw [List.getElem?_set_ne hk] at hx
      obtain ⟨us', k1, k2, k3⟩ := h5 k x hx
      refine ⟨us', k1, k2, fun j u hu => ?_⟩
      have hj : j < us'.length := (List.getElem?_eq_some_iff.1 hu).1
      have := k3 j u hu
      simp only [List.getElem?_toArray]
      rcases Nat.lt_or_gt_of_ne hk with hlt | hlt
      · have hm : i * t.size + t.size ≤ k * t.size := by
          rw [← Nat.succ_mul]
          exact Nat.mul_le_mul_right _ (by omega)
        rw [List.getElem?_append_right (by simp; omega), List.getElem?_drop]
        rw [← this, ← Array.getElem?_toList]
        congr 1
        simp
        omega
      · have hm : k * t.size + t.size ≤ i * t.size := by
          rw [← Nat.succ_mul]
          exact Nat.mul_le_mul_right _ (by omega)
        rw [List.append_assoc, List.getElem?_append_left (by simp; omega), List.getElem?_take_of_lt (by omega)]
        rw [← this, ← Array.getElem?_toList]

theorem store_ok (hT : TabOk P X.tab) (h : SRel w0 foot base S E a w) (hc : TagsHold a ctx) {o : Oper} {t : Nat} {x v : Operand} (ho : o.op = .store t x v) {r : Res}
    (hr : (do let i ← ti X t; let cs ← asCells (← ev v); storeR i.size cs (← evC x) : RM Res).run S ctx = some r) : OpOk P w0 foot base S E a w o r := by
  obtain ⟨i, h1, hr⟩ := RM.run_bind' hr
  obtain ⟨s, h2, hr⟩ := RM.run_bind' hr
  obtain ⟨cs, h3, hr⟩ := RM.run_bind' hr
  obtain ⟨c, h4, hr⟩ := RM.run_bind' hr
  obtain ⟨hs, j, hj, e1, e2, e3⟩ := ti_spec hT h1
  have hcs := evCells_rep h hc h2 h3
  have hone := hcs.oneCell
  have hlen := hcs.length
  have hx := evC_rep h hc h4
  unfold storeR at hr
  split at hr
  · rename_i b off
    simp only [RM.run] at hr
    split at hr
    · rename_i B hf
      split at hr
      · rename_i old
        split at hr
        · rename_i hb
          cases hr
          simp only [Bool.and_eq_true] at hb
          have hb1 := Nat.eq_of_beq_eq_true hb.1
          have hb2 := Nat.le_of_ble_eq_true hb.2
          obtain ⟨p, hp, hn, hev⟩ := hx
          obtain ⟨p', hp', _, vs, e, k1, k2⟩ := h.blks _ _ hf
          rw [hp] at hp'; cases hp'
          have hvl := k2.length
          simp only [Array.length_toList] at hvl
          have hrun := run_storeVar' (P := P) (o := off) hj (by rw [hlen, hb1, e1]) k1 (by omega) hone
          refine OpOk.skip (w' := setBlk w p.blk (.cells _ e (0, 0))) (E' := E) ?_ ⟨.refl _, h.toHRel.write hf hp hn rfl ⟨hn, _, e, setBlk_same (heap_lt k1), hcs.splice k2 off⟩, trivial⟩
          simp [execOp, ho, Instr.storeAt, Instr.sureAddr, hev, hrun]
        · cases hr
      · cases hr
    · cases hr
  · rename_i tt b k off
    simp only [RM.run] at hr
    split at hr
    · rename_i B hf
      split at hr
      · rename_i e t' xs
        split at hr
        · rename_i hb
          simp only [Bool.and_eq_true] at hb
          have ht := Ty.beq_eq hb.1.1
          have hb1 := Nat.eq_of_beq_eq_true hb.1.2
          have hb2 := Nat.le_of_ble_eq_true hb.2
          subst ht
          obtain ⟨p, hp, hn, hi, hev⟩ := hx
          obtain ⟨p', hp', hB⟩ := h.blks _ _ hf
          rw [hp] at hp'; cases hp'
          have hB : BRow E w p false e tt xs := by
            rcases hB with ⟨hn', _⟩ | ⟨_, hB⟩
            · rw [hn] at hn'; cases hn'
            · exact hB
          have hB' := hB
          obtain ⟨g0, ⟨g1, g1'⟩, vs, g2, g3, g4, g5⟩ := hB
          have hmul : k * tt.size + tt.size ≤ p.cap * tt.size := by
            rw [← Nat.succ_mul]
            exact Nat.mul_le_mul_right _ (by omega)
          have hvl : vs.toList.length = p.cap * tt.size := by simpa using g3
          have hrun := run_storeVar' (P := P) (o := k * tt.size + off) hj (by rw [hlen, hb1, e1]) g2 (by rw [g3]; omega) hone
          have key : ∀ (y : tt.den) (fr : Fro) (ds : List C) (ws : List Value), (reify tt ds).run S ctx = some (y, fr) → noId fr b = true → CReps E ds ws →
              vs.toList.take (k * tt.size + off) ++ (a.eval v).cells.toList ++ vs.toList.drop (k * tt.size + off + (a.eval v).cells.toList.length) = vs.toList.take (k * tt.size) ++ ws ++ vs.toList.drop (k * tt.size + tt.size) →
              OpOk P w0 foot base S E a w o { blks := fr ++ [(b, .row false e tt (xs.set k y))] } := fun y fr ds ws hy hno hds heq => by
            have hfo := reify_froOk hy
            obtain ⟨E1, l1, q1, f1, h1'⟩ := h.toHRel.applyFro hfo
            have hfz := Frozen.of_apply hfo h1'
            have hrep := reify_rep hy (hds.mono l1) hfz
            have hf' : find (applyFro fr S.bl) b = some (.row false e tt xs) := by rw [find_applyFro_other (noId_spec hno)]; exact hf
            have hw := h1'.write (B' := .row false e tt (xs.set k y)) hf' (q1 ▸ hp) hn rfl (Or.inr ⟨hn, (hB'.mono l1).set g2 hi hrep⟩)
            refine OpOk.skip (w' := setBlk w p.blk _) (E' := E1) ?_ ⟨l1, by rw [applyBl_fro]; exact hw, trivial⟩
            simp only [execOp, ho, Instr.storeAt, Instr.sureAddr, hev, Sem.run_bind, Sem.run_pure, Result.andThen_ok]
            rw [hrun, heq]
            rfl
          split at hr
          · rename_i hsz
            have hsz := Nat.eq_of_beq_eq_true hsz
            obtain ⟨⟨y, fr⟩, k1, hr⟩ := RM.run_bind' hr
            obtain ⟨u, k2, hr⟩ := RM.run_bind' hr
            cases hr
            have hoff : off = 0 := by omega
            subst hoff
            exact key y fr cs _ k1 (run_guardR k2) hcs (by simp only [Nat.add_zero, hlen, hb1, hsz])
          · obtain ⟨⟨y, fr⟩, k1, hr⟩ := RM.run_bind' hr
            obtain ⟨u, k2, hr⟩ := RM.run_bind' hr
            cases hr
            obtain ⟨us, m1, m2, m3⟩ := row_cells hB' hi
            have hus : us = (vs.toList.drop (k * tt.size)).take tt.size := by
              apply List.ext_getElem?
              intro n
              by_cases hn' : n < tt.size
              · rw [List.getElem?_take_of_lt hn', List.getElem?_drop]
                have := m3 n us[n] (List.getElem?_eq_getElem (by omega))
                rw [cell_of_heap g2] at this
                rw [List.getElem?_eq_getElem (by omega), ← this]
                simp
              · rw [List.getElem?_eq_none (by omega), List.getElem?_eq_none (by simp; omega)]
            refine key y fr _ _ k1 (run_guardR k2) (hcs.splice (CReps_flat m1) off) ?_
            rw [hlen, hb1, hus]
            simp only [List.take_take, List.drop_take, List.drop_drop, List.append_assoc]
            rw [Nat.min_eq_left (by omega)]
            have e1 : vs.toList.take (k * tt.size + off) = vs.toList.take (k * tt.size) ++ (vs.toList.drop (k * tt.size)).take off := by
              rw [List.take_add]
            rw [e1]
            simp only [List.append_assoc]
            congr 3
            have e2 : vs.toList.drop (k * tt.size + off + i.size) = (vs.toList.drop (k * tt.size + off + i.size)).take (tt.size - (off + i.size)) ++ (vs.toList.drop (k * tt.size + off + i.size)).drop (tt.size - (off + i.size)) := (List.take_append_drop _ _).symm
            rw [e2, List.drop_drop]
            rw [show k * tt.size + off + i.size = k * tt.size + (off + i.size) by omega, show k * tt.size + (off + i.size) + (tt.size - (off + i.size)) = k * tt.size + tt.size by omega]
        · cases hr
      · cases hr
    · cases hr
  · cases hr

/-! ### Structs in registers -/

theorem fill_foldl (cells : Array Value) (off : Nat) : ∀ (us : List Value) (k : Nat) (cs : Array Value), off + k + us.length ≤ cs.size →
    ((us.zipIdx k).foldl (fun cs (p : Value × Nat) => cs.setIfInBounds (off + p.2) p.1) cs).toList = cs.toList.take (off + k) ++ us ++ cs.toList.drop (off + k + us.length)
  | [], k, cs, _ => by simp
  | u :: us, k, cs, h => by
    simp only [List.zipIdx_cons, List.foldl_cons]
    rw [fill_foldl cells off us (k + 1) _ (by simp at h ⊢; omega)]
    have hk : off + k < cs.toList.length := by simp at h ⊢; omega
    simp only [Array.toList_setIfInBounds]
    apply List.ext_getElem?
    intro n
    simp only [List.length_cons]
    by_cases h1 : n < off + k
    · rw [List.append_assoc, List.append_assoc, List.getElem?_append_left (by simp; omega), List.getElem?_append_left (by simp; omega), List.getElem?_take_of_lt (by omega), List.getElem?_take_of_lt (by omega), List.getElem?_set_ne (by omega)]
    · by_cases h2 : n = off + k
      · subst h2
        rw [List.append_assoc, List.append_assoc, List.getElem?_append_left (by simp at h ⊢; omega), List.getElem?_take_of_lt (by omega), List.getElem?_set_self (by omega),
          List.getElem?_append_right (by simp; omega), List.getElem?_append_left (by simp; omega)]
        simp only [List.length_take]
        rw [Nat.min_eq_left (by omega)]
        simp
      · have hn : off + k + 1 ≤ n := by omega
        by_cases h3 : n < off + (k + 1) + us.length
        · rw [List.getElem?_append_left (by simp at h ⊢; omega), List.getElem?_append_right (by simp; omega), List.getElem?_append_left (by simp at h ⊢; omega), List.getElem?_append_right (by simp; omega)]
          simp only [List.length_take, List.length_set]
          rw [show n - min (off + k) cs.toList.length = (n - min (off + (k + 1)) cs.toList.length) + 1 by omega, List.getElem?_cons_succ]
        · rw [List.getElem?_append_right (by simp at h ⊢; omega), List.getElem?_append_right (by simp at h ⊢; omega)]
          simp only [List.getElem?_drop, List.length_append, List.length_take, List.length_set, List.length_cons]
          rw [List.getElem?_set_ne (by omega)]
          congr 1
          omega

theorem buildCs_sound (h : SRel w0 foot base S E a w) (hc : TagsHold a ctx) {places : Array (Nat × Nat)} {fs : List (Nat × Nat × Nat)}
    (hp : ∀ (i : Nat) off size t, fs[i]? = some (off, size, t) → places[i]? = some (off, size)) : ∀ {ps : List (Nat × Operand)} {cs ds : List C} {cells : Array Value},
    (buildCs fs ps cs).run S ctx = some ds → CReps E cs cells.toList →
    ∃ cells', Instr.fill (places[·]?) cells (ps.map fun (i, x) => (i, a.eval x)) = some cells' ∧ CReps E ds cells'.toList
  | [], cs, ds, cells, hr, hcs => by
    cases hr
    exact ⟨cells, rfl, hcs⟩
  | (i, x) :: ps, cs, ds, cells, hr, hcs => by
    unfold buildCs at hr
    obtain ⟨s, h1, hr⟩ := RM.run_bind' hr
    obtain ⟨us, h2, hr⟩ := RM.run_bind' hr
    split at hr
    · rename_i off size t hf
      split at hr
      · rename_i hb
        simp only [Bool.and_eq_true] at hb
        have hb1 := Nat.eq_of_beq_eq_true hb.1
        have hb2 := Nat.le_of_ble_eq_true hb.2
        have hus := evCells_rep h hc h1 h2
        have hl := hus.length
        have hcl := hcs.length
        simp only [Array.length_toList] at hl hcl
        have hfold := fill_foldl cells off (a.eval x).cells.toList 0 cells (by simp only [Array.length_toList]; omega)
        simp only [Nat.add_zero] at hfold
        obtain ⟨cells', k1, k2⟩ := buildCs_sound h hc hp (cells := (a.eval x).cells.zipIdx.foldl (fun cs (c, j) => cs.setIfInBounds (off + j) c) cells) hr (by
          have e : ((a.eval x).cells.zipIdx.foldl (fun cs (c, j) => cs.setIfInBounds (off + j) c) cells).toList = cells.toList.take off ++ (a.eval x).cells.toList ++ cells.toList.drop (off + (a.eval x).cells.toList.length) := by
            rw [← Array.foldl_toList, Array.toList_zipIdx]
            exact hfold
          rw [e]
          exact hus.splice hcs off)
        refine ⟨cells', ?_, k2⟩
        simp only [List.map_cons, Instr.fill, hp _ _ _ _ hf]
        rw [if_neg (by simp; omega)]
        exact k1
      · cases hr
    · cases hr

theorem run_mapM_places (gs : Array Field) (hi : ∀ f ∈ gs, ∃ j, P.info? f.type = some j) :
    (gs.mapM fun (f : Field) => (do pure (f.offset, ← sizeOf f.type) : Sem (Nat × Nat))).run P w = .ok (gs.map fun f => (f.offset, P.cellsOf f.type)) w := by
  rw [Array.mapM_eq_mapM_toList]
  have key : ∀ l : List Field, (∀ f ∈ l, ∃ j, P.info? f.type = some j) → (l.mapM fun (f : Field) => (do pure (f.offset, ← sizeOf f.type) : Sem (Nat × Nat))).run P w = .ok (l.map fun f => (f.offset, P.cellsOf f.type)) w := by
    intro l
    induction l with
    | nil => intro _; rfl
    | cons f l ih =>
      intro hl
      obtain ⟨j, hj⟩ := hl f List.mem_cons_self
      simp only [List.mapM_cons, Sem.run_bind, run_sizeOf' hj, Result.andThen_ok, Sem.run_pure, ih fun g hg => hl g (List.mem_cons_of_mem _ hg), List.map_cons]
      simp [Program.cellsOf, hj]
  rw [Sem.run_map, key gs.toList (fun f hf => hi f (by simpa using hf)), Result.andThen_ok]
  have e : (gs.toList.map fun f => (f.offset, P.cellsOf f.type)).toArray = gs.map fun f => (f.offset, P.cellsOf f.type) := by
    apply Array.ext'
    rw [Array.toList_map]
  rw [e]

end Go.Vc
