/-
  The executor's single operations are sound: the readers, constants, data out of cells, numbers and places.
-/
import Derived.Test.YtpnnfimacblhgaaVcc
import Derived.IntWalk
import Derived.Laws.Entries
import Derived.Laws.MakeOwn
import Derived.Laws.AppendOwn
set_option linter.unusedVariables false
set_option linter.unusedSimpArgs false
namespace Go.Vc
open Go

variable {P : Program} {X : Ctx} {w0 : World} {foot : Foot} {base : Mem} {S : St} {E : Env} {a : Act} {w : World} {ctx : Tags}

/-! ### Readers -/

theorem run_ofOption {α : Type} {x : Option α} {y : α} (h : (RM.ofOption x).run S ctx = some y) : x = some y := by
  cases x with
  | none => cases h
  | some z => exact h

theorem constC_rep {v : Value} {c : C} (h : constC v = some c) : CRep E c v := by
  unfold constC at h
  split at h
  · cases h; exact ⟨rfl, rfl⟩
  · split at h
    · rename_i k n hk
      cases h
      simp only [Bool.and_eq_true, decide_eq_true_eq] at hk
      exact ⟨rfl, rfl, hk⟩
    · cases h
  · split at h
    · rename_i s hs
      cases h
      exact ⟨rfl, rfl, Nat.le_of_ble_eq_true hs⟩
    · cases h
  · cases h; rfl
  · cases h; rfl
  · cases h; rfl
  · cases h

theorem constCs_rep : ∀ {vs : List Value} {cs : List C}, constCs vs = some cs → CReps E cs vs
  | [], cs, h => by cases h; rfl
  | v :: vs, cs, h => by
    unfold constCs at h
    split at h
    · rename_i c cs' h1 h2
      cases h
      exact ⟨v, vs, rfl, constC_rep h1, constCs_rep h2⟩
    · cases h

theorem constSV_rep {v : Value} {s : SV} (h : constSV v = some s) : SRep E s v := by
  unfold constSV at h
  split at h
  · obtain ⟨cs, h1, rfl⟩ := Option.map_eq_some_iff.1 h
    exact ⟨_, rfl, constCs_rep h1⟩
  · obtain ⟨c, h1, rfl⟩ := Option.map_eq_some_iff.1 h
    exact constC_rep h1

theorem TagsHold.sub {ts us : Tags} (h : TagsHold a us) (hs : tagsIn us ts = true) : TagsHold a ts := fun t ht => h t (tagsIn_mem hs t ht)

theorem evx_rep (h : SRel w0 foot base S E a w) {ex : Tags} {x : Operand} {s : SV} (hc : TagsHold a (ex ++ ctx)) (hr : (evx ex x).run S ctx = some s) : SRep E s (a.eval x) := by
  unfold evx at hr
  split at hr
  · rename_i t
    simp only [RM.run] at hr
    split at hr
    · rename_i tags v hf
      split at hr
      · rename_i ht
        cases hr
        exact h.slots _ _ _ hf (hc.sub ht)
      · cases hr
    · cases hr
  · exact constSV_rep (run_ofOption hr)
  · cases hr
    exact ⟨rfl, #[], rfl, rfl⟩
  · cases hr

theorem ev_rep (h : SRel w0 foot base S E a w) {x : Operand} {s : SV} (hc : TagsHold a ctx) (hr : (ev x).run S ctx = some s) : SRep E s (a.eval x) :=
  evx_rep h (ex := []) hc hr

theorem asC_rep {s : SV} {c : C} {v : Value} (hv : SRep E s v) (hr : (asC s).run S ctx = some c) : CRep E c v := by
  unfold asC at hr
  split at hr
  · cases hr; exact hv
  · cases hr

theorem evC_rep (h : SRel w0 foot base S E a w) {x : Operand} {c : C} (hc : TagsHold a ctx) (hr : (evC x).run S ctx = some c) : CRep E c (a.eval x) := by
  obtain ⟨s, h1, h2⟩ := RM.run_bind' hr
  exact asC_rep (ev_rep h hc h1) h2

theorem asCells_rep {s : SV} {cs : List C} {v : Value} (hv : SRep E s v) (hr : (asCells s).run S ctx = some cs) : CReps E cs v.cells.toList := by
  unfold asCells at hr
  split at hr
  · cases hr
    have hv : CRep E _ v := hv
    rw [Value.cells_one hv.oneCell]
    exact ⟨v, [], rfl, hv, rfl⟩
  · cases hr
    obtain ⟨vs, rfl, hv⟩ := hv
    exact hv
  · cases hr

theorem evCells_rep (h : SRel w0 foot base S E a w) {x : Operand} {cs : List C} (hc : TagsHold a ctx) {s : SV} (h1 : (ev x).run S ctx = some s) (hr : (asCells s).run S ctx = some cs) :
    CReps E cs (a.eval x).cells.toList := asCells_rep (ev_rep h hc h1) hr

theorem asB_rep {s : SV} {b : Bool} {v : Value} (hv : SRep E s v) (hr : (asB s).run S ctx = some b) : v = .bool b := by
  unfold asB at hr
  split at hr
  · cases hr
    have := hv.2
    simpa [Rep] using this
  · cases hr

theorem asI_rep {s : SV} {n : Int} {v : Value} (hv : SRep E s v) (hr : (asI s).run S ctx = some n) : ∃ k, v = .int k n ∧ InR k n := by
  unfold asI at hr
  split at hr
  · rename_i k n
    cases hr
    have := hv.2
    exact ⟨k, by simpa using this.1, this.2⟩
  · cases hr

/-! ### Cells back to data -/

/-- The heap's part, behind some freezing. -/
def applyFro (fr : Fro) (bl : List (Nat × Blk)) : List (Nat × Blk) := fr.foldl (fun l p => put l p.1 p.2) bl

/-- What an entry may freeze: a row, or a variable whose cells are data. -/
def FroAt (B D : Blk) : Prop :=
  (∃ f e t xs, D = .row true e t xs ∧ B = .row f e t xs) ∨
  (∃ t x, D = .fcells t x ∧ (B = .fcells t x ∨ ∃ cs, B = .cells cs ∧ ∀ (E : Env) (vs : List Value), CReps E cs vs → Rep E.F t x vs))

theorem FroAt.again {B D : Blk} (h : FroAt B D) : FroAt D D := by
  rcases h with ⟨f, e, t, xs, rfl, rfl⟩ | ⟨t, x, rfl, h⟩
  · exact .inl ⟨_, _, _, _, rfl, rfl⟩
  · exact .inr ⟨_, _, rfl, .inl rfl⟩

/-- Each entry freezes what lies there, and no two of them otherwise. -/
structure FroOk (bl : List (Nat × Blk)) (fr : Fro) : Prop where
  at_ : ∀ p ∈ fr, ∃ B, find bl p.1 = some B ∧ FroAt B p.2
  det : ∀ p ∈ fr, ∀ q ∈ fr, p.1 = q.1 → p.2 = q.2

theorem FroOk.nil {bl : List (Nat × Blk)} : FroOk bl [] := ⟨fun p hp => (by cases hp), fun p hp => (by cases hp)⟩

theorem FroOk.one {bl : List (Nat × Blk)} {n : Nat} {B D : Blk} (hf : find bl n = some B) (hF : FroAt B D) : FroOk bl [(n, D)] :=
  ⟨fun p hp => by rcases List.mem_singleton.1 hp with rfl; exact ⟨B, hf, hF⟩, fun p hp q hq _ => by
    rcases List.mem_singleton.1 hp with rfl
    rcases List.mem_singleton.1 hq with rfl
    rfl⟩

theorem FroOk.tail {bl : List (Nat × Blk)} {p : Nat × Blk} {fr : Fro} (ho : FroOk bl (p :: fr)) : FroOk (put bl p.1 p.2) fr where
  at_ q hq := by
    obtain ⟨B, h1, h2⟩ := ho.at_ q (List.mem_cons_of_mem _ hq)
    by_cases hb : p.1 = q.1
    · have e := ho.det p List.mem_cons_self q (List.mem_cons_of_mem _ hq) hb
      exact ⟨p.2, by rw [← hb, find_put_same], e ▸ h2.again⟩
    · exact ⟨B, by rw [find_put_other _ _ _ _ hb]; exact h1, h2⟩
  det q hq r hr := ho.det q (List.mem_cons_of_mem _ hq) r (List.mem_cons_of_mem _ hr)

theorem noId_mem : ∀ {g : Fro} {m : Nat}, noId g m = true → ∀ q ∈ g, q.1 ≠ m
  | [], _, _, q, hq => by cases hq
  | (k, B) :: g, m, h, q, hq => by
    unfold noId at h
    split at h
    · cases h
    · rename_i hb
      rcases List.mem_cons.1 hq with rfl | hq
      · intro e; simp only at e; subst e; simp at hb
      · exact noId_mem h q hq

theorem apart1_spec : ∀ {f g : Fro}, apart1 f g = true → ∀ p ∈ f, ∀ q ∈ g, p.1 = q.1 → isF p.2 = false
  | [], _, _, p, hp => by cases hp
  | (m, B) :: f, g, h, p, hp => by
    simp only [apart1, Bool.and_eq_true, Bool.or_eq_true, Bool.not_eq_true'] at h
    rcases List.mem_cons.1 hp with rfl | hp
    · intro q hq e
      rcases h.1 with h1 | h1
      · exact h1
      · exact absurd e.symm (noId_mem h1 q hq)
    · exact apart1_spec h.2 p hp

theorem FroAt.det {B D D' : Blk} (h : FroAt B D) (k : FroAt B D') (hD : isF D = false) (hD' : isF D' = false) : D = D' := by
  rcases h with ⟨f, e, t, xs, rfl, rfl⟩ | ⟨t, x, rfl, _⟩
  · rcases k with ⟨f, e, t, xs, rfl, k⟩ | ⟨t, x, rfl, _⟩
    · cases k; rfl
    · cases hD'
  · cases hD

theorem FroOk.append {bl : List (Nat × Blk)} {f g : Fro} (h : FroOk bl f) (k : FroOk bl g) (ha : froApart f g = true) : FroOk bl (f ++ g) := by
  simp only [froApart, Bool.and_eq_true] at ha
  have cross : ∀ p ∈ f, ∀ q ∈ g, p.1 = q.1 → p.2 = q.2 := fun p hp q hq e => by
    obtain ⟨B, h1, h2⟩ := h.at_ p hp
    obtain ⟨B', h3, h4⟩ := k.at_ q hq
    rw [e, h3] at h1
    cases h1
    exact h2.det h4 (apart1_spec ha.1 p hp q hq e) (apart1_spec ha.2 q hq p hp e.symm)
  refine ⟨fun p hp => ?_, fun p hp q hq e => ?_⟩
  · rcases List.mem_append.1 hp with hp | hp
    · exact h.at_ p hp
    · exact k.at_ p hp
  · rcases List.mem_append.1 hp with hp | hp
    · rcases List.mem_append.1 hq with hq | hq
      · exact h.det p hp q hq e
      · exact cross p hp q hq e
    · rcases List.mem_append.1 hq with hq | hq
      · exact (cross q hq p hp e.symm).symm
      · exact k.det p hp q hq e

/-- One entry. -/
theorem HRel.freezeAt {bl : List (Nat × Blk)} {used : List Nat} (h : HRel w0 foot base bl used E w) {id : Nat} {B D : Blk} (hf : find bl id = some B) (hF : FroAt B D) :
    ∃ E', E.le E' ∧ E'.place = E.place ∧ (∀ b o, E'.F b = some o → E.F b = some o ∨ (w.heap[b]? = some o ∧ (∃ p, E.place id = some p ∧ p.nil = false ∧ p.blk = b))) ∧ HRel w0 foot base (put bl id D) used E' w := by
  rcases hF with ⟨f, e, t, xs, rfl, rfl⟩ | ⟨t, x, rfl, rfl | ⟨cs, rfl, hr⟩⟩
  · exact h.freeze hf
  · refine ⟨E, .refl _, rfl, fun _ _ h => .inl h, h.congr (fun i D hi => ?_) (fun _ h => h)⟩
    by_cases e : i = id
    · subst e; rw [find_put_same] at hi; rw [← hi]; exact hf
    · rwa [find_put_other _ _ _ _ (Ne.symm e)] at hi
  · exact h.freezeCells hf hr

theorem HRel.applyFro {used : List Nat} : ∀ {fr : Fro} {bl : List (Nat × Blk)} {E : Env}, HRel w0 foot base bl used E w → FroOk bl fr →
    ∃ E', E.le E' ∧ E'.place = E.place ∧ (∀ b o, E'.F b = some o → E.F b = some o ∨ (w.heap[b]? = some o ∧ ∃ q ∈ fr, ∃ p, E.place q.1 = some p ∧ p.nil = false ∧ p.blk = b)) ∧ HRel w0 foot base (applyFro fr bl) used E' w
  | [], _, E, h, _ => ⟨E, .refl _, rfl, fun _ _ h => .inl h, h⟩
  | q :: fr, bl, E, h, ho => by
    obtain ⟨B, h3, h4⟩ := ho.at_ q List.mem_cons_self
    have ho := ho.tail
    obtain ⟨E1, l1, p1, f1, h1⟩ := h.freezeAt h3 h4
    obtain ⟨E2, l2, p2, f2, h2⟩ := HRel.applyFro h1 ho
    refine ⟨E2, l1.trans l2, p2.trans p1, fun b o hb => ?_, h2⟩
    rcases f2 b o hb with h5 | ⟨h5, q', hq', p, h6⟩
    · rcases f1 b o h5 with h5 | ⟨h5, p, h6⟩
      · exact .inl h5
      · exact .inr ⟨h5, q, List.mem_cons_self, p, h6⟩
    · exact .inr ⟨h5, q', List.mem_cons_of_mem _ hq', p, p1 ▸ h6⟩

/-- The rows named in 'fr' are frozen in 'E'. -/
def Frozen (bl : List (Nat × Blk)) (E : Env) (w : World) (fr : Fro) : Prop :=
  ∀ q ∈ fr, ∃ p, E.place q.1 = some p ∧ BRep E w p q.2

theorem find_applyFro_mem {q : Nat × Blk} : ∀ {fr : Fro} {bl : List (Nat × Blk)}, (∀ p ∈ fr, p.1 = q.1 → p.2 = q.2) → (find bl q.1 = some q.2 ∨ q ∈ fr) → find (applyFro fr bl) q.1 = some q.2
  | [], bl, _, h => by
    rcases h with h | h
    · exact h
    · cases h
  | r :: fr, bl, hd, h => by
    show find (Vc.applyFro fr (put bl r.1 r.2)) q.1 = _
    refine find_applyFro_mem (fun p hp => hd p (List.mem_cons_of_mem _ hp)) ?_
    by_cases hb : r.1 = q.1
    · left
      rw [← hb, find_put_same, hd r List.mem_cons_self hb]
    · rw [find_put_other _ _ _ _ hb]
      rcases h with h | h
      · exact .inl h
      · rcases List.mem_cons.1 h with rfl | h
        · exact absurd rfl hb
        · exact .inr h

theorem Frozen.of_apply {bl : List (Nat × Blk)} {used : List Nat} {fr : Fro} (ho : FroOk bl fr) (h : HRel w0 foot base (applyFro fr bl) used E w) : Frozen bl E w fr := fun q hq => by
  obtain ⟨p, hp, hB⟩ := h.blks q.1 q.2 (find_applyFro_mem (fun p hp e => ho.det p hp q hq e) (.inr hq))
  exact ⟨p, hp, hB⟩

theorem Rep_as {F : Mem} {t t' : Ty} {x : t.den} {y : t'.den} {vs : List Value} (h : Ty.as t' x = some y) (hr : Rep F t x vs) : Rep F t' y vs := by
  obtain ⟨e, rfl⟩ := Ty.as_some h
  subst e
  exact hr

/-- A frozen row, as data. -/
theorem row_rep {p : Place} {e : Nat} {t : Ty} {xs : List t.den} (hB : BRep E w p (.row true e t xs)) (lo len : Nat) (hl : lo + len ≤ p.len) {v : Value}
    (hv : (p.nil = true ∧ v = .slice none 0 0) ∨ (p.nil = false ∧ ∃ a : Addr, v = .slice (some a) len (p.cap - lo) ∧ (lo = p.cap ∨ a = ⟨p.blk, lo * t.size, none⟩))) :
    Rep E.F (.list t) (lit ((xs.drop lo).take len)) [v] := by
  rcases hB with ⟨hn, hx, hz⟩ | ⟨hn, h0, ⟨h1, h1'⟩, vs, h2, h3, h4, h5⟩
  · rcases hv with ⟨_, rfl⟩ | ⟨hn', _⟩
    · subst hx
      have hl0 : len = 0 := by omega
      subst hl0
      refine ⟨none, 0, by simp [lit], by simp [lit], by simp [maxLenI], fun _ => rfl, fun p hp => by cases hp⟩
    · rw [hn] at hn'; cases hn'
  · rcases hv with ⟨hn', _⟩ | ⟨_, a, rfl, ha⟩
    · rw [hn] at hn'; cases hn'
    · have hlen : (Ty.L (t := t) (lit ((xs.drop lo).take len))).length = len := by simp [lit, h1]; omega
      refine ⟨some a, p.cap - lo, by rw [hlen], by rw [hlen]; omega, by omega, (fun h => by cases h), fun p' hp i x hx => ?_⟩
      cases hp
      have hi : i < len := by
        have := (List.getElem?_eq_some_iff.1 hx).1
        omega
      have hx' : xs[lo + i]? = some x := by
        have hx2 : ((xs.drop lo).take len)[i]? = some x := hx
        rw [List.getElem?_take_of_lt hi, List.getElem?_drop] at hx2
        exact hx2
      rcases ha with ha | rfl
      · omega
      · obtain ⟨us, k1, k2, k3⟩ := h5 _ x hx'
        refine ⟨rfl, us, k1, k2, fun j u hu => ⟨vs, e, (0, 0), h4 rfl, ?_⟩⟩
        have := k3 j u hu
        rw [show lo * t.size + (i * t.size + j) = (lo + i) * t.size + j by rw [Nat.add_mul]; omega]
        exact this

theorem lit_full {t : Ty} (xs : List t.den) : (xs.drop 0).take xs.length = xs := by simp

theorem reifyC_froOk {t : Ty} {c : C} {x : t.den} {fr : Fro} (hr : (reifyC t c).run S ctx = some (x, fr)) : FroOk S.bl fr := by
  unfold reifyC at hr
  split at hr
  · obtain ⟨y, _, h2⟩ := RM.run_bind' hr
    cases RM.run_pure' h2
    exact .nil
  · simp only [RM.run] at hr
    split at hr
    · rename_i B hf
      split at hr
      · split at hr
        · obtain ⟨y, _, h2⟩ := RM.run_bind' hr
          cases RM.run_pure' h2
          exact .one hf (.inl ⟨_, _, _, _, rfl, rfl⟩)
        · cases hr
      · cases hr
    · cases hr
  · simp only [RM.run] at hr
    split at hr
    · rename_i B hf
      split at hr
      · split at hr
        · obtain ⟨y, _, h2⟩ := RM.run_bind' hr
          cases RM.run_pure' h2
          exact .one hf (.inl ⟨_, _, _, _, rfl, rfl⟩)
        · cases hr
      · cases hr
    · cases hr
  · split at hr
    · cases hr; exact .nil
    · cases hr
  · split at hr
    · cases hr; exact .nil
    · cases hr
  · cases hr

theorem run_guardR {b : Bool} {u : Unit} (h : (guardR b).run S ctx = some u) : b = true := by
  unfold guardR at h
  split at h
  · rfl
  · cases h

theorem Frozen.nil {bl : List (Nat × Blk)} : Frozen bl E w [] := fun q hq => (by cases hq)

theorem reifyC_rep {t : Ty} {c : C} {x : t.den} {fr : Fro} {v : Value} (hr : (reifyC t c).run S ctx = some (x, fr)) (hv : CRep E c v) (hf : Frozen S.bl E w fr) : Rep E.F t x [v] := by
  unfold reifyC at hr
  split at hr
  · obtain ⟨y, h1, h2⟩ := RM.run_bind' hr
    cases RM.run_pure' h2
    exact Rep_as (run_ofOption h1) hv.2
  · rename_i tt b
    simp only [RM.run] at hr
    split at hr
    · rename_i B hB
      split at hr
      · rename_i f e t' xs
        split at hr
        · rename_i ht
          obtain ⟨y, h1, h2⟩ := RM.run_bind' hr
          cases RM.run_pure' h2
          refine Rep_as (run_ofOption h1) ?_
          obtain ⟨p, hp, hB'⟩ := hf (b, .row true e t' xs) (by simp)
          obtain ⟨p', hp', k⟩ := hv
          rw [hp] at hp'
          cases hp'
          have hlen : p.len = xs.length := by
            rcases hB' with ⟨_, hx, hz⟩ | ⟨_, _, ⟨h1, _⟩, _⟩
            · subst hx; exact hz
            · exact h1.symm
          have := row_rep (lo := 0) (len := xs.length) hB' (by omega) (v := v) (by
            rcases k with ⟨hn, hv, _⟩ | ⟨hn, hv, _⟩
            · exact .inl ⟨hn, hv⟩
            · exact .inr ⟨hn, _, by rw [hv, hlen]; rfl, .inr (by simp)⟩)
          rwa [lit_full] at this
        · cases hr
      · cases hr
    · cases hr
  · rename_i tt b lo len
    simp only [RM.run] at hr
    split at hr
    · rename_i B hB
      split at hr
      · rename_i f e t' xs
        split at hr
        · rename_i ht
          have ht := Ty.beq_eq ht
          subst ht
          obtain ⟨y, h1, h2⟩ := RM.run_bind' hr
          cases RM.run_pure' h2
          refine Rep_as (run_ofOption h1) ?_
          obtain ⟨p, hp, hB'⟩ := hf (b, .row true e tt xs) (by simp)
          obtain ⟨p', hp', hl, k⟩ := hv
          rw [hp] at hp'
          cases hp'
          refine row_rep hB' lo len hl ?_
          rcases k with ⟨hn, hv, _⟩ | ⟨hn, a, hv, _, _, h⟩
          · exact .inl ⟨hn, hv⟩
          · exact .inr ⟨hn, a, hv, h⟩
        · cases hr
      · cases hr
    · cases hr
  · split at hr
    · cases hr
      have hv : v = _ := hv
      subst hv
      exact ⟨none, 0, rfl, Nat.le_refl _, by simp [maxLenI], fun _ => rfl, fun p hp => by cases hp⟩
    · cases hr
  · split at hr
    · cases hr
      have hv : v = _ := hv
      subst hv
      exact .inl ⟨rfl, rfl⟩
    · cases hr
  · cases hr

theorem Frozen.left {bl : List (Nat × Blk)} {f g : Fro} (h : Frozen bl E w (f ++ g)) : Frozen bl E w f := fun q hq => h q (List.mem_append_left _ hq)
theorem Frozen.right {bl : List (Nat × Blk)} {f g : Fro} (h : Frozen bl E w (f ++ g)) : Frozen bl E w g := fun q hq => h q (List.mem_append_right _ hq)

theorem one_cell {t : Ty} {c : C} {x : t.den} {fr : Fro} {vs : List Value} (hr : (reifyC t c).run S ctx = some (x, fr)) (hv : CReps E [c] vs) (hf : Frozen S.bl E w fr) : Rep E.F t x vs := by
  obtain ⟨v, us, rfl, h1, h2⟩ := hv
  rw [show us = [] from h2]
  exact reifyC_rep hr h1 hf

/-- An element of a slice that is only read, as a place. -/
theorem elt_ref {t t' : Ty} {xs : List t'.den} {i : Nat} {x : t.den} {v : Value} (hv : CRep E (.elt t' xs i 0) v) (hx : Ty.as (a := t') t (at' xs i) = some x) : Rep E.F (.ref t) x [v] := by
  obtain ⟨hi, b, off, rfl, k⟩ := hv
  obtain ⟨us, k1, k2, k3⟩ := k i (at' xs i) (by unfold at'; rw [List.getD_eq_getElem?_getD, List.getElem?_eq_getElem hi]; rfl)
  have hr := Rep_as hx k1
  obtain ⟨e, _⟩ := Ty.as_some hx
  subst e
  exact ⟨b, off + (i * t'.size + 0), rfl, us, hr, k2, fun j u hu => by simpa [Nat.add_assoc] using k3 j u hu⟩

/-- A frozen variable, as a place. -/
theorem fcells_ref {t t' : Ty} {b : Nat} {y : t'.den} {x : t.den} {v : Value} (hv : CRep E (.ptr b 0) v) (hf : Frozen S.bl E w [(b, .fcells t' y)]) (hx : Ty.as (a := t') t y = some x) : Rep E.F (.ref t) x [v] := by
  obtain ⟨p, hp, hB⟩ := hf (b, .fcells t' y) (by simp)
  obtain ⟨p', hp', hn, rfl⟩ := hv
  rw [hp] at hp'
  cases hp'
  obtain ⟨_, vs, e, h1, h2, h3⟩ := hB
  have hr := Rep_as hx h3
  exact ⟨p.blk, 0, rfl, vs.toList, hr, hr.length, fun j u hu => ⟨vs, e, (0, 0), h2, by simpa using hu⟩⟩

theorem Rep.ptr_of_ref {F : Mem} {t : Ty} {x : t.den} {vs : List Value} (h : Rep F (.ref t) x vs) : Rep F (.ptr t) (some x) vs := by
  obtain ⟨b, off, h0, h1⟩ := h
  exact .inr ⟨x, rfl, b, off, h0, h1⟩

theorem one_reps {c : C} {vs : List Value} (hv : CReps E [c] vs) : ∃ v, vs = [v] ∧ CRep E c v := by
  obtain ⟨v, us, rfl, h1, h2⟩ := hv
  exact ⟨v, by rw [show us = [] from h2], h1⟩

theorem reify_rep : ∀ {t : Ty} {cs : List C} {x : t.den} {fr : Fro} {E : Env} {vs : List Value}, (reify t cs).run S ctx = some (x, fr) → CReps E cs vs → Frozen S.bl E w fr → Rep E.F t x vs
  | .unit, cs, x, fr, E, vs, hr, hv, hf => by
    unfold reify at hr
    split at hr
    · exact hv
    · cases hr
  | .pair t u, cs, x, fr, E, vs, hr, hv, hf => by
    unfold reify at hr
    obtain ⟨⟨y, f⟩, h1, h2⟩ := RM.run_bind' hr
    obtain ⟨⟨z, g⟩, h3, h4⟩ := RM.run_bind' h2
    obtain ⟨_, h5, h6⟩ := RM.run_bind' h4
    cases RM.run_pure' h6
    exact ⟨vs.take t.size, vs.drop t.size, (List.take_append_drop _ _).symm, reify_rep h1 (hv.take _) hf.left, reify_rep h3 (hv.drop _) hf.right⟩
  | .int k, cs, x, fr, E, vs, hr, hv, hf => by
    unfold reify at hr
    split at hr
    · exact one_cell hr hv hf
    · cases hr
  | .bool, cs, x, fr, E, vs, hr, hv, hf => by
    unfold reify at hr
    split at hr
    · exact one_cell hr hv hf
    · cases hr
  | .str, cs, x, fr, E, vs, hr, hv, hf => by
    unfold reify at hr
    split at hr
    · exact one_cell hr hv hf
    · cases hr
  | .list t, cs, x, fr, E, vs, hr, hv, hf => by
    unfold reify at hr
    split at hr
    · exact one_cell hr hv hf
    · cases hr
  | .clo k t, cs, x, fr, E, vs, hr, hv, hf => by
    unfold reify at hr
    split at hr
    · exact one_cell hr hv hf
    · cases hr
  | .ref t, cs, x, fr, E, vs, hr, hv, hf => by
    unfold reify at hr
    split at hr
    · split at hr
      · rename_i ho
        have ho := Nat.eq_of_beq_eq_true ho
        subst ho
        obtain ⟨y, h1, h2⟩ := RM.run_bind' hr
        cases RM.run_pure' h2
        obtain ⟨v, rfl, hv1⟩ := one_reps hv
        exact elt_ref hv1 (run_ofOption h1)
      · cases hr
    · split at hr
      · rename_i ho
        have ho := Nat.eq_of_beq_eq_true ho
        subst ho
        obtain ⟨v, rfl, hv1⟩ := one_reps hv
        simp only [RM.run] at hr
        split at hr
        · split at hr
          · obtain ⟨⟨y, f⟩, h1, h2⟩ := RM.run_bind' hr
            obtain ⟨_, h3, h4⟩ := RM.run_bind' h2
            cases RM.run_pure' h4
            exact fcells_ref hv1 hf (Ty.as_self y)
          · obtain ⟨y, h1, h2⟩ := RM.run_bind' hr
            cases RM.run_pure' h2
            exact fcells_ref hv1 hf (run_ofOption h1)
          · cases hr
        · cases hr
      · cases hr
    · cases hr
  | .ptr t, cs, x, fr, E, vs, hr, hv, hf => by
    unfold reify at hr
    split at hr
    · split at hr
      · rename_i ho
        have ho := Nat.eq_of_beq_eq_true ho
        subst ho
        obtain ⟨y, h1, h2⟩ := RM.run_bind' hr
        cases RM.run_pure' h2
        obtain ⟨v, rfl, hv1⟩ := one_reps hv
        exact (elt_ref hv1 (run_ofOption h1)).ptr_of_ref
      · cases hr
    · split at hr
      · rename_i ho
        have ho := Nat.eq_of_beq_eq_true ho
        subst ho
        obtain ⟨v, rfl, hv1⟩ := one_reps hv
        simp only [RM.run] at hr
        split at hr
        · split at hr
          · obtain ⟨⟨y, f⟩, h1, h2⟩ := RM.run_bind' hr
            obtain ⟨_, h3, h4⟩ := RM.run_bind' h2
            cases RM.run_pure' h4
            exact (fcells_ref hv1 hf (Ty.as_self y)).ptr_of_ref
          · obtain ⟨y, h1, h2⟩ := RM.run_bind' hr
            cases RM.run_pure' h2
            exact (fcells_ref hv1 hf (run_ofOption h1)).ptr_of_ref
          · cases hr
        · cases hr
      · cases hr
    · exact one_cell hr hv hf
    · cases hr

theorem reify_froOk : ∀ {t : Ty} {cs : List C} {x : t.den} {fr : Fro}, (reify t cs).run S ctx = some (x, fr) → FroOk S.bl fr
  | .unit, cs, x, fr, hr => by
    unfold reify at hr
    split at hr
    · cases hr; exact .nil
    · cases hr
  | .pair t u, cs, x, fr, hr => by
    unfold reify at hr
    obtain ⟨⟨y, f⟩, h1, h2⟩ := RM.run_bind' hr
    obtain ⟨⟨z, g⟩, h3, h4⟩ := RM.run_bind' h2
    obtain ⟨_, h5, h6⟩ := RM.run_bind' h4
    cases RM.run_pure' h6
    exact (reify_froOk h1).append (reify_froOk h3) (run_guardR h5)
  | .int k, cs, x, fr, hr => by
    unfold reify at hr
    split at hr
    · exact reifyC_froOk hr
    · cases hr
  | .bool, cs, x, fr, hr => by
    unfold reify at hr
    split at hr
    · exact reifyC_froOk hr
    · cases hr
  | .str, cs, x, fr, hr => by
    unfold reify at hr
    split at hr
    · exact reifyC_froOk hr
    · cases hr
  | .list t, cs, x, fr, hr => by
    unfold reify at hr
    split at hr
    · exact reifyC_froOk hr
    · cases hr
  | .clo k t, cs, x, fr, hr => by
    unfold reify at hr
    split at hr
    · exact reifyC_froOk hr
    · cases hr
  | .ref t, cs, x, fr, hr => by
    unfold reify at hr
    split at hr
    · split at hr
      · obtain ⟨y, h1, h2⟩ := RM.run_bind' hr
        cases RM.run_pure' h2
        exact .nil
      · cases hr
    · split at hr
      · simp only [RM.run] at hr
        split at hr
        · rename_i hB
          split at hr
          · obtain ⟨⟨y, f⟩, h1, h2⟩ := RM.run_bind' hr
            obtain ⟨_, h3, h4⟩ := RM.run_bind' h2
            cases RM.run_pure' h4
            have h3 := List.isEmpty_iff.1 (run_guardR h3)
            simp only at h3
            subst h3
            exact .one hB (.inr ⟨_, _, rfl, .inr ⟨_, rfl, fun E vs hv => reify_rep (w := default) h1 hv .nil⟩⟩)
          · obtain ⟨y, h1, h2⟩ := RM.run_bind' hr
            cases RM.run_pure' h2
            exact .one hB (.inr ⟨_, _, rfl, .inl rfl⟩)
          · cases hr
        · cases hr
      · cases hr
    · cases hr
  | .ptr t, cs, x, fr, hr => by
    unfold reify at hr
    split at hr
    · split at hr
      · obtain ⟨y, h1, h2⟩ := RM.run_bind' hr
        cases RM.run_pure' h2
        exact .nil
      · cases hr
    · split at hr
      · simp only [RM.run] at hr
        split at hr
        · rename_i hB
          split at hr
          · obtain ⟨⟨y, f⟩, h1, h2⟩ := RM.run_bind' hr
            obtain ⟨_, h3, h4⟩ := RM.run_bind' h2
            cases RM.run_pure' h4
            have h3 := List.isEmpty_iff.1 (run_guardR h3)
            simp only at h3
            subst h3
            exact .one hB (.inr ⟨_, _, rfl, .inr ⟨_, rfl, fun E vs hv => reify_rep (w := default) h1 hv .nil⟩⟩)
          · obtain ⟨y, h1, h2⟩ := RM.run_bind' hr
            cases RM.run_pure' h2
            exact .one hB (.inr ⟨_, _, rfl, .inl rfl⟩)
          · cases hr
        · cases hr
      · cases hr
    · exact reifyC_froOk hr
    · cases hr

end Go.Vc
