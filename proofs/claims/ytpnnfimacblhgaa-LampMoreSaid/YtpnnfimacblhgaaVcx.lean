/-
  What a reading of the arguments tells: the data that lie in memory.
-/
import Derived.Test.YtpnnfimacblhgaaVcs
import Derived.WideShapes
import Derived.ChangeSame
set_option linter.unusedVariables false
set_option linter.unusedSimpArgs false
namespace Go.Vc
open Go Go.WideShapes

variable {P : Program} {w : World}

/-- Is this type number of that type? And are these fields, from an offset on? -/
def tyIs (P : Program) : Ty → (Nat → Bool) × (List Field → Nat → Bool)
  | .int k => (fun t => match P.underlying t with
    | some (.int j) => kindBeq j k
    | _ => false, fun _ _ => false)
  | .bool => (fun t => match P.underlying t with
    | some .bool => true
    | _ => false, fun _ _ => false)
  | .str => (fun t => match P.underlying t with
    | some .string => true
    | _ => false, fun _ _ => false)
  | .list a => (fun t => match P.underlying t with
    | some (.slice e) => (tyIs P a).1 e && (Nat.beq (P.cellsOf e) a.size && Nat.blt 0 a.size)
    | _ => false, fun _ _ => false)
  | .unit => (fun _ => false, fun fs _ => fs.isEmpty)
  | .ref _ | .ptr _ | .clo _ _ => (fun _ => false, fun _ _ => false)
  | .pair a b =>
    let flds : List Field → Nat → Bool := fun fs off => match fs with
      | [] => false
      | [f] => Nat.beq f.offset off && (Nat.beq (P.cellsOf f.type) a.size && ((tyIs P a).1 f.type && (tyIs P b).2 [] (off + a.size)))
      | [f, g] => Nat.beq f.offset off && (Nat.beq (P.cellsOf f.type) a.size && ((tyIs P a).1 f.type && (Nat.beq g.offset (off + a.size) && (Nat.beq (P.cellsOf g.type) b.size && (tyIs P b).1 g.type))))
      | f :: fs => Nat.beq f.offset off && (Nat.beq (P.cellsOf f.type) a.size && ((tyIs P a).1 f.type && (tyIs P b).2 fs (off + a.size)))
    (fun t => match P.underlying t with
      | some (.struct fs) => Nat.beq (P.cellsOf t) (a.size + b.size) && flds fs.toList 0
      | _ => false, flds)

def memOf (w : World) : Mem := fun b => w.heap[b]?

theorem cell_mem {a : Addr} {u : Value} (h : w.cell? a = some u) : a.spot = none ∧ (memOf w).cell a.block a.off u := by
  unfold World.cell? at h
  split at h
  · rename_i c e m hb
    split at h
    · cases h
    · rename_i hs
      exact ⟨by simpa using hs, c, e, m, hb, h⟩
  · cases h

theorem mapM_some {α β : Type} {f : α → Option β} : ∀ {l : List α} {r : List β}, l.mapM f = some r → r.length = l.length ∧ ∀ (i : Nat) (x : α), l[i]? = some x → ∃ y, r[i]? = some y ∧ f x = some y
  | [], r, h => by
    simp at h
    subst h
    exact ⟨rfl, fun i x hx => by simp at hx⟩
  | a :: l, r, h => by
    rw [List.mapM_cons] at h
    cases hf : f a with
    | none => rw [hf] at h; cases h
    | some b =>
      rw [hf] at h
      cases hm : l.mapM f with
      | none => simp [hm] at h
      | some bs =>
        simp [hm] at h
        subst h
        obtain ⟨h1, h2⟩ := mapM_some hm
        refine ⟨by simp [h1], fun i x hx => ?_⟩
        cases i with
        | zero => simp at hx; subst hx; exact ⟨b, rfl, hf⟩
        | succ i => exact h2 i x (by simpa using hx)

theorem cells_some {a : Addr} {n : Nat} {us : List Value} (h : w.cells? 0 a n = some us) : us.length = n ∧ ∀ (j : Nat) (u : Value), us[j]? = some u → w.cell? (a.add j) = some u := by
  unfold World.cells? at h
  rw [if_pos (Nat.zero_le _)] at h
  obtain ⟨h1, h2⟩ := mapM_some h
  refine ⟨by simpa using h1, fun j u hu => ?_⟩
  have hj : j < n := by
    have := (List.getElem?_eq_some_iff.1 hu).1
    rw [h1] at this
    simpa using this
  obtain ⟨y, k1, k2⟩ := h2 j j (by simp [hj])
  rw [hu] at k1
  cases k1
  exact k2

/-- Elements found one by one make a list. -/
theorem list_of {α : Type} {Q : Nat → α → Prop} : ∀ (n : Nat), (∀ i, i < n → ∃ x, Q i x) → ∃ xs : List α, xs.length = n ∧ ∀ (i : Nat) (x : α), xs[i]? = some x → Q i x
  | 0, _ => ⟨[], rfl, fun i x h => by simp at h⟩
  | n + 1, h => by
    obtain ⟨xs, h1, h2⟩ := list_of n fun i hi => h i (by omega)
    obtain ⟨x, hx⟩ := h n (Nat.lt_succ_self n)
    refine ⟨xs ++ [x], by simp [h1], fun i y hy => ?_⟩
    by_cases hi : i < n
    · rw [List.getElem?_append_left (by omega)] at hy
      exact h2 i y hy
    · rw [List.getElem?_append_right (by omega)] at hy
      have : i - xs.length = 0 := by
        have := (List.getElem?_eq_some_iff.1 hy).1
        simp at this
        omega
      rw [this] at hy
      simp at hy
      subst hy
      have : i = n := by omega
      rw [this]
      exact hx

section
variable {H : Type} {enc : TypeId × Value → H} {sp : Nat → Bool} {held : Bool} {t fuel : Nat} {cs : List Value} {d : DataW H} {ps : List MemPlace}

theorem trod_int {k : IntKind} (hu : P.underlying t = some (.int k)) (h : DataW.trod enc P w 0 sp held fuel t cs = some (d, ps)) : ∃ n : Int, cs = [.int k n] ∧ InR k n := by
  cases fuel with
  | zero => cases h
  | succ fuel =>
    rcases cs with _ | ⟨v, _ | ⟨v2, cs⟩⟩
    · simp [DataW.trod, hu] at h
    · cases v <;> simp [DataW.trod, hu] at h
      obtain ⟨⟨rfl, h1⟩, _⟩ := h
      simp only [Lit.wf, Bool.and_eq_true, decide_eq_true_eq] at h1
      exact ⟨_, rfl, h1⟩
    · simp [DataW.trod, hu] at h

theorem trod_bool (hu : P.underlying t = some .bool) (h : DataW.trod enc P w 0 sp held fuel t cs = some (d, ps)) : ∃ b : Bool, cs = [.bool b] := by
  cases fuel with
  | zero => cases h
  | succ fuel =>
    rcases cs with _ | ⟨v, _ | ⟨v2, cs⟩⟩
    · simp [DataW.trod, hu] at h
    · cases v <;> simp [DataW.trod, hu] at h
      exact ⟨_, rfl⟩
    · simp [DataW.trod, hu] at h

theorem trod_str (hu : P.underlying t = some .string) (h : DataW.trod enc P w 0 sp held fuel t cs = some (d, ps)) : ∃ s : ByteArray, cs = [.string s] ∧ s.size ≤ maxLen := by
  cases fuel with
  | zero => cases h
  | succ fuel =>
    rcases cs with _ | ⟨v, _ | ⟨v2, cs⟩⟩
    · simp [DataW.trod, hu] at h
    · cases v <;> simp [DataW.trod, hu] at h
      exact ⟨_, rfl, h.1⟩
    · simp [DataW.trod, hu] at h

theorem trod_slice {e : Nat} (hu : P.underlying t = some (.slice e)) (h : DataW.trod enc P w 0 sp held (fuel + 1) t cs = some (d, ps)) :
    cs = [.slice none 0 0] ∨ ∃ a len cap, cs = [.slice (some a) len cap] ∧ len ≤ cap ∧ cap ≤ maxLen ∧
      ∀ i, i < len → ∃ us d' ps', w.cells? 0 (a.add (i * P.cellsOf e)) (P.cellsOf e) = some us ∧ DataW.trod enc P w 0 sp held fuel e us = some (d', ps') := by
  rcases cs with _ | ⟨v, _ | ⟨v2, cs⟩⟩
  · simp [DataW.trod, hu] at h
  · cases v with
    | slice a len cap =>
      cases a with
      | none =>
        unfold DataW.trod at h
        simp only [hu] at h
        split at h <;> simp_all
      | some a =>
        unfold DataW.trod at h
        simp only [hu] at h
        split at h
        · rename_i hc
          refine .inr ⟨a, len, cap, rfl, hc.2.1, hc.2.2, fun i hi => ?_⟩
          rw [Option.bind_eq_some_iff] at h
          obtain ⟨elems, h1, _⟩ := h
          obtain ⟨_, h2⟩ := mapM_some h1
          obtain ⟨y, _, h3⟩ := h2 i i (by simp [hi])
          rw [Option.bind_eq_some_iff] at h3
          obtain ⟨us, h4, h5⟩ := h3
          exact ⟨us, y.1, y.2, h4, h5⟩
        · cases h
    | _ => simp [DataW.trod, hu] at h
  · simp [DataW.trod, hu] at h

theorem trod_struct {fs : Array Field} (hu : P.underlying t = some (.struct fs)) (h : DataW.trod enc P w 0 sp held (fuel + 1) t cs = some (d, ps)) :
    cs.length = P.cellsOf t ∧ ∃ xs, fs.toList.mapM (fun f => DataW.trod enc P w 0 sp held fuel f.type ((cs.drop f.offset).take (P.cellsOf f.type))) = some xs := by
  unfold DataW.trod at h
  simp only [hu] at h
  split at h
  · rename_i hc
    refine ⟨hc, ?_⟩
    rw [Option.map_eq_some_iff] at h
    obtain ⟨xs, h1, _⟩ := h
    exact ⟨xs, h1⟩
  · cases h
end

theorem fields_cons {f : Field} {fs : List Field} {fuel : Nat} {cs : List Value} {H : Type} {enc : TypeId × Value → H} {sp : Nat → Bool} {held : Bool} {xs : List (DataW H × List MemPlace)}
    (h : (f :: fs).mapM (fun f => DataW.trod enc P w 0 sp held fuel f.type ((cs.drop f.offset).take (P.cellsOf f.type))) = some xs) :
    (∃ y, DataW.trod enc P w 0 sp held fuel f.type ((cs.drop f.offset).take (P.cellsOf f.type)) = some y) ∧ ∃ ys, fs.mapM (fun f => DataW.trod enc P w 0 sp held fuel f.type ((cs.drop f.offset).take (P.cellsOf f.type))) = some ys := by
  rw [List.mapM_cons] at h
  cases hf : DataW.trod enc P w 0 sp held fuel f.type ((cs.drop f.offset).take (P.cellsOf f.type)) with
  | none => rw [hf] at h; cases h
  | some b =>
    rw [hf] at h
    refine ⟨⟨b, rfl⟩, ?_⟩
    cases hm : fs.mapM (fun f => DataW.trod enc P w 0 sp held fuel f.type ((cs.drop f.offset).take (P.cellsOf f.type))) with
    | none => simp [hm] at h
    | some bs => exact ⟨bs, rfl⟩

theorem add_off (x : Addr) (n : Nat) : (x.add n).off = x.off + n ∧ (x.add n).block = x.block := by
  unfold Addr.add
  split <;> simp_all

theorem add_zero' (x : Addr) : (x.add 0) = x := by simp [Addr.add]

/-- A reading of cells by a type tells the data that lie there. -/
theorem trod_rep {H : Type} {enc : TypeId × Value → H} {sp : Nat → Bool} {held : Bool} : ∀ {ty : Ty},
    (∀ {t fuel : Nat} {cs : List Value} {d : DataW H} {ps : List MemPlace}, (tyIs P ty).1 t = true → DataW.trod enc P w 0 sp held fuel t cs = some (d, ps) → ∃ x, Rep (memOf w) ty x cs) ∧
    (∀ {fs : List Field} {off fuel : Nat} {cs : List Value} {xs : List (DataW H × List MemPlace)}, (tyIs P ty).2 fs off = true → cs.length = off + ty.size →
      fs.mapM (fun f => DataW.trod enc P w 0 sp held fuel f.type ((cs.drop f.offset).take (P.cellsOf f.type))) = some xs → ∃ x, Rep (memOf w) ty x (cs.drop off))
  | .int k => by
    refine ⟨fun {t fuel cs d ps} ht h => ?_, fun h => by cases h⟩
    simp only [tyIs] at ht
    split at ht
    · rename_i j hu
      have := kindBeq_eq ht
      subst this
      obtain ⟨n, rfl, hn⟩ := trod_int hu h
      exact ⟨n, rfl, hn⟩
    · cases ht
  | .ref _ => ⟨fun {t fuel cs d ps} ht h => (by cases ht), fun h => by cases h⟩
  | .ptr _ => ⟨fun {t fuel cs d ps} ht h => (by cases ht), fun h => by cases h⟩
  | .clo _ _ => ⟨fun {t fuel cs d ps} ht h => (by cases ht), fun h => by cases h⟩
  | .bool => by
    refine ⟨fun {t fuel cs d ps} ht h => ?_, fun h => by cases h⟩
    simp only [tyIs] at ht
    split at ht
    · rename_i hu
      obtain ⟨b, rfl⟩ := trod_bool hu h
      exact ⟨b, rfl⟩
    · cases ht
  | .str => by
    refine ⟨fun {t fuel cs d ps} ht h => ?_, fun h => by cases h⟩
    simp only [tyIs] at ht
    split at ht
    · rename_i hu
      obtain ⟨s, rfl, hs⟩ := trod_str hu h
      refine ⟨s.data.toList, rfl, ?_⟩
      have : s.data.toList.length = s.size := rfl
      show s.data.toList.length ≤ _
      rw [this]
      exact hs
    · cases ht
  | .list a => by
    refine ⟨fun {t fuel cs d ps} ht h => ?_, fun h => by cases h⟩
    simp only [tyIs] at ht
    split at ht
    · rename_i e hu
      simp only [Bool.and_eq_true] at ht
      obtain ⟨h1, h2, h3⟩ := ht
      have h2 := Nat.eq_of_beq_eq_true h2
      have h3 : 0 < a.size := Nat.lt_of_lt_of_le (Nat.zero_lt_one) (Nat.le_of_ble_eq_true h3)
      cases fuel with
      | zero => cases h
      | succ fuel =>
        rcases trod_slice hu h with rfl | ⟨ad, len, cap, rfl, hlc, hcm, hel⟩
        · exact ⟨[], none, 0, rfl, Nat.le_refl _, Nat.zero_le _, fun _ => rfl, fun p hp => by cases hp⟩
        · obtain ⟨xs, hl, hxs⟩ := list_of (Q := fun i x => ad.spot = none ∧ ∃ us : List Value, Rep (memOf w) a x us ∧ us.length = a.size ∧ ∀ (j : Nat) u, us[j]? = some u → (memOf w).cell ad.block (ad.off + (i * a.size + j)) u) len fun i hi => by
            obtain ⟨us, d', ps', k1, k2⟩ := hel i hi
            rw [h2] at k1
            obtain ⟨q1, q2⟩ := cells_some k1
            obtain ⟨x, hx⟩ := trod_rep.1 h1 k2
            have hcell : ∀ (j : Nat) u, us[j]? = some u → (memOf w).cell ad.block (ad.off + (i * a.size + j)) u := fun j u hu => by
              obtain ⟨_, g2⟩ := cell_mem (q2 j u hu)
              rw [(add_off _ _).1, (add_off _ _).1, (add_off _ _).2, (add_off _ _).2, Nat.add_assoc] at g2
              exact g2
            have hspot : ad.spot = none := by
              obtain ⟨us0, _, _, k1, _⟩ := hel 0 (by omega)
              rw [h2, Nat.zero_mul, add_zero'] at k1
              obtain ⟨q1, q2⟩ := cells_some k1
              have h0 : 0 < us0.length := by omega
              have := (cell_mem (q2 0 us0[0] (List.getElem?_eq_getElem h0))).1
              rwa [add_zero'] at this
            exact ⟨x, hspot, us, hx, q1, hcell⟩
          refine ⟨xs, some ad, cap, ?_, ?_, hcm, fun h => (by cases h), fun p hp i x hx => ?_⟩
          · show _ = [Value.slice (some ad) xs.length cap]
            rw [hl]
          · show xs.length ≤ cap
            omega
          · cases hp
            exact hxs i x hx
    · cases ht
  | .unit => by
    refine ⟨fun h => (by cases h), fun {fs off fuel cs xs} hf hl h => ⟨(), ?_⟩⟩
    have hl : cs.length = off := hl
    show cs.drop off = []
    rw [List.drop_eq_nil_of_le (by omega)]
  | .pair a b => by
    have flds : ∀ {fs : List Field} {off fuel : Nat} {cs : List Value} {xs : List (DataW H × List MemPlace)}, (tyIs P (.pair a b)).2 fs off = true → cs.length = off + (Ty.pair a b).size →
      fs.mapM (fun f => DataW.trod enc P w 0 sp held fuel f.type ((cs.drop f.offset).take (P.cellsOf f.type))) = some xs → ∃ x, Rep (memOf w) (.pair a b) x (cs.drop off) := fun {fs off fuel cs xs} hf hl h => by
      have hl : cs.length = off + (a.size + b.size) := hl
      have hsplit : cs.drop off = (cs.drop off).take a.size ++ cs.drop (off + a.size) := by
        rw [← List.drop_drop, List.take_append_drop]
      have one : ∀ {f : Field} {fs : List Field} {xs : List (DataW H × List MemPlace)}, Nat.beq f.offset off = true → Nat.beq (P.cellsOf f.type) a.size = true → (tyIs P a).1 f.type = true →
          (f :: fs).mapM (fun f => DataW.trod enc P w 0 sp held fuel f.type ((cs.drop f.offset).take (P.cellsOf f.type))) = some xs → (∃ y, Rep (memOf w) b y (cs.drop (off + a.size))) → ∃ x, Rep (memOf w) (.pair a b) x (cs.drop off) := fun {f fs xs} e1 e2 e3 h hb => by
        obtain ⟨⟨⟨d, ps⟩, h1⟩, _⟩ := fields_cons h
        rw [Nat.eq_of_beq_eq_true e1, Nat.eq_of_beq_eq_true e2] at h1
        obtain ⟨x, hx⟩ := trod_rep.1 e3 h1
        obtain ⟨y, hy⟩ := hb
        exact ⟨(x, y), _, _, hsplit, hx, hy⟩
      simp only [tyIs] at hf
      split at hf
      · cases hf
      · rename_i f
        simp only [Bool.and_eq_true] at hf
        obtain ⟨e1, e2, e3, e4⟩ := hf
        refine one e1 e2 e3 h ?_
        obtain ⟨_, ys, hys⟩ := fields_cons h
        exact trod_rep.2 e4 (by omega) hys
      · rename_i f g
        simp only [Bool.and_eq_true] at hf
        obtain ⟨e1, e2, e3, e4, e5, e6⟩ := hf
        refine one e1 e2 e3 h ?_
        obtain ⟨_, ys, hys⟩ := fields_cons h
        obtain ⟨⟨⟨d, ps⟩, h1⟩, _⟩ := fields_cons hys
        rw [Nat.eq_of_beq_eq_true e4, Nat.eq_of_beq_eq_true e5] at h1
        obtain ⟨y, hy⟩ := trod_rep.1 e6 h1
        rw [List.take_of_length_le (by simp; omega)] at hy
        exact ⟨y, hy⟩
      · rename_i f fs _ _
        simp only [Bool.and_eq_true] at hf
        obtain ⟨e1, e2, e3, e4⟩ := hf
        refine one e1 e2 e3 h ?_
        obtain ⟨_, ys, hys⟩ := fields_cons h
        exact trod_rep.2 e4 (by omega) hys
    refine ⟨fun {t fuel cs d ps} ht h => ?_, flds⟩
    have ht0 := ht
    simp only [tyIs] at ht0
    split at ht0
    · rename_i fs hu
      have hb := (Bool.and_eq_true _ _ ▸ ht0 : _ ∧ _)
      have hsz := Nat.eq_of_beq_eq_true hb.1
      cases fuel with
      | zero => cases h
      | succ fuel =>
        obtain ⟨hl, xs, hxs⟩ := trod_struct hu h
        obtain ⟨x, hx⟩ := flds (fs := fs.toList) (off := 0) (by simp only [tyIs]; exact hb.2) (by rw [hl, hsz]; simp [Ty.size]) hxs
        exact ⟨x, by simpa using hx⟩
    · cases ht0

/-- An argument that is well-formed and reads as data bears data. -/
theorem val_rep {H : Type} {enc : TypeId × Value → H} {sp : Nat → Bool} {held : Bool} {ty : Ty} {t base : Nat} {r : Reach} {v : Value} {d : DataW H} {ps : List MemPlace} (ht : (tyIs P ty).1 t = true) (hk : Value.okWide P w r base t v)
    (h : DataW.Trod enc P w 0 sp held t v d ps) : ∃ x, VRep (memOf w) ty x v := by
  obtain ⟨fuel, h⟩ := h
  obtain ⟨x, hx⟩ := trod_rep.1 ht h
  refine ⟨x, ?_⟩
  unfold VRep
  cases ty with
  | int k =>
    simp only [tyIs] at ht
    split at ht
    · rename_i hu; obtain ⟨n, rfl⟩ := okWide_int hu hk; exact hx
    · cases ht
  | bool =>
    simp only [tyIs] at ht
    split at ht
    · rename_i hu; obtain ⟨n, rfl⟩ := okWide_bool hu hk; exact hx
    · cases ht
  | str =>
    simp only [tyIs] at ht
    split at ht
    · rename_i hu; obtain ⟨n, rfl⟩ := okWide_string hu hk; exact hx
    · cases ht
  | list a =>
    simp only [tyIs] at ht
    split at ht
    · rename_i e hu; obtain ⟨a, len, cap, rfl⟩ := okWide_slice hu hk; exact hx
    · cases ht
  | unit => cases ht
  | ref _ => cases ht
  | ptr _ => cases ht
  | clo _ _ => cases ht
  | pair a b =>
    simp only [tyIs] at ht
    split at ht
    · rename_i fs hu
      simp only [Value.okWide, hu] at hk
      obtain ⟨cs, rfl, _⟩ := hk
      exact ⟨cs, rfl, hx⟩
    · cases ht

end Go.Vc
