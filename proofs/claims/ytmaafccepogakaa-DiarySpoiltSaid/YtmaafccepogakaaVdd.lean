/-
  Plain facts about a diary's bytes: what is put is read; a byte that is changed is seen.
-/
import Derived.Test.YtmaafccepogakaaVdc
set_option maxRecDepth 100000
set_option linter.unusedVariables false
set_option linter.unusedSimpArgs false
set_option maxHeartbeats 1000000
namespace Go.Proofs
open Go Go.Vc
namespace Ytmaafccepogakaa

theorem fIn_iff {lo hi n : Int} : fIn lo hi n = true ↔ lo ≤ n ∧ n ≤ hi := by simp [fIn]

/-- An entry that may be. -/
structure May (m n : Int) (e : EntryD) : Prop where
  m0 : 0 ≤ m ∧ m ≤ 40
  n0 : 0 ≤ n ∧ n ≤ 24
  occ : (e.1.1.length : Int) = m
  pos : (e.1.2.1.length : Int) = m
  loop : (e.1.2.2.1.length : Int) = n
  held : (e.1.2.2.2.length : Int) = n
  ps : ∀ p ∈ e.1.2.1, 0 ≤ p ∧ p ≤ 2
  calls : e.2.1.length ≤ 200
  cancels : e.2.2.length ≤ 200
  cs : ∀ p ∈ e.2.1, 0 ≤ p ∧ p ≤ 255
  ds : ∀ p ∈ e.2.2, 0 ≤ p ∧ p ≤ 255

theorem fMay_iff {m n : Int} {e : EntryD} : fMay m n e = true ↔ May m n e := by
  unfold fMay
  simp only [Bool.and_eq_true, fIn_iff, beq_iff_eq, List.all_eq_true, decide_eq_true_eq]
  constructor
  · rintro ⟨⟨⟨⟨⟨⟨⟨h1, h2⟩, ⟨⟨⟨h3, h4⟩, h5⟩, h6⟩⟩, h7⟩, h8⟩, h9⟩, h10⟩, h11⟩
    exact ⟨h1, h2, h3, h4, h5, h6, h7, h8, h9, h10, h11⟩
  · rintro ⟨h1, h2, h3, h4, h5, h6, h7, h8, h9, h10, h11⟩
    exact ⟨⟨⟨⟨⟨⟨⟨h1, h2⟩, ⟨⟨⟨h3, h4⟩, h5⟩, h6⟩⟩, h7⟩, h8⟩, h9⟩, h10⟩, h11⟩

theorem May.lens {m n : Int} {e : EntryD} (h : May m n e) : shortE e := by
  have := h.m0; have := h.n0; have := h.occ; have := h.pos; have := h.loop; have := h.held; have := h.calls; have := h.cancels
  unfold shortE short
  omega

theorem fTwo_length (n : Int) : (fTwo n).length = 2 := rfl

theorem fRow_length (l : List Int) : (fRow l).length = l.length + 1 := rfl

theorem fBody_length {m n : Int} {e : EntryD} (h : May m n e) : ((fBody e).length : Int) = m + n + 2 + e.2.1.length + e.2.2.length := by
  have := h.m0; have := h.n0; have := h.occ; have := h.pos; have := h.loop; have := h.held
  simp only [fBody, List.length_append, List.length_zipWith, fRow_length]
  omega

theorem fBody_bytes {m n : Int} {e : EntryD} (h : May m n e) : bytes (fBody e) := by
  have hz : ∀ (p : List Int) (o : List Bool), (∀ x ∈ p, 0 ≤ x ∧ x ≤ 2) → bytes (List.zipWith fPos p o) := by
    intro p
    induction p with
    | nil => intro o _ x hx; simp at hx
    | cons a p ih =>
      intro o hp x hx
      cases o with
      | nil => simp at hx
      | cons b o =>
        simp only [List.zipWith_cons_cons, List.mem_cons] at hx
        rcases hx with rfl | hx
        · have := hp a List.mem_cons_self
          cases b <;> simp [fPos] <;> omega
        · exact ih o (fun x hx => hp x (List.mem_cons_of_mem _ hx)) x hx
  have hl : ∀ (p o : List Bool), bytes (List.zipWith fLoop p o) := by
    intro p
    induction p with
    | nil => intro o x hx; simp at hx
    | cons a p ih =>
      intro o x hx
      cases o with
      | nil => simp at hx
      | cons b o =>
        simp only [List.zipWith_cons_cons, List.mem_cons] at hx
        rcases hx with rfl | hx
        · cases a <;> cases b <;> simp [fLoop]
        · exact ih o x hx
  intro x hx
  simp only [fBody, List.mem_append, fRow, List.mem_cons] at hx
  have h1 := h.calls
  have h2 := h.cancels
  rcases hx with hx | hx | (rfl | hx) | (rfl | hx)
  · exact hz _ _ h.ps x hx
  · exact hl _ _ x hx
  · omega
  · exact h.cs x hx
  · omega
  · exact h.ds x hx

/-! ### What is put is read -/

theorem zip_pos : ∀ (p : List Int) (o : List Bool), p.length = o.length → (∀ x ∈ p, 0 ≤ x ∧ x ≤ 2) →
    (List.zipWith fPos p o).map (fun x => x % 4) = p ∧ (List.zipWith fPos p o).map (fun x => decide (x / 4 % 2 = 1)) = o ∧ (List.zipWith fPos p o).map (fun x => decide (x ≥ 4)) = o
  | [], [], _, _ => ⟨rfl, rfl, rfl⟩
  | a :: p, b :: o, hl, hp => by
    obtain ⟨h1, h2, h3⟩ := zip_pos p o (by simpa using hl) fun x hx => hp x (List.mem_cons_of_mem _ hx)
    have ha := hp a List.mem_cons_self
    have : a = 0 ∨ a = 1 ∨ a = 2 := by omega
    simp only [List.zipWith_cons_cons, List.map_cons, h1, h2, h3]
    rcases this with rfl | rfl | rfl <;> cases b <;> simp [fPos]
  | [], _ :: _, h, _ => by simp at h
  | _ :: _, [], h, _ => by simp at h

theorem zip_loop : ∀ (p o : List Bool), p.length = o.length →
    (List.zipWith fLoop p o).map (fun x => decide (x % 2 = 1)) = p ∧ (List.zipWith fLoop p o).map (fun x => decide (x / 2 % 2 = 1)) = o ∧ (List.zipWith fLoop p o).map (fun x => decide (x ≥ 2)) = o
  | [], [], _ => ⟨rfl, rfl, rfl⟩
  | a :: p, b :: o, hl => by
    obtain ⟨h1, h2, h3⟩ := zip_loop p o (by simpa using hl)
    simp only [List.zipWith_cons_cons, List.map_cons, h1, h2, h3]
    cases a <;> cases b <;> simp [fLoop]
  | [], _ :: _, h => by simp at h
  | _ :: _, [], h => by simp at h

theorem fTake_row (l r : List Int) : fTake (fRow l ++ r) = (l, r, true) := by
  simp only [fTake, fRow, List.cons_append]
  rw [if_neg (by simp; omega)]
  simp

theorem fEntryP_body {m n : Int} {e : EntryD} (h : May m n e) : fEntryP m.toNat n.toNat (fBody e) = (e, true) := by
  have h1 := h.occ; have h2 := h.pos; have h3 := h.loop; have h4 := h.held
  have z1 := zip_pos e.1.2.1 e.1.1 (by omega) h.ps
  have z2 := zip_loop e.1.2.2.1 e.1.2.2.2 (by omega)
  have lz : (List.zipWith fPos e.1.2.1 e.1.1).length = m.toNat := by simp; omega
  have lw : (List.zipWith fLoop e.1.2.2.1 e.1.2.2.2).length = n.toNat := by simp; omega
  have hb := fBody_length h
  unfold fEntryP
  rw [if_neg (by omega)]
  have t1 : (fBody e).take m.toNat = List.zipWith fPos e.1.2.1 e.1.1 := by unfold fBody; rw [List.take_left' lz]
  have t2 : ((fBody e).drop m.toNat).take n.toNat = List.zipWith fLoop e.1.2.2.1 e.1.2.2.2 := by unfold fBody; rw [List.drop_left' lz, List.take_left' lw]
  have t3 : (fBody e).drop (m.toNat + n.toNat) = fRow e.2.1 ++ (fRow e.2.2 ++ []) := by
    unfold fBody
    rw [← List.drop_drop, List.drop_left' lz, List.drop_left' lw, List.append_nil]
  simp only [t1, t2, t3, fTake_row, z1.1, z1.2.1, z2.1, z2.2.1]
  rfl

theorem fHead_length {m n : Int} {e : EntryD} (h : May m n e) : (fHead e).length = (fBody e).length + 2 := by
  simp [fHead, fTwo_length]; omega

theorem fPut_may {m n : Int} {e : EntryD} (h : May m n e) : fPut m n e = fHead e ++ fTwo (fCheck (fHead e)) := by
  unfold fPut
  rw [fMay_iff.2 h]
  rfl

theorem fPut_not {m n : Int} {e : EntryD} (h : ¬ May m n e) : fPut m n e = [] := by
  unfold fPut
  cases hm : fMay m n e with
  | true => exact absurd (fMay_iff.1 hm) h
  | false => rfl

theorem fPut_length {m n : Int} {e : EntryD} (h : May m n e) : (fPut m n e).length = (fBody e).length + 4 := by
  rw [fPut_may h]
  simp [fHead_length h, fTwo_length]

theorem fPut_short {m n : Int} {e : EntryD} : (fPut m n e).length ≤ 1000 := by
  by_cases h : May m n e
  · rw [fPut_length h]
    have := fBody_length h; have := h.m0; have := h.n0; have := h.calls; have := h.cancels
    omega
  · rw [fPut_not h]; simp

theorem May.of_put {m n : Int} {e : EntryD} (h : fPut m n e ≠ []) : May m n e := Classical.byContradiction fun k => h (fPut_not k)

theorem fPut_bytes {m n : Int} {e : EntryD} : bytes (fPut m n e) := by
  by_cases h : May m n e
  · rw [fPut_may h]
    intro x hx
    have hb := fBody_length h
    have := h.m0; have := h.n0; have := h.calls; have := h.cancels
    have hc := fCheck_bd (fHead e)
    simp only [fHead, List.mem_append, fTwo, List.mem_cons, List.not_mem_nil, or_false] at hx hc
    rcases hx with ((rfl | rfl) | hx) | (rfl | rfl)
    · omega
    · omega
    · exact fBody_bytes h x hx
    · omega
    · omega
  · rw [fPut_not h]
    intro x hx
    cases hx

theorem fPut_start {m n : Int} {e : EntryD} (h : May m n e) : ∃ r, fPut m n e = ((fBody e).length : Int) / 256 :: (((fBody e).length : Int) % 256) :: r := by
  have hb := fBody_length h
  have := h.m0; have := h.n0; have := h.calls; have := h.cancels
  rw [fPut_may h]
  refine ⟨fBody e ++ fTwo (fCheck (fHead e)), ?_⟩
  simp only [fHead, fTwo, List.cons_append, List.nil_append]
  congr 1
  omega

/-- The first entry of bytes that begin with one. -/
theorem fFirst_put {m n : Int} {e : EntryD} (h : May m n e) (r : List Int) : fFirst m.toNat n.toNat (fPut m n e ++ r) = some (e, (fPut m n e).length) := by
  have hl := fPut_length h
  obtain ⟨q, hq⟩ := fPut_start h
  have g0 : (fPut m n e ++ r).getD 0 0 = (fBody e).length / 256 := by rw [hq]; rfl
  have g1 : (fPut m n e ++ r).getD 1 0 = (fBody e).length % 256 := by rw [hq]; rfl
  have hN : ((fPut m n e ++ r).getD 0 0 * 256 + (fPut m n e ++ r).getD 1 0).toNat = (fBody e).length := by rw [g0, g1]; omega
  have hd : ((fPut m n e ++ r).drop 2).take (fBody e).length = fBody e := by
    rw [fPut_may h]
    simp only [fHead, fTwo, List.cons_append, List.nil_append, List.append_assoc, List.drop_succ_cons, List.drop_zero]
    rw [List.take_left' rfl]
  have ht : (fPut m n e ++ r).take ((fBody e).length + 4) = fPut m n e := by rw [List.take_left' hl]
  have hmn := h.m0
  have hnn := h.n0
  unfold fFirst
  rw [if_neg (by simp; omega)]
  simp only [hN]
  rw [if_neg (by simp; omega)]
  simp only [hd, fEntryP_body h, ht]
  rw [Int.toNat_of_nonneg hmn.1, Int.toNat_of_nonneg hnn.1]
  simp [hl]

/-- What the first entry is. -/
theorem fFirst_some {m n : Int} {b : List Int} {e : EntryD} {k : Nat} (hm : 0 ≤ m) (hn : 0 ≤ n) (h : fFirst m.toNat n.toNat b = some (e, k)) : May m n e ∧ k = (fPut m n e).length ∧ k ≤ b.length ∧ b = fPut m n e ++ b.drop k := by
  unfold fFirst at h
  split at h
  · cases h
  · simp only at h
    split at h
    · cases h
    · split at h
      · rename_i h1 h2 h3
        cases h
        simp only [Bool.and_eq_true, beq_iff_eq] at h3
        obtain ⟨_, h4⟩ := h3
        rw [Int.toNat_of_nonneg hm, Int.toNat_of_nonneg hn] at h4
        have hl : (b.take ((b.getD 0 0 * 256 + b.getD 1 0).toNat + 4)).length = (b.getD 0 0 * 256 + b.getD 1 0).toNat + 4 := by rw [List.length_take]; omega
        have hne : fPut m n (fEntryP m.toNat n.toNat ((b.drop 2).take (b.getD 0 0 * 256 + b.getD 1 0).toNat)).1 ≠ [] := by
          rw [h4]
          intro h0
          rw [h0] at hl
          simp at hl
        refine ⟨.of_put hne, by rw [h4, hl], by omega, ?_⟩
        rw [h4, List.take_append_drop]
      · cases h

theorem fFirst_pos {m n : Int} {b : List Int} {e : EntryD} {k : Nat} (hm : 0 ≤ m) (hn : 0 ≤ n) (h : fFirst m.toNat n.toNat b = some (e, k)) : 4 ≤ k := by
  obtain ⟨h1, h2, _⟩ := fFirst_some hm hn h
  rw [h2, fPut_length h1]
  omega

theorem fReads_succ (m n k : Nat) (b : List Int) : fReads m n (k + 1) b = match fFirst m n b with
    | none => ([], 0)
    | some (e, c) => (e :: (fReads m n k (b.drop c)).1, (c : Int) + (fReads m n k (b.drop c)).2) := rfl

theorem fReads_enough {m n : Int} (hm : 0 ≤ m) (hn : 0 ≤ n) : ∀ (k : Nat) (b : List Int), b.length ≤ k → fReads m.toNat n.toNat k b = fReads m.toNat n.toNat b.length b := by
  intro k
  induction k using Nat.strongRecOn with
  | ind k ih =>
    intro b hb
    have key : ∀ j, j ≤ k → b.length ≤ j → fReads m.toNat n.toNat j b = match fFirst m.toNat n.toNat b with
      | none => ([], 0)
      | some (e, c) => (e :: (fReads m.toNat n.toNat (b.drop c).length (b.drop c)).1, (c : Int) + (fReads m.toNat n.toNat (b.drop c).length (b.drop c)).2) := by
      intro j hj hbj
      cases j with
      | zero =>
        have : b = [] := List.eq_nil_of_length_eq_zero (by omega)
        subst this
        rfl
      | succ j =>
        rw [fReads_succ]
        cases hf : fFirst m.toNat n.toNat b with
        | none => rfl
        | some p =>
          obtain ⟨e, c⟩ := p
          have h4 := fFirst_pos hm hn hf
          obtain ⟨_, _, h5, _⟩ := fFirst_some hm hn hf
          simp only
          rw [ih j (by omega) (b.drop c) (by simp; omega)]
    rw [key k (Nat.le_refl _) hb, key b.length hb (Nat.le_refl _)]

theorem fR_step {m n : Int} (hm : 0 ≤ m) (hn : 0 ≤ n) (b : List Int) : fR m n b = match fFirst m.toNat n.toNat b with
    | none => ([], 0)
    | some (e, c) => (e :: (fR m n (b.drop c)).1, (c : Int) + (fR m n (b.drop c)).2) := by
  have h := fReads_enough hm hn (b.length + 1) b (by omega)
  unfold fR
  rw [← h, fReads_succ]
  cases hf : fFirst m.toNat n.toNat b with
  | none => rfl
  | some p =>
    obtain ⟨e, c⟩ := p
    simp only
    rw [fReads_enough hm hn b.length (b.drop c) (by simp)]

theorem fEntryR_put {m n : Int} {e : EntryD} (h : May m n e) : fEntryR m.toNat n.toNat (fPut m n e) = (e, true) := by
  have h1 := h.occ; have h2 := h.pos; have h3 := h.loop; have h4 := h.held
  have z1 := zip_pos e.1.2.1 e.1.1 (by omega) h.ps
  have z2 := zip_loop e.1.2.2.1 e.1.2.2.2 (by omega)
  have lz : (List.zipWith fPos e.1.2.1 e.1.1).length = m.toNat := by simp; omega
  have lw : (List.zipWith fLoop e.1.2.2.1 e.1.2.2.2).length = n.toNat := by simp; omega
  have hb := fBody_length h
  have hl := fPut_length h
  have d2 : (fPut m n e).drop 2 = List.zipWith fPos e.1.2.1 e.1.1 ++ (List.zipWith fLoop e.1.2.2.1 e.1.2.2.2 ++ (fRow e.2.1 ++ (fRow e.2.2 ++ fTwo (fCheck (fHead e))))) := by
    rw [fPut_may h]
    simp only [fHead, fBody, fTwo, List.cons_append, List.nil_append, List.append_assoc, List.drop_succ_cons, List.drop_zero]
  have t1 : ((fPut m n e).drop 2).take m.toNat = List.zipWith fPos e.1.2.1 e.1.1 := by rw [d2, List.take_left' lz]
  have t2 : ((fPut m n e).drop (2 + m.toNat)).take n.toNat = List.zipWith fLoop e.1.2.2.1 e.1.2.2.2 := by rw [← List.drop_drop, d2, List.drop_left' lz, List.take_left' lw]
  have t3 : (fPut m n e).drop (2 + m.toNat + n.toNat) = fRow e.2.1 ++ (fRow e.2.2 ++ fTwo (fCheck (fHead e))) := by
    rw [← List.drop_drop, ← List.drop_drop, d2, List.drop_left' lz, List.drop_left' lw]
  unfold fEntryR
  rw [if_neg (by omega)]
  simp only [t1, t2, t3, fTake_row, z1.1, z1.2.2, z2.1, z2.2.2]
  have hmn := h.m0
  have hnn := h.n0
  rw [Int.toNat_of_nonneg hmn.1, Int.toNat_of_nonneg hnn.1]
  simp

/-- The reference's reading of an entry answers as the diary's. -/
theorem fEntryR_first {m n : Int} {b : List Int} (hm : 0 ≤ m) (hn : 0 ≤ n) {k : Nat} (hk : k = (b.getD 0 0 * 256 + b.getD 1 0).toNat) (h4 : 4 ≤ b.length) (hl : k + 4 ≤ b.length) :
    fFirst m.toNat n.toNat b = (if (fEntryR m.toNat n.toNat (b.take (k + 4))).2 = true then some ((fEntryR m.toNat n.toNat (b.take (k + 4))).1, k + 4) else none) := by
  cases hf : fFirst m.toNat n.toNat b with
  | some p =>
    obtain ⟨e, c⟩ := p
    obtain ⟨h1, h2, h3, h5⟩ := fFirst_some hm hn hf
    have hc : c = k + 4 := by
      unfold fFirst at hf
      rw [if_neg (by omega)] at hf
      simp only [← hk] at hf
      rw [if_neg (by omega)] at hf
      split at hf
      · cases hf; rfl
      · cases hf
    have ht : b.take (k + 4) = fPut m n e := by rw [h5, ← hc, List.take_left' h2.symm]
    rw [ht, fEntryR_put h1]
    simp [hc]
  | none =>
    split
    · rename_i h
      exfalso
      have hput : fPut m n (fEntryR m.toNat n.toNat (b.take (k + 4))).1 = b.take (k + 4) := by
        generalize hx : b.take (k + 4) = x at *
        unfold fEntryR at h ⊢
        split at h
        · cases h
        · simp only at h
          split at h
          · cases h
          · split at h
            · cases h
            · rename_i g1 g2 g3
              rw [if_neg g1]
              simp only
              rw [if_neg g2, if_neg g3]
              rw [Int.toNat_of_nonneg hm, Int.toNat_of_nonneg hn] at h
              simpa using h
      have hmay : May m n (fEntryR m.toNat n.toNat (b.take (k + 4))).1 := .of_put (by
        rw [hput]
        intro h0
        have : (b.take (k + 4)).length = k + 4 := by simp; omega
        rw [h0] at this
        simp at this)
      have := fFirst_put hmay (b.drop (k + 4))
      rw [hput, List.take_append_drop, hf] at this
      cases this
    · rfl

/-! ### A byte that is changed -/

theorem step_inj {c d x : Int} (hc : 0 ≤ c ∧ c ≤ 65520) (hd : 0 ≤ d ∧ d ≤ 65520) (h : (257 * c + x + 1) % 65521 = (257 * d + x + 1) % 65521) : c = d := by omega

theorem fold_inj : ∀ (l : List Int) {c d : Int}, (0 ≤ c ∧ c ≤ 65520) → (0 ≤ d ∧ d ≤ 65520) → l.foldl (fun c x => (257 * c + x + 1) % 65521) c = l.foldl (fun c x => (257 * c + x + 1) % 65521) d → c = d
  | [], _, _, _, _, h => h
  | x :: l, c, d, hc, hd, h => step_inj hc hd (fold_inj l (by omega) (by omega) h)

theorem fCheck_change {l r : List Int} {x y : Int} (hx : 0 ≤ x ∧ x ≤ 255) (hy : 0 ≤ y ∧ y ≤ 255) (h : fCheck (l ++ x :: r) = fCheck (l ++ y :: r)) : x = y := by
  unfold fCheck at h
  rw [List.foldl_append, List.foldl_append] at h
  simp only [List.foldl_cons] at h
  have := fold_inj r (by omega) (by omega) h
  omega

theorem fTwo_inj {a b : Int} (ha : 0 ≤ a ∧ a < 65536) (hb : 0 ≤ b ∧ b < 65536) (h : fTwo a = fTwo b) : a = b := by
  simp only [fTwo, List.cons.injEq, and_true] at h
  omega

theorem fSame_iff {a b : EntryD} : fSame a b = true ↔ a = b := by
  obtain ⟨⟨a1, a2, a3, a4⟩, a5, a6⟩ := a
  obtain ⟨⟨b1, b2, b3, b4⟩, b5, b6⟩ := b
  simp only [fSame, Bool.and_eq_true, beq_iff_eq, Prod.mk.injEq]
  constructor
  · rintro ⟨h1, h2, h3, h4, h5, h6⟩; exact ⟨⟨h1, h2, h3, h4⟩, h5, h6⟩
  · rintro ⟨⟨h1, h2, h3, h4⟩, h5, h6⟩; exact ⟨h1, h2, h3, h4, h5, h6⟩

theorem fPut_inj {m n : Int} {a b : EntryD} (ha : May m n a) (hb : May m n b) (h : fPut m n a = fPut m n b) : a = b := by
  have h1 := fFirst_put ha []
  have h2 := fFirst_put hb []
  rw [h, h2] at h1
  simp only [Option.some.injEq, Prod.mk.injEq] at h1
  exact h1.1.symm

/-- An entry in which one byte behind the length is another one is none. -/
theorem fFirst_spoilt {m n : Int} {e : EntryD} (h : May m n e) {j : Nat} (h2 : 2 ≤ j) (hj : j < (fPut m n e).length) {c : Int} (hc : 0 ≤ c ∧ c ≤ 255) (hne : (fPut m n e).getD j 0 ≠ c) (r : List Int) :
    fFirst m.toNat n.toNat ((fPut m n e).set j c ++ r) = none := by
  cases hf : fFirst m.toNat n.toNat ((fPut m n e).set j c ++ r) with
  | none => rfl
  | some p =>
    exfalso
    obtain ⟨e', k⟩ := p
    have hmn := h.m0
    have hnn := h.n0
    obtain ⟨g1, g2, g3, g4⟩ := fFirst_some hmn.1 hnn.1 hf
    -- the lengths are the same
    obtain ⟨q, hq⟩ := fPut_start h
    obtain ⟨q', hq'⟩ := fPut_start g1
    have hb := fBody_length h
    have hb' := fBody_length g1
    have b1 := h.calls; have b2 := h.cancels; have b3 := g1.calls; have b4 := g1.cancels
    have hs : (fPut m n e).set j c = ((fBody e).length : Int) / 256 :: (((fBody e).length : Int) % 256) :: q.set (j - 2) c := by
      rw [hq]
      obtain ⟨i, rfl⟩ : ∃ i, j = i + 2 := ⟨j - 2, by omega⟩
      rfl
    rw [hs, hq'] at g4
    simp only [List.cons_append, List.cons.injEq] at g4
    have hlen : (fBody e).length = (fBody e').length := by omega
    have hl := fPut_length h
    have hl' := fPut_length g1
    have heq : (fPut m n e).set j c = fPut m n e' := by
      have e1 : ((fPut m n e).set j c ++ r).take (fPut m n e).length = (fPut m n e).set j c := by rw [List.take_left' (by simp)]
      have e2 : ((fPut m n e).set j c ++ r).take (fPut m n e).length = fPut m n e' := by
        have g4' := (fFirst_some hmn.1 hnn.1 hf).2.2.2
        rw [g4', List.take_left' (by omega)]
      rw [← e1, e2]
    -- the head, and the check
    have hhl := fHead_length h
    have hhl' := fHead_length g1
    have c1 := fCheck_bd (fHead e)
    have c2 := fCheck_bd (fHead e')
    rw [fPut_may h, fPut_may g1] at heq
    rw [fPut_may h] at hne hj
    have hbytes : bytes (fHead e) := by
      have := fPut_bytes (m := m) (n := n) (e := e)
      rw [fPut_may h] at this
      exact fun x hx => this x (List.mem_append_left _ hx)
    by_cases hjh : j < (fHead e).length
    · rw [List.set_append_left _ _ hjh] at heq
      obtain ⟨k1, k2⟩ := List.append_inj heq (by simp; omega)
      have k3 := fTwo_inj (by omega) (by omega) k2
      rw [← k1] at k3
      have hold : fHead e = (fHead e).take j ++ (fHead e)[j] :: (fHead e).drop (j + 1) := by
        rw [List.getElem_cons_drop]; exact (List.take_append_drop _ _).symm
      have hset : (fHead e).set j c = (fHead e).take j ++ c :: (fHead e).drop (j + 1) := List.set_eq_take_append_cons_drop.trans (if_pos hjh)
      rw [hset] at k3
      rw [hold] at k3
      have hxj : (fHead e)[j] = c := by
        have k4 : fCheck ((fHead e).take j ++ (fHead e)[j] :: (fHead e).drop (j + 1)) = fCheck ((fHead e).take j ++ c :: (fHead e).drop (j + 1)) := by
          have a1 : ((fHead e).take j ++ (fHead e)[j] :: (fHead e).drop (j + 1)) = fHead e := hold.symm
          simp only [a1] at k3 ⊢
          exact k3
        exact fCheck_change (hbytes _ (List.getElem_mem hjh)) hc k4
      apply hne
      rw [← hxj]
      simp [List.getD_eq_getElem?_getD, List.getElem?_append_left hjh, List.getElem?_eq_getElem hjh]
    · rw [List.set_append_right _ _ (by omega)] at heq
      obtain ⟨k1, k2⟩ := List.append_inj heq (by omega)
      rw [← k1] at k2
      apply hne
      have hi : j - (fHead e).length < (fTwo (fCheck (fHead e))).length := by simp at hj; omega
      have : ((fTwo (fCheck (fHead e))).set (j - (fHead e).length) c)[j - (fHead e).length]? = some c := by
        rw [List.getElem?_set_self hi]
      rw [k2] at this
      simp [List.getD_eq_getElem?_getD, List.getElem?_append_right (show (fHead e).length ≤ j by omega), this]

end Ytmaafccepogakaa
end Go.Proofs
