/-
  The bank: who is free; what is behind a leg; copies, searches.
-/
import Derived.Test.YtghpaejpccpgeaaVbd
set_option maxRecDepth 100000
set_option linter.unusedVariables false
set_option linter.unusedSimpArgs false
set_option maxHeartbeats 1000000
namespace Go.Proofs
open Go Go.Vc
namespace Ytghpaejpccpgeaa

theorem fEls_iff {l : List Int} : fEls l = true ↔ l.length ≤ 40 ∧ ∀ x ∈ l, 0 ≤ x ∧ x ≤ 39 := by
  unfold fEls
  rw [Bool.and_eq_true, decide_eq_true_eq, List.all_eq_true]
  exact ⟨fun h => ⟨h.1, fun x hx => fEl_iff.1 (h.2 x hx)⟩, fun h => ⟨h.1, fun x hx => fEl_iff.2 (h.2 x hx)⟩⟩

/-- A claim that may be. -/
structure MayC (c : ClaimD) : Prop where
  legs : c.2.length ≤ 12
  at_ : c.1.length ≤ 40 ∧ ∀ x ∈ c.1, 0 ≤ x ∧ x ≤ 39
  want : ∀ w ∈ c.2, (w.1.length ≤ 40 ∧ ∀ x ∈ w.1, 0 ≤ x ∧ x ≤ 39) ∧ -1 ≤ w.2 ∧ w.2 ≤ 39

theorem fClaim_iff {c : ClaimD} : fClaim c = true ↔ MayC c := by
  unfold fClaim fWant
  simp only [Bool.and_eq_true, decide_eq_true_eq, List.all_eq_true, fEls_iff]
  constructor
  · rintro ⟨h1, h2, h3⟩
    exact ⟨h1, h2, fun w hw => ⟨(h3 w hw).1, by have := (h3 w hw).2; simpa [fIn] using this⟩⟩
  · rintro ⟨h1, h2, h3⟩
    exact ⟨h1, h2, fun w hw => ⟨(h3 w hw).1, by simpa [fIn] using (h3 w hw).2⟩⟩

theorem fMay_iff {l : List ClaimD} : fMay l = true ↔ l.length ≤ 8 ∧ ∀ c ∈ l, MayC c := by
  unfold fMay
  rw [Bool.and_eq_true, decide_eq_true_eq, List.all_eq_true]
  exact ⟨fun h => ⟨h.1, fun x hx => fClaim_iff.1 (h.2 x hx)⟩, fun h => ⟨h.1, fun x hx => fClaim_iff.2 (h.2 x hx)⟩⟩

theorem MayC.short {c : ClaimD} (h : MayC c) : shortC c := by
  have h1 := h.legs; have h2 := h.at_
  refine ⟨?_, ?_, fun w hw => ?_⟩
  · show c.1.length ≤ 1000000; omega
  · show c.2.length ≤ 1000000; omega
  · have := (h.want w hw).1
    show w.1.length ≤ 1000000; omega

theorem may_short {l : List ClaimD} (h : fMay l = true) : shortL l := by
  obtain ⟨h1, h2⟩ := fMay_iff.1 h
  exact ⟨by show l.length ≤ 1000000; omega, fun c hc => (h2 c hc).short⟩

theorem and_zero {a b : Nat} : a &&& b = 0 ↔ ∀ i, ¬ (a.testBit i = true ∧ b.testBit i = true) := by
  constructor
  · intro h i hi
    have : (a &&& b).testBit i = true := by rw [Nat.testBit_and, hi.1, hi.2]; rfl
    rw [h] at this
    simp at this
  · intro h
    apply Nat.eq_of_testBit_eq
    intro i
    rw [Nat.testBit_and, Nat.zero_testBit]
    have := h i
    cases ha : a.testBit i <;> cases hb : b.testBit i <;> simp_all

theorem fClear_iff {l : List ClaimD} {k : Int} {free : List Int} : fClear l k free = true ↔ ∀ j : Nat, j < l.length → (j : Int) ≠ k → ∀ e ∈ (l.getD j zeroC).1, e ∉ free := by
  unfold fClear
  rw [List.all_eq_true]
  constructor
  · intro h j hj hk e he hf
    have := h j (List.mem_range.2 hj)
    unfold fClearAt at this
    rw [beq_eq_false_iff_ne.2 hk, Bool.false_or, Bool.not_eq_true', List.any_eq_false] at this
    exact this e he (List.contains_iff_mem.2 hf)
  · intro h j hj
    have hj := List.mem_range.1 hj
    unfold fClearAt
    by_cases hk : (j : Int) = k
    · rw [beq_iff_eq.2 hk]; rfl
    · rw [beq_eq_false_iff_ne.2 hk, Bool.false_or, Bool.not_eq_true', List.any_eq_false]
      intro e he hf
      exact h j hj hk e he (List.contains_iff_mem.1 hf)

/-- Bits tell what is clear. -/
theorem clear_bits {l : List ClaimD} (h : fMay l = true) (k : Int) (free : List Int) : ((bitsOf .and .u64 (fOthers l k : Int) (fOf free : Int)) == 0) = fClear l k free := by
  obtain ⟨h1, h2⟩ := fMay_iff.1 h
  rw [and64 (fOthers l k) (fOf free) (others_lt _ _ _) (fOf_lt _)]
  rw [Bool.eq_iff_iff, beq_iff_eq, fClear_iff]
  have : (((fOthers l k &&& fOf free : Nat) : Int) = 0) ↔ fOthers l k &&& fOf free = 0 := by omega
  rw [this, and_zero]
  constructor
  · intro g j hj hk e he hf
    have := ((h2 _ (mem_getD zeroC hj)).at_.2 e he)
    refine g e.toNat ⟨(others_bit _ _ _ _).2 ⟨by omega, j, hj, hk, ?_⟩, (fOf_bit _ _).2 ⟨by omega, ?_⟩⟩
    · rw [Int.toNat_of_nonneg this.1]; exact he
    · rw [Int.toNat_of_nonneg this.1]; exact hf
  · rintro g i ⟨g1, g2⟩
    obtain ⟨_, j, hj, hk, he⟩ := (others_bit _ _ _ _).1 g1
    exact g j hj hk _ he ((fOf_bit _ _).1 g2).2

theorem legs_shape {l : List ClaimD} {k : Int} {y2 y4 : Bool} (e2 : y2 = bif decide (k ≥ (0 : Int)) then decide (k < (l.length : Int)) else false)
    (e4 : y4 = bif y2 then decide (((l.getD k.toNat zeroC).2.length : Int) > 0) else false) : (y2 = true → InB k l.length) ∧ (y4 = true → InB k l.length ∧ 0 < (l.getD k.toNat zeroC).2.length) ∧
    ∀ b : Bool, (b = fClear l k ((l.getD k.toNat zeroC).2.getD 0 ([], 0)).1) → (bif y4 then b else false) = fFree l k := by
  have h2 : y2 = true → InB k l.length := fun h => by
    rw [e2] at h
    cases hk : decide (k ≥ 0) <;> rw [hk] at h
    · cases h
    · have := of_decide_eq_true hk
      have := of_decide_eq_true h
      exact ⟨by omega, by omega⟩
  refine ⟨h2, fun h => ?_, fun b hb => ?_⟩
  · rw [h] at e4
    cases hy : y2 <;> rw [hy] at e4
    · cases e4
    · have := of_decide_eq_true e4.symm
      exact ⟨h2 hy, by omega⟩
  · rw [hb, e4, e2]
    unfold fFree
    have d1 : decide (((l.getD k.toNat zeroC).2.length : Int) > 0) = decide (0 < (l.getD k.toNat zeroC).2.length) := decide_eq_decide.2 (by omega)
    rw [d1]
    show _ = (decide (k ≥ 0) && _)
    cases decide (k ≥ 0) <;> cases decide (k < (l.length : Int)) <;> cases decide (0 < (l.getD k.toNat zeroC).2.length) <;> rfl

theorem v18 (l : List (List Int × List (List Int × Int))) (k : Int) : bodyVC (ctxOf tab [(34, c34), (37, c37)]) Try.f18 c18 noAnn (l, k, ()) = (
lett (bif decide (k ≥ (0 : Int)) then decide (k < (↑l.length : Int)) else false) fun (y2 : Bool) =>
lett (l.getD k.toNat ([], [])).snd fun (y3 : List (List Int × Int)) =>
lett (bif y2 then decide ((↑y3.length : Int) > (0 : Int)) else false) fun (y4 : Bool) =>
lett (y3.getD (Int.toNat (0 : Int)) ([], (0 : Int))).fst fun (y5 : List Int) =>
(y2 = true → InB k l.length) ∧
(y4 = true → shortL l) ∧
(y4 = true → InB k l.length) ∧
(y4 = true → InB (0 : Int) y3.length) ∧
(y4 = true → short y5) ∧ (bif y4 then bitsOf BinOp.and IntKind.u64 (↑(fOthers l k) : Int) (↑(fOf y5) : Int) == (0 : Int) else false) = fFree l k ∧ True) := by kernel_rfl

theorem b18 (l : List ClaimD) (k : Int) (hm : fMay l = true) : bodyVC (ctxOf tab [(34, c34), (37, c37)]) Try.f18 c18 noAnn (l, k, ()) := by
  rw [v18]
  refine lett.mk fun y2 e2 => lett.mk fun y3 e3 => lett.mk fun y4 e4 => lett.mk fun y5 e5 => ?_
  have e3 : y3 = (l.getD k.toNat zeroC).2 := e3
  rw [e3] at e4
  obtain ⟨s2, s4, sb⟩ := legs_shape e2 e4
  have hs := may_short hm
  refine ⟨s2, fun _ => hs, fun h => (s4 h).1, fun h => ⟨by omega, by rw [e3]; have := (s4 h).2; omega⟩, fun h => ?_, ?_, trivial⟩
  · obtain ⟨⟨k1, k2⟩, h0⟩ := s4 h
    rw [e5, e3]
    exact (hs.2 _ (mem_getD zeroC (by omega))).2.2 _ (mem_getD _ h0)
  · refine sb _ ?_
    rw [clear_bits hm, e5, e3]
    rfl

theorem ok18 : DOk Try.prog 18 c18 :=
  DOk.of' (l := [(34, c34), (37, c37)]) (A := fun _ => noAnn) tabOk ⟨ok34, ok37, trivial⟩ Try.func18 (by kernel_rfl) (by kernel_rfl) fun x _ hp => b18 x.1 x.2.1 hp

theorem v19 (l : List (List Int × List (List Int × Int))) (k : Int) : bodyVC (ctxOf tab [(38, c38)]) Try.f19 c19 noAnn (l, k, ()) = (
lett (bif decide (k ≥ (0 : Int)) then decide (k < (↑l.length : Int)) else false) fun (y2 : Bool) =>
lett (l.getD k.toNat ([], [])).snd fun (y3 : List (List Int × Int)) =>
lett (bif y2 then decide ((↑y3.length : Int) > (0 : Int)) else false) fun (y4 : Bool) =>
lett (y3.getD (Int.toNat (0 : Int)) ([], (0 : Int))).fst fun (y5 : List Int) =>
(y2 = true → InB k l.length) ∧
(y4 = true → InB k l.length) ∧ (y4 = true → InB (0 : Int) y3.length) ∧ (y4 = true → shortL l ∧ short y5) ∧ (bif y4 then fClear l k y5 else false) = fFree l k ∧ True) := by kernel_rfl

theorem b19 (l : List ClaimD) (k : Int) (hm : fMay l = true) : bodyVC (ctxOf tab [(38, c38)]) Try.f19 c19 noAnn (l, k, ()) := by
  rw [v19]
  refine lett.mk fun y2 e2 => lett.mk fun y3 e3 => lett.mk fun y4 e4 => lett.mk fun y5 e5 => ?_
  have e3 : y3 = (l.getD k.toNat zeroC).2 := e3
  rw [e3] at e4
  obtain ⟨s2, s4, sb⟩ := legs_shape e2 e4
  have hs := may_short hm
  refine ⟨s2, fun h => (s4 h).1, fun h => ⟨by omega, by rw [e3]; have := (s4 h).2; omega⟩, fun h => ⟨hs, ?_⟩, ?_, trivial⟩
  · obtain ⟨⟨k1, k2⟩, h0⟩ := s4 h
    rw [e5, e3]
    exact (hs.2 _ (mem_getD zeroC (by omega))).2.2 _ (mem_getD _ h0)
  · refine sb _ ?_
    rw [e5, e3]
    rfl

theorem ok19 : DOk Try.prog 19 c19 :=
  DOk.of' (l := [(38, c38)]) (A := fun _ => noAnn) tabOk ⟨ok38, trivial⟩ Try.func19 (by kernel_rfl) (by kernel_rfl) fun x _ hp => b19 x.1 x.2.1 hp

/-! ### Copies, searches -/

theorem v31 (l : List (List Int × List (List Int × Int))) : bodyVC (ctxOf tab []) Try.f31 c31 noAnn (l, ()) = (
∀ (b1 : Bool),
(b1 = true → l = []) → (b1 = true → [] = l ∧ True) ∧ (b1 = false → roomFor ((List.replicate (0 : Nat) (([], []) : List Int × List (List Int × Int))).length + l.length) (48 : Nat) ∧ List.replicate (0 : Nat) ([], []) ++ l = l ∧ True)) := by kernel_rfl

theorem ok31 : DOk Try.prog 31 c31 :=
  DOk.of' (l := []) (A := fun _ => noAnn) tabOk trivial Try.func31 (by kernel_rfl) (by kernel_rfl) fun x _ hp => by
    obtain ⟨l, ⟨⟩⟩ := x
    have hp : l.length ≤ 1000000 := hp
    rw [v31]
    refine fun b hb => ⟨fun h => ⟨(hb h).symm, trivial⟩, fun h => ⟨room (by simp; omega) (by omega), rfl, trivial⟩⟩

theorem v41 (l : List Int) : bodyVC (ctxOf tab []) Try.f41 c41 noAnn (l, ()) = (
∀ (b1 : Bool),
(b1 = true → l = []) → (b1 = true → [] = l ∧ True) ∧ (b1 = false → roomFor ((List.replicate (0 : Nat) (0 : Int)).length + l.length) (8 : Nat) ∧ List.replicate (0 : Nat) (0 : Int) ++ l = l ∧ True)) := by kernel_rfl

theorem ok41 : DOk Try.prog 41 c41 :=
  DOk.of' (l := []) (A := fun _ => noAnn) tabOk trivial Try.func41 (by kernel_rfl) (by kernel_rfl) fun x _ hp => by
    obtain ⟨l, ⟨⟩⟩ := x
    have hp : l.length ≤ 1000000 := hp
    rw [v41]
    refine fun b hb => ⟨fun h => ⟨(hb h).symm, trivial⟩, fun h => ⟨room (by simp; omega) (by omega), rfl, trivial⟩⟩

theorem ok41d : DOk Try.prog 41 c41d := DOk.asData (e := 3) (t := I) ok41

theorem v45 (l : List Int) (n : Int) : bodyVC (ctxOf tab []) Try.f45 c45 (a45 (l, n, ())) (l, n, ()) = (
lett (fFind (fun (n_1 : Int) => n_1 == n) l) fun (y2 : Int) =>
(∃ (s03 : Nat), (s03 ≤ l.length ∧ ((List.take s03 l).any fun (n_1 : Int) => n_1 == n) = false) ∧ (↑s03 : Int) = (0 : Int) ∧ l = l ∧ n = n ∧ (↑l.length : Int) = (↑l.length : Int) ∧ True) ∧
∀ (s3 : Nat),
lett (decide ((↑s3 : Int) < (↑l.length : Int))) fun (y4 : Bool) =>
lett (n == l.getD (↑s3 : Int).toNat (0 : Int)) fun (y5 : Bool) =>
s3 ≤ l.length ∧ ((List.take s3 l).any fun (n_1 : Int) => n_1 == n) = false →
(y4 = true →
InB (↑s3 : Int) l.length ∧
(y5 = true → (↑s3 : Int) = y2 ∧ True) ∧
(y5 = false →
InR IntKind.i64 ((↑s3 : Int) + (1 : Int)) ∧
∃ (s'6 : Nat),
(s'6 ≤ l.length ∧ ((List.take s'6 l).any fun (n_1 : Int) => n_1 == n) = false) ∧
l.length - s'6 < l.length - s3 ∧ (↑s'6 : Int) = (↑s3 : Int) + (1 : Int) ∧ l = l ∧ n = n ∧ (↑l.length : Int) = (↑l.length : Int) ∧ True)) ∧
(y4 = false → (-1 : Int) = y2 ∧ True)) := by kernel_rfl

theorem b45 (l : List Int) (n : Int) (hp : l.length ≤ 1000000) : bodyVC (ctxOf tab []) Try.f45 c45 (a45 (l, n, ())) (l, n, ()) := by
  rw [v45]
  refine lett.mk fun y2 e2 => ?_
  simp only [true_and, and_true]
  refine ⟨⟨0, ⟨by omega, by simp⟩, rfl⟩, fun s => lett.mk fun y4 e4 => lett.mk fun y5 e5 => ?_⟩
  rintro ⟨h1, h2⟩
  rw [Int.toNat_natCast, Bool.beq_comm] at e5
  refine ⟨fun hs => ?_, fun hs => ?_⟩
  · have hs := lt_of_y e4 hs
    refine ⟨⟨by omega, by omega⟩, fun e => ?_, fun e => ⟨inR64 (by omega) (by omega), s + 1, ⟨by omega, ?_⟩, by omega, by omega⟩⟩
    · rw [e2]
      exact fFind_at (p := fun x => x == n) (0 : Int) hs h2 (by rw [← e5]; exact e)
    · exact any_succ (p := fun x => x == n) (0 : Int) hs h2 (by rw [← e5]; exact e)
  · rw [e2]
    exact fFind_none (s := s) (le_of_y e4 hs) h2

theorem ok45 : DOk Try.prog 45 c45 :=
  DOk.of' (l := []) (A := a45) tabOk trivial Try.func45 (by kernel_rfl) (by kernel_rfl) fun x _ hp => b45 x.1 x.2.1 hp

theorem v39 (l : List Int) (n : Int) : bodyVC (ctxOf tab [(45, c45)]) Try.f39 c39 noAnn (l, n, ()) = (
lett (fFind (fun (n_1 : Int) => n_1 == n) l) fun (y2 : Int) => short l ∧ decide (y2 ≥ (0 : Int)) = l.contains n ∧ True) := by kernel_rfl

theorem ok39 : DOk Try.prog 39 c39 :=
  DOk.of' (l := [(45, c45)]) (A := fun _ => noAnn) tabOk ⟨ok45, trivial⟩ Try.func39 (by kernel_rfl) (by kernel_rfl) fun x _ hp => by
    obtain ⟨l, n, ⟨⟩⟩ := x
    rw [v39]
    refine lett.mk fun y2 e2 => ⟨hp, ?_, trivial⟩
    rw [e2, fFind_any, List.contains_eq_any_beq]
    congr 1
    funext x
    exact Bool.beq_comm ..

theorem v33 (b : Bool) : bodyVC (ctxOf tab []) Try.f33 c33 noAnn (b, ()) = (
(!b) = !b ∧ True) := by kernel_rfl

theorem ok33 : DOk Try.prog 33 c33 :=
  DOk.of' (l := []) (A := fun _ => noAnn) tabOk trivial Try.func33 (by kernel_rfl) (by kernel_rfl) fun x _ hp => by
    obtain ⟨b, ⟨⟩⟩ := x
    rw [v33]
    exact ⟨rfl, trivial⟩

theorem v340032 (l : List Bool) (f : Unit) : bodyVC (ctxOf tab [(33, c33)]) Try.f32 c340032 (a340032 (l, f, ())) (l, f, ()) = (
(∃ (s02 : Nat), (s02 ≤ l.length ∧ ((List.take s02 l).any fun (n : Bool) => !n) = false) ∧ (↑s02 : Int) = (0 : Int) ∧ l = l ∧ f = f ∧ (↑l.length : Int) = (↑l.length : Int) ∧ True) ∧
∀ (s2 : Nat),
lett (decide ((↑s2 : Int) < (↑l.length : Int))) fun (y3 : Bool) =>
lett (!l.getD (↑s2 : Int).toNat false) fun (y4 : Bool) =>
s2 ≤ l.length ∧ ((List.take s2 l).any fun (n : Bool) => !n) = false →
(y3 = true →
InB (↑s2 : Int) l.length ∧
True ∧
(y4 = true → (↑s2 : Int) = fFind (fun (n : Bool) => !n) l ∧ True) ∧
(y4 = false →
InR IntKind.i64 ((↑s2 : Int) + (1 : Int)) ∧
∃ (s'5 : Nat),
(s'5 ≤ l.length ∧ ((List.take s'5 l).any fun (n : Bool) => !n) = false) ∧
l.length - s'5 < l.length - s2 ∧ (↑s'5 : Int) = (↑s2 : Int) + (1 : Int) ∧ l = l ∧ f = f ∧ (↑l.length : Int) = (↑l.length : Int) ∧ True)) ∧
(y3 = false → (-1 : Int) = fFind (fun (n : Bool) => !n) l ∧ True)) := by kernel_rfl

theorem b340032 (l : List Bool) (f : Unit) (hp : l.length ≤ 1000000) : bodyVC (ctxOf tab [(33, c33)]) Try.f32 c340032 (a340032 (l, f, ())) (l, f, ()) := by
  rw [v340032]
  simp only [true_and, and_true]
  refine ⟨⟨0, ⟨by omega, by simp⟩, rfl⟩, fun s => lett.mk fun y4 e4 => lett.mk fun y5 e5 => ?_⟩
  rintro ⟨h1, h2⟩
  rw [Int.toNat_natCast] at e5
  refine ⟨fun hs => ?_, fun hs => ?_⟩
  · have hs := lt_of_y e4 hs
    refine ⟨⟨by omega, by omega⟩, fun e => ?_, fun e => ⟨inR64 (by omega) (by omega), s + 1, ⟨by omega, ?_⟩, by omega, by omega⟩⟩
    · exact fFind_at (p := fun x => !x) false hs h2 (by rw [← e5]; exact e)
    · exact any_succ (p := fun x => !x) false hs h2 (by rw [← e5]; exact e)
  · exact fFind_none (s := s) (le_of_y e4 hs) h2

theorem ok340032 : DOk Try.prog 32 c340032 :=
  DOk.of' (l := [(33, c33)]) (A := a340032) tabOk ⟨ok33, trivial⟩ Try.func32 (by kernel_rfl) (by kernel_rfl) fun x _ hp => b340032 x.1 x.2.1 hp

theorem v16 (xs : List Int) (ys : List Int) : bodyVC (ctxOf tab []) Try.f16 c16 (a16 (xs, ys, ())) (xs, ys, ()) = (
lett ((↑xs.length : Int) != (↑ys.length : Int)) fun (y2 : Bool) =>
(y2 = true → false = (xs == ys) ∧ True) ∧
(y2 = false →
(∃ (s03 : Nat), (s03 ≤ xs.length ∧ sameUp xs ys s03) ∧ (↑s03 : Int) = (0 : Int) ∧ xs = xs ∧ ys = ys ∧ True) ∧
∀ (s3 : Nat),
lett (decide ((↑s3 : Int) < (↑xs.length : Int))) fun (y4 : Bool) =>
lett (xs.getD (↑s3 : Int).toNat (0 : Int) != ys.getD (↑s3 : Int).toNat (0 : Int)) fun (y5 : Bool) =>
s3 ≤ xs.length ∧ sameUp xs ys s3 →
(y4 = true →
InB (↑s3 : Int) xs.length ∧
InB (↑s3 : Int) ys.length ∧
(y5 = true → false = (xs == ys) ∧ True) ∧
(y5 = false →
InR IntKind.i64 ((↑s3 : Int) + (1 : Int)) ∧
∃ (s'6 : Nat), (s'6 ≤ xs.length ∧ sameUp xs ys s'6) ∧ xs.length - s'6 < xs.length - s3 ∧ (↑s'6 : Int) = (↑s3 : Int) + (1 : Int) ∧ xs = xs ∧ ys = ys ∧ True)) ∧
(y4 = false → true = (xs == ys) ∧ True))) := by kernel_rfl

theorem b16 (xs : List Int) (ys : List Int) (hp : xs.length ≤ 1000000) : bodyVC (ctxOf tab []) Try.f16 c16 (a16 (xs, ys, ())) (xs, ys, ()) := by
  rw [v16]
  refine lett.mk fun y2 e2 => ⟨fun h => ⟨?_, trivial⟩, fun h => ?_⟩
  · rw [e2] at h
    cases hb : xs == ys with
    | false => rfl
    | true =>
      rw [beq_iff_eq.1 hb] at h
      simp at h
  rw [e2] at h
  have hl : xs.length = ys.length := by
    have := h
    rw [bne_eq_false_iff_eq] at this
    omega
  simp only [true_and, and_true]
  refine ⟨⟨0, ⟨by omega, hl, rfl⟩, rfl⟩, fun s => lett.mk fun y4 e4 => lett.mk fun y5 e5 => ?_⟩
  rintro ⟨h1, h2, h3⟩
  rw [Int.toNat_natCast] at e5
  refine ⟨fun hs => ?_, fun hs => ?_⟩
  · have hs := lt_of_y e4 hs
    refine ⟨⟨by omega, by omega⟩, ⟨by omega, by omega⟩, fun e => ?_, fun e => ⟨inR64 (by omega) (by omega), s + 1, ⟨by omega, hl, ?_⟩, by omega, by omega⟩⟩
    · exact sameUp_not (s := s) 0 (by rw [e] at e5; exact bne_iff_ne.1 e5.symm)
    · exact sameUp_succ 0 hl h3 hs (by rw [e] at e5; exact bne_eq_false_iff_eq.1 e5.symm)
  · exact sameUp_full hl h3 (le_of_y e4 hs)

theorem ok16 : DOk Try.prog 16 c16 :=
  DOk.of' (l := []) (A := a16) tabOk trivial Try.func16 (by kernel_rfl) (by kernel_rfl) fun x _ hp => b16 x.1 x.2.1 hp

/-! ### Behind a leg -/

theorem v25 (c : List Int × List (List Int × Int)) : bodyVC (ctxOf tab []) Try.f25 c25 noAnn (c, ()) = (
lett ((↑c.snd.length : Int) == (0 : Int)) fun (y1 : Bool) =>
lett (c.snd.getD (Int.toNat (0 : Int)) ([], (0 : Int))).snd fun (y2 : Int) =>
(y1 = true → ([], []) = fAfter c ∧ True) ∧
(y1 = false →
((0 : Int) ≤ (1 : Int) ∧ (1 : Int) ≤ (↑c.snd.length : Int)) ∧
InB (0 : Int) c.snd.length ∧
(decide (y2 ≥ (0 : Int)) = true → InB (0 : Int) c.snd.length ∧ ((List.replicate (1 : Nat) (0 : Int)).set (0 : Nat) y2, List.drop (Int.toNat (1 : Int)) c.snd) = fAfter c ∧ True) ∧
(decide (y2 ≥ (0 : Int)) = false → ([], List.drop (Int.toNat (1 : Int)) c.snd) = fAfter c ∧ True))) := by kernel_rfl

theorem b25 (c : ClaimD) : bodyVC (ctxOf tab []) Try.f25 c25 noAnn (c, ()) := by
  rw [v25]
  obtain ⟨a, legs⟩ := c
  cases legs with
  | nil => refine lett.mk fun y1 e1 => lett.mk fun y2 e2 => ⟨fun _ => ⟨rfl, trivial⟩, fun h => ?_⟩; rw [h] at e1; simp at e1
  | cons w r =>
    refine lett.mk fun y1 e1 => lett.mk fun y2 e2 => ⟨fun h => ?_, fun h => ⟨⟨by omega, by simp <;> omega⟩, ⟨by omega, by simp <;> omega⟩, fun h2 => ⟨⟨by omega, by simp <;> omega⟩, ?_, trivial⟩, fun h2 => ⟨?_, trivial⟩⟩⟩
    · rw [h] at e1; simp at e1; omega
    · have e2 : y2 = w.2 := e2
      rw [e2] at h2 ⊢
      show ([w.2], r) = (bif decide (w.2 ≥ 0) then [w.2] else [], r)
      rw [h2]; rfl
    · have e2 : y2 = w.2 := e2
      rw [e2] at h2
      show ([], r) = (bif decide (w.2 ≥ 0) then [w.2] else [], r)
      rw [h2]; rfl

theorem ok25 : DOk Try.prog 25 c25 :=
  DOk.of' (l := []) (A := fun _ => noAnn) tabOk trivial Try.func25 (by kernel_rfl) (by kernel_rfl) fun x _ hp => b25 x.1

theorem v24 (c : List Int × List (List Int × Int)) : bodyVC (ctxOf tab [(41, c41d)]) Try.f24 c24 (a24 (c, ())) (c, ()) = (
lett ((↑c.snd.length : Int) == (0 : Int)) fun (y1 : Bool) =>
lett (c.snd.getD (Int.toNat (0 : Int)) ([], (0 : Int))).snd fun (y2 : Int) =>
lett (List.drop (Int.toNat (1 : Int)) c.snd).length fun (y3 : Nat) =>
lett ((List.replicate (1 : Nat) (0 : Int)).set (0 : Nat) y2) fun (y4 : List Int) =>
(y1 = true → ([], []) = fAfter c ∧ True) ∧
(y1 = false →
InB (0 : Int) c.snd.length ∧
(decide (y2 ≥ (0 : Int)) = true →
((0 : Int) ≤ (1 : Int) ∧ (1 : Int) ≤ (↑c.snd.length : Int)) ∧
(∃ (s05 : Nat),
s05 + (1 : Nat) ≤ c.snd.length ∧
(↑s05 : Int) = (0 : Int) ∧
List.drop (Int.toNat (1 : Int)) c.snd = List.drop (Int.toNat (1 : Int)) c.snd ∧
(↑y3 : Int) = (↑y3 : Int) ∧ List.take s05 (List.drop (1 : Nat) c.snd) = [] ∧ y4 = y4 ∧ True) ∧
∀ (s5 : Nat),
lett (decide ((↑s5 : Int) < (↑y3 : Int))) fun (y6 : Bool) =>
lett ((List.drop (Int.toNat (1 : Int)) c.snd).getD (↑s5 : Int).toNat ([], (0 : Int))) fun (y7 : List Int × Int) =>
lett (List.take s5 (List.drop (1 : Nat) c.snd)) fun (y8 : List (List Int × Int)) =>
lett ((List.replicate (1 : Nat) ([], (0 : Int))).set (0 : Nat) y7) fun (y9 : List (List Int × Int)) =>
s5 + (1 : Nat) ≤ c.snd.length →
(y6 = true →
InB (↑s5 : Int) y3 ∧
short y7.fst ∧
roomFor (y8.length + y9.length) (32 : Nat) ∧
InR IntKind.i64 ((↑s5 : Int) + (1 : Int)) ∧
∃ (s'10 : Nat),
s'10 + (1 : Nat) ≤ c.snd.length ∧
c.snd.length - s'10 < c.snd.length - s5 ∧
(↑s'10 : Int) = (↑s5 : Int) + (1 : Int) ∧
List.drop (Int.toNat (1 : Int)) c.snd = List.drop (Int.toNat (1 : Int)) c.snd ∧
(↑y3 : Int) = (↑y3 : Int) ∧ List.take s'10 (List.drop (1 : Nat) c.snd) = y8 ++ y9 ∧ y4 = y4 ∧ True) ∧
(y6 = false → (y4, y8) = fAfter c ∧ True)) ∧
(decide (y2 ≥ (0 : Int)) = false →
((0 : Int) ≤ (1 : Int) ∧ (1 : Int) ≤ (↑c.snd.length : Int)) ∧
(∃ (s05 : Nat),
s05 + (1 : Nat) ≤ c.snd.length ∧
(↑s05 : Int) = (0 : Int) ∧
List.drop (Int.toNat (1 : Int)) c.snd = List.drop (Int.toNat (1 : Int)) c.snd ∧ (↑y3 : Int) = (↑y3 : Int) ∧ List.take s05 (List.drop (1 : Nat) c.snd) = [] ∧ True) ∧
∀ (s5 : Nat),
lett (decide ((↑s5 : Int) < (↑y3 : Int))) fun (y6 : Bool) =>
lett ((List.drop (Int.toNat (1 : Int)) c.snd).getD (↑s5 : Int).toNat ([], (0 : Int))) fun (y7 : List Int × Int) =>
lett (List.take s5 (List.drop (1 : Nat) c.snd)) fun (y8 : List (List Int × Int)) =>
lett ((List.replicate (1 : Nat) ([], (0 : Int))).set (0 : Nat) y7) fun (y9 : List (List Int × Int)) =>
s5 + (1 : Nat) ≤ c.snd.length →
(y6 = true →
InB (↑s5 : Int) y3 ∧
short y7.fst ∧
roomFor (y8.length + y9.length) (32 : Nat) ∧
InR IntKind.i64 ((↑s5 : Int) + (1 : Int)) ∧
∃ (s'10 : Nat),
s'10 + (1 : Nat) ≤ c.snd.length ∧
c.snd.length - s'10 < c.snd.length - s5 ∧
(↑s'10 : Int) = (↑s5 : Int) + (1 : Int) ∧
List.drop (Int.toNat (1 : Int)) c.snd = List.drop (Int.toNat (1 : Int)) c.snd ∧
(↑y3 : Int) = (↑y3 : Int) ∧ List.take s'10 (List.drop (1 : Nat) c.snd) = y8 ++ y9 ∧ True) ∧
(y6 = false → ([], y8) = fAfter c ∧ True)))) := by kernel_rfl

theorem b24 (c : ClaimD) (hm : MayC c) : bodyVC (ctxOf tab [(41, c41d)]) Try.f24 c24 (a24 (c, ())) (c, ()) := by
  rw [v24]
  obtain ⟨a, legs⟩ := c
  cases legs with
  | nil => refine lett.mk fun y1 e1 => lett.mk fun y2 e2 => lett.mk fun y3 e3 => lett.mk fun y4 e4 => ⟨fun _ => ⟨rfl, trivial⟩, fun h => ?_⟩; rw [h] at e1; simp at e1
  | cons w r =>
    have hl : r.length + 1 ≤ 12 := hm.legs
    have hr : ∀ v ∈ r, short v.1 := fun v hv => hm.short.2.2 v (List.mem_cons_of_mem _ hv)
    refine lett.mk fun y1 e1 => lett.mk fun y2 e2 => lett.mk fun y3 e3 => lett.mk fun y4 e4 => ?_
    have e2 : y2 = w.2 := e2
    have e3 : y3 = r.length := e3
    have e4 : y4 = [y2] := e4
    simp only [List.length_cons, true_and, and_true, show List.drop (Int.toNat (1 : Int)) (w :: r) = r from rfl, show List.drop (1 : Nat) (w :: r) = r from rfl]
    have step : ∀ (at_ : List Int), (at_, r) = fAfter (a, w :: r) → ∀ s5 : Nat,
        lett (decide ((s5 : Int) < (y3 : Int))) fun (y6 : Bool) => lett (r.getD (s5 : Int).toNat ([], (0 : Int))) fun (y7 : List Int × Int) => lett (List.take s5 r) fun (y8 : List (List Int × Int)) =>
        lett ((List.replicate (1 : Nat) ([], (0 : Int))).set (0 : Nat) y7) fun (y9 : List (List Int × Int)) =>
        s5 + (1 : Nat) ≤ r.length + 1 → (y6 = true → InB (s5 : Int) y3 ∧ short y7.fst ∧ roomFor (y8.length + y9.length) (32 : Nat) ∧ InR IntKind.i64 ((s5 : Int) + (1 : Int)) ∧
          ∃ s' : Nat, s' + 1 ≤ r.length + 1 ∧ r.length + 1 - s' < r.length + 1 - s5 ∧ (s' : Int) = (s5 : Int) + 1 ∧ List.take s' r = y8 ++ y9) ∧ (y6 = false → (at_, y8) = fAfter (a, w :: r)) := by
      intro at_ hat s
      refine lett.mk fun y6 e6 => lett.mk fun y7 e7 => lett.mk fun y8 e8 => lett.mk fun y9 e9 => fun h => ⟨fun h6 => ?_, fun h6 => ?_⟩
      · have hs := lt_of_y e6 h6
        rw [Int.toNat_natCast] at e7
        have e9 : y9 = [y7] := e9
        have h8 : y8.length ≤ 12 := by rw [e8, List.length_take]; omega
        refine ⟨⟨by omega, by omega⟩, by rw [e7]; exact hr _ (mem_getD _ (by omega)), room (by rw [e9]; simp; omega) (by omega), inR64 (by omega) (by omega), s + 1, by omega, by omega, by omega, ?_⟩
        rw [e8, e9, e7]
        exact take_succ' _ (by omega)
      · have hs := le_of_y e6 h6
        rw [e8, List.take_of_length_le (by omega)]
        exact hat
    refine ⟨fun h => ?_, fun h => ⟨⟨by omega, by omega⟩, fun h2 => ⟨⟨by omega, by omega⟩, ⟨0, by omega, rfl, rfl⟩, ?_⟩, fun h2 => ⟨⟨by omega, by omega⟩, ⟨0, by omega, rfl, rfl⟩, ?_⟩⟩⟩
    · rw [h] at e1; simp at e1; omega
    · refine step y4 ?_
      rw [e4]
      rw [e2] at h2 ⊢
      show ([w.2], r) = (bif decide (w.2 ≥ 0) then [w.2] else [], r)
      rw [h2]; rfl
    · refine step [] ?_
      rw [e2] at h2
      show ([], r) = (bif decide (w.2 ≥ 0) then [w.2] else [], r)
      rw [h2]; rfl

theorem ok24 : DOk Try.prog 24 c24 :=
  DOk.of' (l := [(41, c41d)]) (A := a24) tabOk ⟨ok41d, trivial⟩ Try.func24 (by kernel_rfl) (by kernel_rfl) fun x _ hp => b24 x.1 (fClaim_iff.1 hp)

end Ytghpaejpccpgeaa
end Go.Proofs
