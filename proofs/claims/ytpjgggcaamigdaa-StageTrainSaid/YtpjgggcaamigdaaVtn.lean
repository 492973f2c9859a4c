/-
  StageClear, written out and proved.
-/
import Derived.Test.YtpjgggcaamigdaaVtl
set_option maxRecDepth 100000
set_option linter.unusedVariables false
set_option linter.unusedSimpArgs false
set_option maxHeartbeats 4000000
namespace Go.Proofs
open Go Go.Vc
namespace Ytpjgggcaamigdaa

/-- A life on its way, not idle, is no malformed one. -/
theorem good_in {n : Nat} {l : LifeD} {v : ViewD} {off : Bool} (hg : good n l off) (h0 : l.1 ≠ 0) (hv : v.1.length = n) :
    ¬ badIn l v ∧ 1 ≤ l.1 ∧ l.1 ≤ 3 ∧ l.2.2.2.length = n ∧ l.2.2.1 = off ∧ (l.1 ≠ 3 → l.2.1 = 0) ∧ ∃ f : Nat, l.2.1 = (f : Int) ∧ f < n := by
  rcases hg with hg | ⟨h1, h2, h3, h4, h5, h6, h7⟩
  · exact absurd hg h0
  · refine ⟨?_, h1, h2, h3, h6, h7, l.2.1.toNat, by omega, by omega⟩
    unfold badIn
    omega

theorem next_good {n : Nat} {l : LifeD} {v : ViewD} {off : Bool} (hg : good n l off) (hv : v.1.length = n) : good n (fNext l v).1 (off || v.2.2.2.2.2.2) := by
  by_cases h0 : l.1 = 0
  · rw [fNext_idle h0]
    exact .inl h0
  · obtain ⟨hb, h1, h2, h3, h4, h5, f, hf, hlt⟩ := good_in hg h0 hv
    rw [fNext_in h0 hb hf, hv, h4]
    have hsn : (fSeen l.2.2.2 (fOcc v) n).length = n := by rw [fSeen_length (by rw [fOcc_length]; omega) (by omega)]; exact h3
    have hF := fFree_le (seen := fSeen l.2.2.2 (fOcc v) n) (o := fOcc v) (gate := v.2.1) (last := n - 1) (k := n - 1 - f) (f := f)
    unfold nextIn
    split
    · rename_i hst
      have hf0 : (f : Int) = 0 := by rw [← hf]; exact h5 hst.1
      split
      · exact .inl rfl
      · split
        · exact .inr ⟨(by decide : (1 : Int) ≤ 2), (by decide : (2 : Int) ≤ 3), hsn, by simp, by simp; omega, rfl, fun _ => hf0⟩
        · exact .inr ⟨(by decide : (1 : Int) ≤ 1), (by decide : (1 : Int) ≤ 3), hsn, by simp, by simp; omega, rfl, fun _ => hf0⟩
    · simp only
      split
      · exact .inl rfl
      · exact .inr ⟨(by decide : (1 : Int) ≤ 3), (by decide : (3 : Int) ≤ 3), hsn, by simp, by simp; omega, rfl, fun h => absurd rfl h⟩

/-- The first element, as the law looks at it. -/
theorem occ_first {v : ViewD} {n : Nat} (hv : v.1.length = n) (hn : 1 ≤ n) : (fOcc v).getD 0 false = (v.1.getD 0 false && !(v.2.1 && n == 1)) := by
  unfold fOcc
  cases hg : v.2.1 with
  | false => simp
  | true =>
    simp only [cond_true, Bool.true_and]
    rw [hv]
    by_cases e : n = 1
    · subst e
      simp [List.getD_eq_getElem?_getD, hv]
    · have : (n == 1) = false := by simpa using e
      rw [this]
      simp only [List.getD_eq_getElem?_getD]
      rw [List.getElem?_set_ne (by omega)]
      simp

/-- When a road that is Called or Set is Set behind a tick. -/
theorem next_set {n : Nat} {l : LifeD} {v : ViewD} {off : Bool} (hg : good n l off) (hv : v.1.length = n) (hs : l.1 = 1 ∨ l.1 = 2) :
    ((fNext l v).1.1 == 2) = (v.2.2.1 && v.2.2.2.1 && !(off || v.2.2.2.2.2.2) && !(fOcc v).getD 0 false) := by
  have h0 : l.1 ≠ 0 := by omega
  obtain ⟨hb, h1, h2, h3, h4, h5, f, hf, hlt⟩ := good_in hg h0 hv
  rw [fNext_in h0 hb hf, hv, h4]
  generalize (off || v.2.2.2.2.2.2) = off2
  unfold nextIn
  split
  · rename_i hst
    rw [hst.2]
    split
    · rename_i hc
      rw [hc.1]
      simp [zeroL]
    · split
      · rename_i hc
        rw [hc.1, hc.2.1, hc.2.2]
        rfl
      · rename_i hc
        cases off2 <;> cases h : v.2.2.1 <;> cases h' : v.2.2.2.1 <;> simp_all
  · rename_i hst
    have ho : (fOcc v).getD 0 false = true := by
      cases h : (fOcc v).getD 0 false with
      | true => rfl
      | false => exact absurd ⟨by omega, h⟩ hst
    rw [ho]
    simp only
    split
    · simp [zeroL]
    · simp

theorem next_notSet {n : Nat} {l : LifeD} {v : ViewD} {off : Bool} (hg : good n l off) (hv : v.1.length = n) (hs : l.1 = 3 ∨ l.1 = 0) : (fNext l v).1.1 ≠ 2 := by
  by_cases h0 : l.1 = 0
  · rw [fNext_idle h0, h0]
    decide
  · obtain ⟨hb, h1, h2, h3, h4, h5, f, hf, hlt⟩ := good_in hg h0 hv
    rw [fNext_in h0 hb hf]
    unfold nextIn
    rw [if_neg (by omega)]
    simp only
    split
    · simp [zeroL]
    · simp

theorem begin_good {N : Int} (h1 : 1 ≤ N) (h2 : N ≤ 12) : good N.toNat (fBegin N) false := by
  unfold fBegin
  rw [if_neg (by omega)]
  exact .inr ⟨(by decide : (1 : Int) ≤ 1), (by decide : (1 : Int) ≤ 3), by simp, (by decide : (0 : Int) ≤ 0), by simp; omega, rfl, fun _ => rfl⟩

theorem v8 (b : Int) (l : List (List Bool × Bool × Bool × Bool × Bool × Bool × Bool)) : bodyVC (ctxOf tab [(9, c9), (10, c10), (15, c15), (17, c17)]) Try.f8 c8 (a8 (b, l, ())) (b, l, ()) = (
True ∧
  ((!true) = true → false = true ∧ True) ∧
    ((!true) = false →
      (12 : Int) ≠ (0 : Int) ∧
        InR IntKind.i64 (b.tmod (12 : Int) + (1 : Int)) ∧
          True ∧
            ((!fFew l (b.tmod (12 : Int) + (1 : Int))) = true → true = true ∧ True) ∧
              ((!fFew l (b.tmod (12 : Int) + (1 : Int))) = false →
                True ∧
                  (∃ (s0 : Nat × LifeD × Bool),
                      (s0.fst ≤ l.length ∧
                          s0.snd.fst.snd.snd.snd.length ≤ (12 : Nat) ∧
                            (s0.snd.fst.fst = (0 : Int) ∨
                              (1 : Int) ≤ s0.snd.fst.fst ∧
                                s0.snd.fst.fst ≤ (3 : Int) ∧
                                  s0.snd.fst.snd.snd.snd.length = (b.tmod (12 : Int) + (1 : Int)).toNat ∧
                                    (0 : Int) ≤ s0.snd.fst.snd.fst ∧
                                      s0.snd.fst.snd.fst < (↑(b.tmod (12 : Int) + (1 : Int)).toNat : Int) ∧ s0.snd.fst.snd.snd.fst = s0.snd.snd ∧ (s0.snd.fst.fst ≠ (3 : Int) → s0.snd.fst.snd.fst = (0 : Int)))) ∧
                        (↑s0.fst : Int) = (0 : Int) ∧
                          s0.snd.snd = false ∧
                            l = l ∧
                              b.tmod (12 : Int) + (1 : Int) = b.tmod (12 : Int) + (1 : Int) ∧
                                s0.snd.fst.fst = (fBegin (b.tmod (12 : Int) + (1 : Int))).fst ∧
                                  s0.snd.fst.snd.fst = (fBegin (b.tmod (12 : Int) + (1 : Int))).snd.fst ∧
                                    s0.snd.fst.snd.snd.fst = (fBegin (b.tmod (12 : Int) + (1 : Int))).snd.snd.fst ∧ s0.snd.fst.snd.snd.snd = (fBegin (b.tmod (12 : Int) + (1 : Int))).snd.snd.snd ∧ True) ∧
                    ∀ (s : Nat × LifeD × Bool),
                      s.fst ≤ l.length ∧
                          s.snd.fst.snd.snd.snd.length ≤ (12 : Nat) ∧
                            (s.snd.fst.fst = (0 : Int) ∨
                              (1 : Int) ≤ s.snd.fst.fst ∧
                                s.snd.fst.fst ≤ (3 : Int) ∧
                                  s.snd.fst.snd.snd.snd.length = (b.tmod (12 : Int) + (1 : Int)).toNat ∧
                                    (0 : Int) ≤ s.snd.fst.snd.fst ∧
                                      s.snd.fst.snd.fst < (↑(b.tmod (12 : Int) + (1 : Int)).toNat : Int) ∧ s.snd.fst.snd.snd.fst = s.snd.snd ∧ (s.snd.fst.fst ≠ (3 : Int) → s.snd.fst.snd.fst = (0 : Int))) →
                        (decide ((↑s.fst : Int) < (↑l.length : Int)) = true →
                            InB (↑s.fst : Int) l.length ∧
                              (s.snd.fst.snd.snd.snd.length ≤ (1000000 : Nat) ∧ (l.getD (↑s.fst : Int).toNat ([], false, false, false, false, false, false)).fst.length ≤ (1000000 : Nat)) ∧
                                (s.snd.snd = false → InB (↑s.fst : Int) l.length) ∧
                                  InB (↑s.fst : Int) l.length ∧
                                    InB (0 : Int) (l.getD (↑s.fst : Int).toNat ([], false, false, false, false, false, false)).fst.length ∧
                                      ((l.getD (↑s.fst : Int).toNat ([], false, false, false, false, false, false)).fst.getD (Int.toNat (0 : Int)) false = true → InB (↑s.fst : Int) l.length) ∧
                                        ((bif s.snd.fst.fst == (1 : Int) then true else s.snd.fst.fst == (2 : Int)) = true → InB (↑s.fst : Int) l.length) ∧
                                          ((bif s.snd.fst.fst == (1 : Int) then true else s.snd.fst.fst == (2 : Int)) = true →
                                              (l.getD (↑s.fst : Int).toNat ([], false, false, false, false, false, false)).snd.snd.fst = true → InB (↑s.fst : Int) l.length) ∧
                                            ((bif bif s.snd.fst.fst == (1 : Int) then true else s.snd.fst.fst == (2 : Int) then
                                                    !((fNext (s.snd.fst.fst, s.snd.fst.snd.fst, s.snd.fst.snd.snd.fst, s.snd.fst.snd.snd.snd)
                                                                ((l.getD (↑s.fst : Int).toNat ([], false, false, false, false, false, false)).fst,
                                                                  (l.getD (↑s.fst : Int).toNat ([], false, false, false, false, false, false)).snd.fst,
                                                                  (l.getD (↑s.fst : Int).toNat ([], false, false, false, false, false, false)).snd.snd.fst,
                                                                  (l.getD (↑s.fst : Int).toNat ([], false, false, false, false, false, false)).snd.snd.snd.fst,
                                                                  (l.getD (↑s.fst : Int).toNat ([], false, false, false, false, false, false)).snd.snd.snd.snd.fst,
                                                                  (l.getD (↑s.fst : Int).toNat ([], false, false, false, false, false, false)).snd.snd.snd.snd.snd.fst,
                                                                  (l.getD (↑s.fst : Int).toNat ([], false, false, false, false, false, false)).snd.snd.snd.snd.snd.snd)).fst.fst ==
                                                          (2 : Int)) ==
                                                        bif
                                                            bif
                                                                bif (l.getD (↑s.fst : Int).toNat ([], false, false, false, false, false, false)).snd.snd.fst then
                                                                  (l.getD (↑s.fst : Int).toNat ([], false, false, false, false, false, false)).snd.snd.snd.fst
                                                                else false then
                                                              !bif s.snd.snd then true else (l.getD (↑s.fst : Int).toNat ([], false, false, false, false, false, false)).snd.snd.snd.snd.snd.snd
                                                            else false then
                                                          !bif (l.getD (↑s.fst : Int).toNat ([], false, false, false, false, false, false)).fst.getD (Int.toNat (0 : Int)) false then
                                                              !bif (l.getD (↑s.fst : Int).toNat ([], false, false, false, false, false, false)).snd.fst then b.tmod (12 : Int) + (1 : Int) == (1 : Int) else false
                                                            else false
                                                        else false
                                                  else false) =
                                                  true →
                                                false = true ∧ True) ∧
                                              ((bif bif s.snd.fst.fst == (1 : Int) then true else s.snd.fst.fst == (2 : Int) then
                                                    !((fNext (s.snd.fst.fst, s.snd.fst.snd.fst, s.snd.fst.snd.snd.fst, s.snd.fst.snd.snd.snd)
                                                                ((l.getD (↑s.fst : Int).toNat ([], false, false, false, false, false, false)).fst,
                                                                  (l.getD (↑s.fst : Int).toNat ([], false, false, false, false, false, false)).snd.fst,
                                                                  (l.getD (↑s.fst : Int).toNat ([], false, false, false, false, false, false)).snd.snd.fst,
                                                                  (l.getD (↑s.fst : Int).toNat ([], false, false, false, false, false, false)).snd.snd.snd.fst,
                                                                  (l.getD (↑s.fst : Int).toNat ([], false, false, false, false, false, false)).snd.snd.snd.snd.fst,
                                                                  (l.getD (↑s.fst : Int).toNat ([], false, false, false, false, false, false)).snd.snd.snd.snd.snd.fst,
                                                                  (l.getD (↑s.fst : Int).toNat ([], false, false, false, false, false, false)).snd.snd.snd.snd.snd.snd)).fst.fst ==
                                                          (2 : Int)) ==
                                                        bif
                                                            bif
                                                                bif (l.getD (↑s.fst : Int).toNat ([], false, false, false, false, false, false)).snd.snd.fst then
                                                                  (l.getD (↑s.fst : Int).toNat ([], false, false, false, false, false, false)).snd.snd.snd.fst
                                                                else false then
                                                              !bif s.snd.snd then true else (l.getD (↑s.fst : Int).toNat ([], false, false, false, false, false, false)).snd.snd.snd.snd.snd.snd
                                                            else false then
                                                          !bif (l.getD (↑s.fst : Int).toNat ([], false, false, false, false, false, false)).fst.getD (Int.toNat (0 : Int)) false then
                                                              !bif (l.getD (↑s.fst : Int).toNat ([], false, false, false, false, false, false)).snd.fst then b.tmod (12 : Int) + (1 : Int) == (1 : Int) else false
                                                            else false
                                                        else false
                                                  else false) =
                                                  false →
                                                ((bif bif s.snd.fst.fst == (3 : Int) then true else s.snd.fst.fst == (0 : Int) then
                                                        (fNext (s.snd.fst.fst, s.snd.fst.snd.fst, s.snd.fst.snd.snd.fst, s.snd.fst.snd.snd.snd)
                                                                ((l.getD (↑s.fst : Int).toNat ([], false, false, false, false, false, false)).fst,
                                                                  (l.getD (↑s.fst : Int).toNat ([], false, false, false, false, false, false)).snd.fst,
                                                                  (l.getD (↑s.fst : Int).toNat ([], false, false, false, false, false, false)).snd.snd.fst,
                                                                  (l.getD (↑s.fst : Int).toNat ([], false, false, false, false, false, false)).snd.snd.snd.fst,
                                                                  (l.getD (↑s.fst : Int).toNat ([], false, false, false, false, false, false)).snd.snd.snd.snd.fst,
                                                                  (l.getD (↑s.fst : Int).toNat ([], false, false, false, false, false, false)).snd.snd.snd.snd.snd.fst,
                                                                  (l.getD (↑s.fst : Int).toNat ([], false, false, false, false, false, false)).snd.snd.snd.snd.snd.snd)).fst.fst ==
                                                          (2 : Int)
                                                      else false) =
                                                      true →
                                                    false = true ∧ True) ∧
                                                  ((bif bif s.snd.fst.fst == (3 : Int) then true else s.snd.fst.fst == (0 : Int) then
                                                        (fNext (s.snd.fst.fst, s.snd.fst.snd.fst, s.snd.fst.snd.snd.fst, s.snd.fst.snd.snd.snd)
                                                                ((l.getD (↑s.fst : Int).toNat ([], false, false, false, false, false, false)).fst,
                                                                  (l.getD (↑s.fst : Int).toNat ([], false, false, false, false, false, false)).snd.fst,
                                                                  (l.getD (↑s.fst : Int).toNat ([], false, false, false, false, false, false)).snd.snd.fst,
                                                                  (l.getD (↑s.fst : Int).toNat ([], false, false, false, false, false, false)).snd.snd.snd.fst,
                                                                  (l.getD (↑s.fst : Int).toNat ([], false, false, false, false, false, false)).snd.snd.snd.snd.fst,
                                                                  (l.getD (↑s.fst : Int).toNat ([], false, false, false, false, false, false)).snd.snd.snd.snd.snd.fst,
                                                                  (l.getD (↑s.fst : Int).toNat ([], false, false, false, false, false, false)).snd.snd.snd.snd.snd.snd)).fst.fst ==
                                                          (2 : Int)
                                                      else false) =
                                                      false →
                                                    InR IntKind.i64 ((↑s.fst : Int) + (1 : Int)) ∧
                                                      ∃ (s' : Nat × LifeD × Bool),
                                                        (s'.fst ≤ l.length ∧
                                                            s'.snd.fst.snd.snd.snd.length ≤ (12 : Nat) ∧
                                                              (s'.snd.fst.fst = (0 : Int) ∨
                                                                (1 : Int) ≤ s'.snd.fst.fst ∧
                                                                  s'.snd.fst.fst ≤ (3 : Int) ∧
                                                                    s'.snd.fst.snd.snd.snd.length = (b.tmod (12 : Int) + (1 : Int)).toNat ∧
                                                                      (0 : Int) ≤ s'.snd.fst.snd.fst ∧
                                                                        s'.snd.fst.snd.fst < (↑(b.tmod (12 : Int) + (1 : Int)).toNat : Int) ∧
                                                                          s'.snd.fst.snd.snd.fst = s'.snd.snd ∧ (s'.snd.fst.fst ≠ (3 : Int) → s'.snd.fst.snd.fst = (0 : Int)))) ∧
                                                          l.length - s'.fst < l.length - s.fst ∧
                                                            (↑s'.fst : Int) = (↑s.fst : Int) + (1 : Int) ∧
                                                              (s'.snd.snd = bif s.snd.snd then true else (l.getD (↑s.fst : Int).toNat ([], false, false, false, false, false, false)).snd.snd.snd.snd.snd.snd) ∧
                                                                l = l ∧
                                                                  b.tmod (12 : Int) + (1 : Int) = b.tmod (12 : Int) + (1 : Int) ∧
                                                                    s'.snd.fst.fst =
                                                                        (fNext (s.snd.fst.fst, s.snd.fst.snd.fst, s.snd.fst.snd.snd.fst, s.snd.fst.snd.snd.snd)
                                                                              ((l.getD (↑s.fst : Int).toNat ([], false, false, false, false, false, false)).fst,
                                                                                (l.getD (↑s.fst : Int).toNat ([], false, false, false, false, false, false)).snd.fst,
                                                                                (l.getD (↑s.fst : Int).toNat ([], false, false, false, false, false, false)).snd.snd.fst,
                                                                                (l.getD (↑s.fst : Int).toNat ([], false, false, false, false, false, false)).snd.snd.snd.fst,
                                                                                (l.getD (↑s.fst : Int).toNat ([], false, false, false, false, false, false)).snd.snd.snd.snd.fst,
                                                                                (l.getD (↑s.fst : Int).toNat ([], false, false, false, false, false, false)).snd.snd.snd.snd.snd.fst,
                                                                                (l.getD (↑s.fst : Int).toNat ([], false, false, false, false, false, false)).snd.snd.snd.snd.snd.snd)).fst.fst ∧
                                                                      s'.snd.fst.snd.fst =
                                                                          (fNext (s.snd.fst.fst, s.snd.fst.snd.fst, s.snd.fst.snd.snd.fst, s.snd.fst.snd.snd.snd)
                                                                                  ((l.getD (↑s.fst : Int).toNat ([], false, false, false, false, false, false)).fst,
                                                                                    (l.getD (↑s.fst : Int).toNat ([], false, false, false, false, false, false)).snd.fst,
                                                                                    (l.getD (↑s.fst : Int).toNat ([], false, false, false, false, false, false)).snd.snd.fst,
                                                                                    (l.getD (↑s.fst : Int).toNat ([], false, false, false, false, false, false)).snd.snd.snd.fst,
                                                                                    (l.getD (↑s.fst : Int).toNat ([], false, false, false, false, false, false)).snd.snd.snd.snd.fst,
                                                                                    (l.getD (↑s.fst : Int).toNat ([], false, false, false, false, false, false)).snd.snd.snd.snd.snd.fst,
                                                                                    (l.getD (↑s.fst : Int).toNat ([], false, false, false, false, false, false)).snd.snd.snd.snd.snd.snd)).fst.snd.fst ∧
                                                                        s'.snd.fst.snd.snd.fst =
                                                                            (fNext (s.snd.fst.fst, s.snd.fst.snd.fst, s.snd.fst.snd.snd.fst, s.snd.fst.snd.snd.snd)
                                                                                      ((l.getD (↑s.fst : Int).toNat ([], false, false, false, false, false, false)).fst,
                                                                                        (l.getD (↑s.fst : Int).toNat ([], false, false, false, false, false, false)).snd.fst,
                                                                                        (l.getD (↑s.fst : Int).toNat ([], false, false, false, false, false, false)).snd.snd.fst,
                                                                                        (l.getD (↑s.fst : Int).toNat ([], false, false, false, false, false, false)).snd.snd.snd.fst,
                                                                                        (l.getD (↑s.fst : Int).toNat ([], false, false, false, false, false, false)).snd.snd.snd.snd.fst,
                                                                                        (l.getD (↑s.fst : Int).toNat ([], false, false, false, false, false, false)).snd.snd.snd.snd.snd.fst,
                                                                                        (l.getD (↑s.fst : Int).toNat ([], false, false, false, false, false, false)).snd.snd.snd.snd.snd.snd)).fst.snd.snd.fst ∧
                                                                          s'.snd.fst.snd.snd.snd =
                                                                              (fNext (s.snd.fst.fst, s.snd.fst.snd.fst, s.snd.fst.snd.snd.fst, s.snd.fst.snd.snd.snd)
                                                                                        ((l.getD (↑s.fst : Int).toNat ([], false, false, false, false, false, false)).fst,
                                                                                          (l.getD (↑s.fst : Int).toNat ([], false, false, false, false, false, false)).snd.fst,
                                                                                          (l.getD (↑s.fst : Int).toNat ([], false, false, false, false, false, false)).snd.snd.fst,
                                                                                          (l.getD (↑s.fst : Int).toNat ([], false, false, false, false, false, false)).snd.snd.snd.fst,
                                                                                          (l.getD (↑s.fst : Int).toNat ([], false, false, false, false, false, false)).snd.snd.snd.snd.fst,
                                                                                          (l.getD (↑s.fst : Int).toNat ([], false, false, false, false, false, false)).snd.snd.snd.snd.snd.fst,
                                                                                          (l.getD (↑s.fst : Int).toNat ([], false, false, false, false, false, false)).snd.snd.snd.snd.snd.snd)).fst.snd.snd.snd ∧
                                                                            True))) ∧
                          (decide ((↑s.fst : Int) < (↑l.length : Int)) = false → true = true ∧ True)))) := by kernel_rfl

theorem b8 (b : Int) (l : List ViewD) (hb : 0 ≤ b) : bodyVC (ctxOf tab [(9, c9), (10, c10), (15, c15), (17, c17)]) Try.f8 c8 (a8 (b, l, ())) (b, l, ()) := by
  rw [v8]
  have e2 : ∀ v : ViewD, (v.fst, v.snd.fst, v.snd.snd.fst, v.snd.snd.snd.fst, v.snd.snd.snd.snd.fst, v.snd.snd.snd.snd.snd.fst, v.snd.snd.snd.snd.snd.snd) = v := fun _ => rfl
  have e3 : ∀ l : LifeD, (l.fst, l.snd.fst, l.snd.snd.fst, l.snd.snd.snd) = l := fun _ => rfl
  have h0n : (Int.toNat 0) = 0 := rfl
  have hN : 1 ≤ b.tmod 12 + 1 ∧ b.tmod 12 + 1 ≤ 12 := by
    rw [Int.tmod_eq_emod_of_nonneg hb]
    omega
  generalize b.tmod 12 + 1 = N at *
  simp only [e2, e3, h0n, Int.toNat_natCast, true_and, and_true, Bool.cond_true_left, Bool.cond_false_right]
  refine ⟨fun h => (by cases h), fun _ => ⟨by decide, inR64 (by omega) (by omega), fun _ => trivial, fun hf => ?_⟩⟩
  have hf : fFew l N = true := by simpa using hf
  have h60 : l.length ≤ 60 := by
    have hf' := hf
    unfold fFew at hf'
    simp only [Bool.and_eq_true, decide_eq_true_eq] at hf'
    exact hf'.1
  refine ⟨⟨(0, fBegin N, false), ⟨Nat.zero_le _, fBegin_len N, begin_good hN.1 hN.2⟩, rfl, rfl, rfl, rfl, rfl, rfl⟩, fun s ⟨s1, s2, hg⟩ => ⟨fun hk => ?_, fun _ => trivial⟩⟩
  have hg : good N.toNat s.2.1 s.2.2 := hg
  have hk : s.1 < l.length := by simpa using hk
  have hv := fFew_at hf hk ([], false, false, false, false, false, false)
  generalize l.getD s.1 ([], false, false, false, false, false, false) = v at *
  have hv : v.1.length = N.toNat := by omega
  obtain ⟨k1, k2⟩ := fNext_lens s.2.1 v
  have hfi := occ_first hv (by omega)
  have hNn : (N == 1) = (N.toNat == 1) := by
    rw [Bool.eq_iff_iff, beq_iff_eq, beq_iff_eq]
    omega
  have hin : InB (s.1 : Int) l.length := ⟨by omega, by omega⟩
  refine ⟨hin, ⟨by omega, by omega⟩, fun _ => hin, hin, ⟨by omega, by omega⟩, fun _ => hin, fun _ => hin, fun _ _ => hin, fun h => ?_, fun _ => ⟨fun h => ?_, fun _ => ⟨inR64 (by omega) (by omega), (s.1 + 1, (fNext s.2.1 v).1, s.2.2 || v.2.2.2.2.2.2), ⟨by show s.1 + 1 ≤ _; omega, by show (fNext s.2.1 v).1.2.2.2.length ≤ 12; omega, next_good hg hv⟩, by show l.length - (s.1 + 1) < _; omega, by show ((s.1 + 1 : Nat) : Int) = _; omega, rfl, rfl, rfl, rfl, rfl⟩⟩⟩
  · exfalso
    simp only [Bool.and_eq_true, Bool.or_eq_true, beq_iff_eq] at h
    have := next_set hg hv h.1
    rw [hfi, ← hNn] at this
    rw [this] at h
    simp at h
  · exfalso
    simp only [Bool.and_eq_true, Bool.or_eq_true, beq_iff_eq] at h
    exact next_notSet hg hv h.1 h.2

theorem ok8 : DOk Try.prog 8 c8 :=
  DOk.of' (l := [(9, c9), (10, c10), (15, c15), (17, c17)]) (wraps := []) (A := a8) tabOk ⟨ok9, ok10, ok15, ok17, trivial⟩ Try.func8 (by kernel_rfl) (by kernel_rfl) fun x hw _ => b8 x.1 x.2.1 hw.1.1

end Ytpjgggcaamigdaa
end Go.Proofs
