/-
  StageOnce, written out and proved.
-/
import Derived.Test.YtpjgggcaamigdaaVtn
set_option maxRecDepth 100000
set_option linter.unusedVariables false
set_option linter.unusedSimpArgs false
set_option maxHeartbeats 4000000
namespace Go.Proofs
open Go Go.Vc
namespace Ytpjgggcaamigdaa

theorem fFree_ge {seen o : List Bool} {gate : Bool} {last : Nat} : ∀ {k f : Nat}, f ≤ fFree seen o gate last k f
  | 0, f => by simp [fFree]
  | k + 1, f => by
    rw [fFree]
    split
    · have := fFree_ge (seen := seen) (o := o) (gate := gate) (last := last) (k := k) (f := f + 1)
      omega
    · omega

/-- What is released, and how far the front is behind a tick. -/
theorem next_out {n : Nat} {l : LifeD} {v : ViewD} {off : Bool} (hg : good n l off) (h0 : l.1 ≠ 0) (hv : v.1.length = n) :
    ((fNext l v).1.1 = 0 ∧ (fNext l v).2 = fRest l.2.1 n) ∨ ((fNext l v).1.1 ≠ 0 ∧ (fNext l v).2 = fRest l.2.1 (fNext l v).1.2.1 ∧ l.2.1 ≤ (fNext l v).1.2.1 ∧ (fNext l v).1.2.1 < n) := by
  obtain ⟨hb, h1, h2, h3, h4, h5, f, hf, hlt⟩ := good_in hg h0 hv
  rw [fNext_in h0 hb hf, hv, hf]
  have hF := fFree_le (seen := fSeen l.2.2.2 (fOcc v) n) (o := fOcc v) (gate := v.2.1) (last := n - 1) (k := n - 1 - f) (f := f)
  have hG := fFree_ge (seen := fSeen l.2.2.2 (fOcc v) n) (o := fOcc v) (gate := v.2.1) (last := n - 1) (k := n - 1 - f) (f := f)
  have h0r : fRest (f : Int) (f : Int) = [] := by simp [fRest]
  unfold nextIn
  split
  · split
    · exact .inl ⟨rfl, rfl⟩
    · split
      · exact .inr ⟨by simp, h0r.symm, by simp, by simp; omega⟩
      · exact .inr ⟨by simp, h0r.symm, by simp, by simp; omega⟩
  · simp only
    split
    · exact .inl ⟨rfl, rfl⟩
    · exact .inr ⟨by simp, rfl, by simp; omega, by simp; omega⟩

theorem fRest_get {a b : Int} {k : Nat} (h : k < (fRest a b).length) (d : Int) : (fRest a b).getD k d = a + k := by
  rw [fRest_len] at h
  simp [fRest, List.getD_eq_getElem?_getD, h]

theorem v5 (b : Int) (l : List (List Bool × Bool × Bool × Bool × Bool × Bool × Bool)) : bodyVC (ctxOf tab [(9, c9), (10, c10), (15, c15), (17, c17)]) Try.f5 c5 (a5 (b, l, ())) (b, l, ()) = (
True ∧
  ((!true) = true → false = true ∧ True) ∧
    ((!true) = false →
      (12 : Int) ≠ (0 : Int) ∧
        InR IntKind.i64 (b.tmod (12 : Int) + (1 : Int)) ∧
          True ∧
            ((!fFew l (b.tmod (12 : Int) + (1 : Int))) = true → true = true ∧ True) ∧
              ((!fFew l (b.tmod (12 : Int) + (1 : Int))) = false →
                True ∧
                  (∃ (s0 : Nat × LifeD × Int),
                      (s0.fst ≤ l.length ∧
                          s0.snd.fst.snd.snd.snd.length ≤ (12 : Nat) ∧
                            (s0.snd.fst.fst = (0 : Int) ∨
                                (1 : Int) ≤ s0.snd.fst.fst ∧
                                  s0.snd.fst.fst ≤ (3 : Int) ∧
                                    s0.snd.fst.snd.snd.snd.length = (b.tmod (12 : Int) + (1 : Int)).toNat ∧
                                      (0 : Int) ≤ s0.snd.fst.snd.fst ∧
                                        s0.snd.fst.snd.fst < (↑(b.tmod (12 : Int) + (1 : Int)).toNat : Int) ∧ s0.snd.fst.snd.snd.fst = s0.snd.fst.snd.snd.fst ∧ (s0.snd.fst.fst ≠ (3 : Int) → s0.snd.fst.snd.fst = (0 : Int))) ∧
                              (0 : Int) ≤ s0.snd.snd ∧ s0.snd.snd ≤ b.tmod (12 : Int) + (1 : Int) ∧ (s0.snd.fst.fst ≠ (0 : Int) → s0.snd.snd = s0.snd.fst.snd.fst)) ∧
                        (↑s0.fst : Int) = (0 : Int) ∧
                          s0.snd.snd = (0 : Int) ∧
                            l = l ∧
                              b.tmod (12 : Int) + (1 : Int) = b.tmod (12 : Int) + (1 : Int) ∧
                                s0.snd.fst.fst = (fBegin (b.tmod (12 : Int) + (1 : Int))).fst ∧
                                  s0.snd.fst.snd.fst = (fBegin (b.tmod (12 : Int) + (1 : Int))).snd.fst ∧
                                    s0.snd.fst.snd.snd.fst = (fBegin (b.tmod (12 : Int) + (1 : Int))).snd.snd.fst ∧ s0.snd.fst.snd.snd.snd = (fBegin (b.tmod (12 : Int) + (1 : Int))).snd.snd.snd ∧ True) ∧
                    ∀ (s : Nat × LifeD × Int),
                      s.fst ≤ l.length ∧
                          s.snd.fst.snd.snd.snd.length ≤ (12 : Nat) ∧
                            (s.snd.fst.fst = (0 : Int) ∨
                                (1 : Int) ≤ s.snd.fst.fst ∧
                                  s.snd.fst.fst ≤ (3 : Int) ∧
                                    s.snd.fst.snd.snd.snd.length = (b.tmod (12 : Int) + (1 : Int)).toNat ∧
                                      (0 : Int) ≤ s.snd.fst.snd.fst ∧
                                        s.snd.fst.snd.fst < (↑(b.tmod (12 : Int) + (1 : Int)).toNat : Int) ∧ s.snd.fst.snd.snd.fst = s.snd.fst.snd.snd.fst ∧ (s.snd.fst.fst ≠ (3 : Int) → s.snd.fst.snd.fst = (0 : Int))) ∧
                              (0 : Int) ≤ s.snd.snd ∧ s.snd.snd ≤ b.tmod (12 : Int) + (1 : Int) ∧ (s.snd.fst.fst ≠ (0 : Int) → s.snd.snd = s.snd.fst.snd.fst) →
                        (decide ((↑s.fst : Int) < (↑l.length : Int)) = true →
                            InB (↑s.fst : Int) l.length ∧
                              (s.snd.fst.snd.snd.snd.length ≤ (1000000 : Nat) ∧ (l.getD (↑s.fst : Int).toNat ([], false, false, false, false, false, false)).fst.length ≤ (1000000 : Nat)) ∧
                                (∃ (s0 : Nat),
                                    s0 ≤
                                        (fNext (s.snd.fst.fst, s.snd.fst.snd.fst, s.snd.fst.snd.snd.fst, s.snd.fst.snd.snd.snd)
                                              ((l.getD (↑s.fst : Int).toNat ([], false, false, false, false, false, false)).fst, (l.getD (↑s.fst : Int).toNat ([], false, false, false, false, false, false)).snd.fst,
                                                (l.getD (↑s.fst : Int).toNat ([], false, false, false, false, false, false)).snd.snd.fst,
                                                (l.getD (↑s.fst : Int).toNat ([], false, false, false, false, false, false)).snd.snd.snd.fst,
                                                (l.getD (↑s.fst : Int).toNat ([], false, false, false, false, false, false)).snd.snd.snd.snd.fst,
                                                (l.getD (↑s.fst : Int).toNat ([], false, false, false, false, false, false)).snd.snd.snd.snd.snd.fst,
                                                (l.getD (↑s.fst : Int).toNat ([], false, false, false, false, false, false)).snd.snd.snd.snd.snd.snd)).snd.length ∧
                                      (↑s0 : Int) = (0 : Int) ∧
                                        s.snd.snd + (↑s0 : Int) = s.snd.snd ∧
                                          l = l ∧
                                            b.tmod (12 : Int) + (1 : Int) = b.tmod (12 : Int) + (1 : Int) ∧
                                              (↑s.fst : Int) = (↑s.fst : Int) ∧
                                                (fNext (s.snd.fst.fst, s.snd.fst.snd.fst, s.snd.fst.snd.snd.fst, s.snd.fst.snd.snd.snd)
                                                        ((l.getD (↑s.fst : Int).toNat ([], false, false, false, false, false, false)).fst, (l.getD (↑s.fst : Int).toNat ([], false, false, false, false, false, false)).snd.fst,
                                                          (l.getD (↑s.fst : Int).toNat ([], false, false, false, false, false, false)).snd.snd.fst,
                                                          (l.getD (↑s.fst : Int).toNat ([], false, false, false, false, false, false)).snd.snd.snd.fst,
                                                          (l.getD (↑s.fst : Int).toNat ([], false, false, false, false, false, false)).snd.snd.snd.snd.fst,
                                                          (l.getD (↑s.fst : Int).toNat ([], false, false, false, false, false, false)).snd.snd.snd.snd.snd.fst,
                                                          (l.getD (↑s.fst : Int).toNat ([], false, false, false, false, false, false)).snd.snd.snd.snd.snd.snd)).snd =
                                                    (fNext (s.snd.fst.fst, s.snd.fst.snd.fst, s.snd.fst.snd.snd.fst, s.snd.fst.snd.snd.snd)
                                                        ((l.getD (↑s.fst : Int).toNat ([], false, false, false, false, false, false)).fst, (l.getD (↑s.fst : Int).toNat ([], false, false, false, false, false, false)).snd.fst,
                                                          (l.getD (↑s.fst : Int).toNat ([], false, false, false, false, false, false)).snd.snd.fst,
                                                          (l.getD (↑s.fst : Int).toNat ([], false, false, false, false, false, false)).snd.snd.snd.fst,
                                                          (l.getD (↑s.fst : Int).toNat ([], false, false, false, false, false, false)).snd.snd.snd.snd.fst,
                                                          (l.getD (↑s.fst : Int).toNat ([], false, false, false, false, false, false)).snd.snd.snd.snd.snd.fst,
                                                          (l.getD (↑s.fst : Int).toNat ([], false, false, false, false, false, false)).snd.snd.snd.snd.snd.snd)).snd ∧
                                                  s.snd.fst.fst = s.snd.fst.fst ∧
                                                    s.snd.fst.snd.fst = s.snd.fst.snd.fst ∧
                                                      s.snd.fst.snd.snd.fst = s.snd.fst.snd.snd.fst ∧
                                                        s.snd.fst.snd.snd.snd = s.snd.fst.snd.snd.snd ∧
                                                          (fNext (s.snd.fst.fst, s.snd.fst.snd.fst, s.snd.fst.snd.snd.fst, s.snd.fst.snd.snd.snd)
                                                                    ((l.getD (↑s.fst : Int).toNat ([], false, false, false, false, false, false)).fst,
                                                                      (l.getD (↑s.fst : Int).toNat ([], false, false, false, false, false, false)).snd.fst,
                                                                      (l.getD (↑s.fst : Int).toNat ([], false, false, false, false, false, false)).snd.snd.fst,
                                                                      (l.getD (↑s.fst : Int).toNat ([], false, false, false, false, false, false)).snd.snd.snd.fst,
                                                                      (l.getD (↑s.fst : Int).toNat ([], false, false, false, false, false, false)).snd.snd.snd.snd.fst,
                                                                      (l.getD (↑s.fst : Int).toNat ([], false, false, false, false, false, false)).snd.snd.snd.snd.snd.fst,
                                                                      (l.getD (↑s.fst : Int).toNat ([], false, false, false, false, false, false)).snd.snd.snd.snd.snd.snd)).fst.fst =
                                                              (fNext (s.snd.fst.fst, s.snd.fst.snd.fst, s.snd.fst.snd.snd.fst, s.snd.fst.snd.snd.snd)
                                                                    ((l.getD (↑s.fst : Int).toNat ([], false, false, false, false, false, false)).fst,
                                                                      (l.getD (↑s.fst : Int).toNat ([], false, false, false, false, false, false)).snd.fst,
                                                                      (l.getD (↑s.fst : Int).toNat ([], false, false, false, false, false, false)).snd.snd.fst,
                                                                      (l.getD (↑s.fst : Int).toNat ([], false, false, false, false, false, false)).snd.snd.snd.fst,
                                                                      (l.getD (↑s.fst : Int).toNat ([], false, false, false, false, false, false)).snd.snd.snd.snd.fst,
                                                                      (l.getD (↑s.fst : Int).toNat ([], false, false, false, false, false, false)).snd.snd.snd.snd.snd.fst,
                                                                      (l.getD (↑s.fst : Int).toNat ([], false, false, false, false, false, false)).snd.snd.snd.snd.snd.snd)).fst.fst ∧
                                                            (fNext (s.snd.fst.fst, s.snd.fst.snd.fst, s.snd.fst.snd.snd.fst, s.snd.fst.snd.snd.snd)
                                                                        ((l.getD (↑s.fst : Int).toNat ([], false, false, false, false, false, false)).fst,
                                                                          (l.getD (↑s.fst : Int).toNat ([], false, false, false, false, false, false)).snd.fst,
                                                                          (l.getD (↑s.fst : Int).toNat ([], false, false, false, false, false, false)).snd.snd.fst,
                                                                          (l.getD (↑s.fst : Int).toNat ([], false, false, false, false, false, false)).snd.snd.snd.fst,
                                                                          (l.getD (↑s.fst : Int).toNat ([], false, false, false, false, false, false)).snd.snd.snd.snd.fst,
                                                                          (l.getD (↑s.fst : Int).toNat ([], false, false, false, false, false, false)).snd.snd.snd.snd.snd.fst,
                                                                          (l.getD (↑s.fst : Int).toNat ([], false, false, false, false, false, false)).snd.snd.snd.snd.snd.snd)).fst.snd.fst =
                                                                (fNext (s.snd.fst.fst, s.snd.fst.snd.fst, s.snd.fst.snd.snd.fst, s.snd.fst.snd.snd.snd)
                                                                        ((l.getD (↑s.fst : Int).toNat ([], false, false, false, false, false, false)).fst,
                                                                          (l.getD (↑s.fst : Int).toNat ([], false, false, false, false, false, false)).snd.fst,
                                                                          (l.getD (↑s.fst : Int).toNat ([], false, false, false, false, false, false)).snd.snd.fst,
                                                                          (l.getD (↑s.fst : Int).toNat ([], false, false, false, false, false, false)).snd.snd.snd.fst,
                                                                          (l.getD (↑s.fst : Int).toNat ([], false, false, false, false, false, false)).snd.snd.snd.snd.fst,
                                                                          (l.getD (↑s.fst : Int).toNat ([], false, false, false, false, false, false)).snd.snd.snd.snd.snd.fst,
                                                                          (l.getD (↑s.fst : Int).toNat ([], false, false, false, false, false, false)).snd.snd.snd.snd.snd.snd)).fst.snd.fst ∧
                                                              (fNext (s.snd.fst.fst, s.snd.fst.snd.fst, s.snd.fst.snd.snd.fst, s.snd.fst.snd.snd.snd)
                                                                            ((l.getD (↑s.fst : Int).toNat ([], false, false, false, false, false, false)).fst,
                                                                              (l.getD (↑s.fst : Int).toNat ([], false, false, false, false, false, false)).snd.fst,
                                                                              (l.getD (↑s.fst : Int).toNat ([], false, false, false, false, false, false)).snd.snd.fst,
                                                                              (l.getD (↑s.fst : Int).toNat ([], false, false, false, false, false, false)).snd.snd.snd.fst,
                                                                              (l.getD (↑s.fst : Int).toNat ([], false, false, false, false, false, false)).snd.snd.snd.snd.fst,
                                                                              (l.getD (↑s.fst : Int).toNat ([], false, false, false, false, false, false)).snd.snd.snd.snd.snd.fst,
                                                                              (l.getD (↑s.fst : Int).toNat ([], false, false, false, false, false, false)).snd.snd.snd.snd.snd.snd)).fst.snd.snd.fst =
                                                                  (fNext (s.snd.fst.fst, s.snd.fst.snd.fst, s.snd.fst.snd.snd.fst, s.snd.fst.snd.snd.snd)
                                                                            ((l.getD (↑s.fst : Int).toNat ([], false, false, false, false, false, false)).fst,
                                                                              (l.getD (↑s.fst : Int).toNat ([], false, false, false, false, false, false)).snd.fst,
                                                                              (l.getD (↑s.fst : Int).toNat ([], false, false, false, false, false, false)).snd.snd.fst,
                                                                              (l.getD (↑s.fst : Int).toNat ([], false, false, false, false, false, false)).snd.snd.snd.fst,
                                                                              (l.getD (↑s.fst : Int).toNat ([], false, false, false, false, false, false)).snd.snd.snd.snd.fst,
                                                                              (l.getD (↑s.fst : Int).toNat ([], false, false, false, false, false, false)).snd.snd.snd.snd.snd.fst,
                                                                              (l.getD (↑s.fst : Int).toNat ([], false, false, false, false, false, false)).snd.snd.snd.snd.snd.snd)).fst.snd.snd.fst ∧
                                                                (fNext (s.snd.fst.fst, s.snd.fst.snd.fst, s.snd.fst.snd.snd.fst, s.snd.fst.snd.snd.snd)
                                                                              ((l.getD (↑s.fst : Int).toNat ([], false, false, false, false, false, false)).fst,
                                                                                (l.getD (↑s.fst : Int).toNat ([], false, false, false, false, false, false)).snd.fst,
                                                                                (l.getD (↑s.fst : Int).toNat ([], false, false, false, false, false, false)).snd.snd.fst,
                                                                                (l.getD (↑s.fst : Int).toNat ([], false, false, false, false, false, false)).snd.snd.snd.fst,
                                                                                (l.getD (↑s.fst : Int).toNat ([], false, false, false, false, false, false)).snd.snd.snd.snd.fst,
                                                                                (l.getD (↑s.fst : Int).toNat ([], false, false, false, false, false, false)).snd.snd.snd.snd.snd.fst,
                                                                                (l.getD (↑s.fst : Int).toNat ([], false, false, false, false, false, false)).snd.snd.snd.snd.snd.snd)).fst.snd.snd.snd =
                                                                    (fNext (s.snd.fst.fst, s.snd.fst.snd.fst, s.snd.fst.snd.snd.fst, s.snd.fst.snd.snd.snd)
                                                                              ((l.getD (↑s.fst : Int).toNat ([], false, false, false, false, false, false)).fst,
                                                                                (l.getD (↑s.fst : Int).toNat ([], false, false, false, false, false, false)).snd.fst,
                                                                                (l.getD (↑s.fst : Int).toNat ([], false, false, false, false, false, false)).snd.snd.fst,
                                                                                (l.getD (↑s.fst : Int).toNat ([], false, false, false, false, false, false)).snd.snd.snd.fst,
                                                                                (l.getD (↑s.fst : Int).toNat ([], false, false, false, false, false, false)).snd.snd.snd.snd.fst,
                                                                                (l.getD (↑s.fst : Int).toNat ([], false, false, false, false, false, false)).snd.snd.snd.snd.snd.fst,
                                                                                (l.getD (↑s.fst : Int).toNat ([], false, false, false, false, false, false)).snd.snd.snd.snd.snd.snd)).fst.snd.snd.snd ∧
                                                                  True) ∧
                                  ∀ (s_1 : Nat),
                                    s_1 ≤
                                        (fNext (s.snd.fst.fst, s.snd.fst.snd.fst, s.snd.fst.snd.snd.fst, s.snd.fst.snd.snd.snd)
                                              ((l.getD (↑s.fst : Int).toNat ([], false, false, false, false, false, false)).fst, (l.getD (↑s.fst : Int).toNat ([], false, false, false, false, false, false)).snd.fst,
                                                (l.getD (↑s.fst : Int).toNat ([], false, false, false, false, false, false)).snd.snd.fst,
                                                (l.getD (↑s.fst : Int).toNat ([], false, false, false, false, false, false)).snd.snd.snd.fst,
                                                (l.getD (↑s.fst : Int).toNat ([], false, false, false, false, false, false)).snd.snd.snd.snd.fst,
                                                (l.getD (↑s.fst : Int).toNat ([], false, false, false, false, false, false)).snd.snd.snd.snd.snd.fst,
                                                (l.getD (↑s.fst : Int).toNat ([], false, false, false, false, false, false)).snd.snd.snd.snd.snd.snd)).snd.length →
                                      (decide
                                              ((↑s_1 : Int) <
                                                (↑(fNext (s.snd.fst.fst, s.snd.fst.snd.fst, s.snd.fst.snd.snd.fst, s.snd.fst.snd.snd.snd)
                                                          ((l.getD (↑s.fst : Int).toNat ([], false, false, false, false, false, false)).fst, (l.getD (↑s.fst : Int).toNat ([], false, false, false, false, false, false)).snd.fst,
                                                            (l.getD (↑s.fst : Int).toNat ([], false, false, false, false, false, false)).snd.snd.fst,
                                                            (l.getD (↑s.fst : Int).toNat ([], false, false, false, false, false, false)).snd.snd.snd.fst,
                                                            (l.getD (↑s.fst : Int).toNat ([], false, false, false, false, false, false)).snd.snd.snd.snd.fst,
                                                            (l.getD (↑s.fst : Int).toNat ([], false, false, false, false, false, false)).snd.snd.snd.snd.snd.fst,
                                                            (l.getD (↑s.fst : Int).toNat ([], false, false, false, false, false, false)).snd.snd.snd.snd.snd.snd)).snd.length :
                                                  Int)) =
                                            true →
                                          InB (↑s_1 : Int)
                                              (fNext (s.snd.fst.fst, s.snd.fst.snd.fst, s.snd.fst.snd.snd.fst, s.snd.fst.snd.snd.snd)
                                                    ((l.getD (↑s.fst : Int).toNat ([], false, false, false, false, false, false)).fst, (l.getD (↑s.fst : Int).toNat ([], false, false, false, false, false, false)).snd.fst,
                                                      (l.getD (↑s.fst : Int).toNat ([], false, false, false, false, false, false)).snd.snd.fst,
                                                      (l.getD (↑s.fst : Int).toNat ([], false, false, false, false, false, false)).snd.snd.snd.fst,
                                                      (l.getD (↑s.fst : Int).toNat ([], false, false, false, false, false, false)).snd.snd.snd.snd.fst,
                                                      (l.getD (↑s.fst : Int).toNat ([], false, false, false, false, false, false)).snd.snd.snd.snd.snd.fst,
                                                      (l.getD (↑s.fst : Int).toNat ([], false, false, false, false, false, false)).snd.snd.snd.snd.snd.snd)).snd.length ∧
                                            (((fNext (s.snd.fst.fst, s.snd.fst.snd.fst, s.snd.fst.snd.snd.fst, s.snd.fst.snd.snd.snd)
                                                            ((l.getD (↑s.fst : Int).toNat ([], false, false, false, false, false, false)).fst, (l.getD (↑s.fst : Int).toNat ([], false, false, false, false, false, false)).snd.fst,
                                                              (l.getD (↑s.fst : Int).toNat ([], false, false, false, false, false, false)).snd.snd.fst,
                                                              (l.getD (↑s.fst : Int).toNat ([], false, false, false, false, false, false)).snd.snd.snd.fst,
                                                              (l.getD (↑s.fst : Int).toNat ([], false, false, false, false, false, false)).snd.snd.snd.snd.fst,
                                                              (l.getD (↑s.fst : Int).toNat ([], false, false, false, false, false, false)).snd.snd.snd.snd.snd.fst,
                                                              (l.getD (↑s.fst : Int).toNat ([], false, false, false, false, false, false)).snd.snd.snd.snd.snd.snd)).snd.getD
                                                      (↑s_1 : Int).toNat (0 : Int) !=
                                                    s.snd.snd + (↑s_1 : Int)) =
                                                  true →
                                                false = true ∧ True) ∧
                                              (((fNext (s.snd.fst.fst, s.snd.fst.snd.fst, s.snd.fst.snd.snd.fst, s.snd.fst.snd.snd.snd)
                                                            ((l.getD (↑s.fst : Int).toNat ([], false, false, false, false, false, false)).fst, (l.getD (↑s.fst : Int).toNat ([], false, false, false, false, false, false)).snd.fst,
                                                              (l.getD (↑s.fst : Int).toNat ([], false, false, false, false, false, false)).snd.snd.fst,
                                                              (l.getD (↑s.fst : Int).toNat ([], false, false, false, false, false, false)).snd.snd.snd.fst,
                                                              (l.getD (↑s.fst : Int).toNat ([], false, false, false, false, false, false)).snd.snd.snd.snd.fst,
                                                              (l.getD (↑s.fst : Int).toNat ([], false, false, false, false, false, false)).snd.snd.snd.snd.snd.fst,
                                                              (l.getD (↑s.fst : Int).toNat ([], false, false, false, false, false, false)).snd.snd.snd.snd.snd.snd)).snd.getD
                                                      (↑s_1 : Int).toNat (0 : Int) !=
                                                    s.snd.snd + (↑s_1 : Int)) =
                                                  false →
                                                InR IntKind.i64 (s.snd.snd + (↑s_1 : Int) + (1 : Int)) ∧
                                                  InR IntKind.i64 ((↑s_1 : Int) + (1 : Int)) ∧
                                                    ∃ (s' : Nat),
                                                      s' ≤
                                                          (fNext (s.snd.fst.fst, s.snd.fst.snd.fst, s.snd.fst.snd.snd.fst, s.snd.fst.snd.snd.snd)
                                                                ((l.getD (↑s.fst : Int).toNat ([], false, false, false, false, false, false)).fst,
                                                                  (l.getD (↑s.fst : Int).toNat ([], false, false, false, false, false, false)).snd.fst,
                                                                  (l.getD (↑s.fst : Int).toNat ([], false, false, false, false, false, false)).snd.snd.fst,
                                                                  (l.getD (↑s.fst : Int).toNat ([], false, false, false, false, false, false)).snd.snd.snd.fst,
                                                                  (l.getD (↑s.fst : Int).toNat ([], false, false, false, false, false, false)).snd.snd.snd.snd.fst,
                                                                  (l.getD (↑s.fst : Int).toNat ([], false, false, false, false, false, false)).snd.snd.snd.snd.snd.fst,
                                                                  (l.getD (↑s.fst : Int).toNat ([], false, false, false, false, false, false)).snd.snd.snd.snd.snd.snd)).snd.length ∧
                                                        (fNext (s.snd.fst.fst, s.snd.fst.snd.fst, s.snd.fst.snd.snd.fst, s.snd.fst.snd.snd.snd)
                                                                    ((l.getD (↑s.fst : Int).toNat ([], false, false, false, false, false, false)).fst,
                                                                      (l.getD (↑s.fst : Int).toNat ([], false, false, false, false, false, false)).snd.fst,
                                                                      (l.getD (↑s.fst : Int).toNat ([], false, false, false, false, false, false)).snd.snd.fst,
                                                                      (l.getD (↑s.fst : Int).toNat ([], false, false, false, false, false, false)).snd.snd.snd.fst,
                                                                      (l.getD (↑s.fst : Int).toNat ([], false, false, false, false, false, false)).snd.snd.snd.snd.fst,
                                                                      (l.getD (↑s.fst : Int).toNat ([], false, false, false, false, false, false)).snd.snd.snd.snd.snd.fst,
                                                                      (l.getD (↑s.fst : Int).toNat ([], false, false, false, false, false, false)).snd.snd.snd.snd.snd.snd)).snd.length -
                                                              s' <
                                                            (fNext (s.snd.fst.fst, s.snd.fst.snd.fst, s.snd.fst.snd.snd.fst, s.snd.fst.snd.snd.snd)
                                                                    ((l.getD (↑s.fst : Int).toNat ([], false, false, false, false, false, false)).fst,
                                                                      (l.getD (↑s.fst : Int).toNat ([], false, false, false, false, false, false)).snd.fst,
                                                                      (l.getD (↑s.fst : Int).toNat ([], false, false, false, false, false, false)).snd.snd.fst,
                                                                      (l.getD (↑s.fst : Int).toNat ([], false, false, false, false, false, false)).snd.snd.snd.fst,
                                                                      (l.getD (↑s.fst : Int).toNat ([], false, false, false, false, false, false)).snd.snd.snd.snd.fst,
                                                                      (l.getD (↑s.fst : Int).toNat ([], false, false, false, false, false, false)).snd.snd.snd.snd.snd.fst,
                                                                      (l.getD (↑s.fst : Int).toNat ([], false, false, false, false, false, false)).snd.snd.snd.snd.snd.snd)).snd.length -
                                                              s_1 ∧
                                                          (↑s' : Int) = (↑s_1 : Int) + (1 : Int) ∧
                                                            s.snd.snd + (↑s' : Int) = s.snd.snd + (↑s_1 : Int) + (1 : Int) ∧
                                                              l = l ∧
                                                                b.tmod (12 : Int) + (1 : Int) = b.tmod (12 : Int) + (1 : Int) ∧
                                                                  (↑s.fst : Int) = (↑s.fst : Int) ∧
                                                                    (fNext (s.snd.fst.fst, s.snd.fst.snd.fst, s.snd.fst.snd.snd.fst, s.snd.fst.snd.snd.snd)
                                                                            ((l.getD (↑s.fst : Int).toNat ([], false, false, false, false, false, false)).fst,
                                                                              (l.getD (↑s.fst : Int).toNat ([], false, false, false, false, false, false)).snd.fst,
                                                                              (l.getD (↑s.fst : Int).toNat ([], false, false, false, false, false, false)).snd.snd.fst,
                                                                              (l.getD (↑s.fst : Int).toNat ([], false, false, false, false, false, false)).snd.snd.snd.fst,
                                                                              (l.getD (↑s.fst : Int).toNat ([], false, false, false, false, false, false)).snd.snd.snd.snd.fst,
                                                                              (l.getD (↑s.fst : Int).toNat ([], false, false, false, false, false, false)).snd.snd.snd.snd.snd.fst,
                                                                              (l.getD (↑s.fst : Int).toNat ([], false, false, false, false, false, false)).snd.snd.snd.snd.snd.snd)).snd =
                                                                        (fNext (s.snd.fst.fst, s.snd.fst.snd.fst, s.snd.fst.snd.snd.fst, s.snd.fst.snd.snd.snd)
                                                                            ((l.getD (↑s.fst : Int).toNat ([], false, false, false, false, false, false)).fst,
                                                                              (l.getD (↑s.fst : Int).toNat ([], false, false, false, false, false, false)).snd.fst,
                                                                              (l.getD (↑s.fst : Int).toNat ([], false, false, false, false, false, false)).snd.snd.fst,
                                                                              (l.getD (↑s.fst : Int).toNat ([], false, false, false, false, false, false)).snd.snd.snd.fst,
                                                                              (l.getD (↑s.fst : Int).toNat ([], false, false, false, false, false, false)).snd.snd.snd.snd.fst,
                                                                              (l.getD (↑s.fst : Int).toNat ([], false, false, false, false, false, false)).snd.snd.snd.snd.snd.fst,
                                                                              (l.getD (↑s.fst : Int).toNat ([], false, false, false, false, false, false)).snd.snd.snd.snd.snd.snd)).snd ∧
                                                                      s.snd.fst.fst = s.snd.fst.fst ∧
                                                                        s.snd.fst.snd.fst = s.snd.fst.snd.fst ∧
                                                                          s.snd.fst.snd.snd.fst = s.snd.fst.snd.snd.fst ∧
                                                                            s.snd.fst.snd.snd.snd = s.snd.fst.snd.snd.snd ∧
                                                                              (fNext (s.snd.fst.fst, s.snd.fst.snd.fst, s.snd.fst.snd.snd.fst, s.snd.fst.snd.snd.snd)
                                                                                        ((l.getD (↑s.fst : Int).toNat ([], false, false, false, false, false, false)).fst,
                                                                                          (l.getD (↑s.fst : Int).toNat ([], false, false, false, false, false, false)).snd.fst,
                                                                                          (l.getD (↑s.fst : Int).toNat ([], false, false, false, false, false, false)).snd.snd.fst,
                                                                                          (l.getD (↑s.fst : Int).toNat ([], false, false, false, false, false, false)).snd.snd.snd.fst,
                                                                                          (l.getD (↑s.fst : Int).toNat ([], false, false, false, false, false, false)).snd.snd.snd.snd.fst,
                                                                                          (l.getD (↑s.fst : Int).toNat ([], false, false, false, false, false, false)).snd.snd.snd.snd.snd.fst,
                                                                                          (l.getD (↑s.fst : Int).toNat ([], false, false, false, false, false, false)).snd.snd.snd.snd.snd.snd)).fst.fst =
                                                                                  (fNext (s.snd.fst.fst, s.snd.fst.snd.fst, s.snd.fst.snd.snd.fst, s.snd.fst.snd.snd.snd)
                                                                                        ((l.getD (↑s.fst : Int).toNat ([], false, false, false, false, false, false)).fst,
                                                                                          (l.getD (↑s.fst : Int).toNat ([], false, false, false, false, false, false)).snd.fst,
                                                                                          (l.getD (↑s.fst : Int).toNat ([], false, false, false, false, false, false)).snd.snd.fst,
                                                                                          (l.getD (↑s.fst : Int).toNat ([], false, false, false, false, false, false)).snd.snd.snd.fst,
                                                                                          (l.getD (↑s.fst : Int).toNat ([], false, false, false, false, false, false)).snd.snd.snd.snd.fst,
                                                                                          (l.getD (↑s.fst : Int).toNat ([], false, false, false, false, false, false)).snd.snd.snd.snd.snd.fst,
                                                                                          (l.getD (↑s.fst : Int).toNat ([], false, false, false, false, false, false)).snd.snd.snd.snd.snd.snd)).fst.fst ∧
                                                                                (fNext (s.snd.fst.fst, s.snd.fst.snd.fst, s.snd.fst.snd.snd.fst, s.snd.fst.snd.snd.snd)
                                                                                            ((l.getD (↑s.fst : Int).toNat ([], false, false, false, false, false, false)).fst,
                                                                                              (l.getD (↑s.fst : Int).toNat ([], false, false, false, false, false, false)).snd.fst,
                                                                                              (l.getD (↑s.fst : Int).toNat ([], false, false, false, false, false, false)).snd.snd.fst,
                                                                                              (l.getD (↑s.fst : Int).toNat ([], false, false, false, false, false, false)).snd.snd.snd.fst,
                                                                                              (l.getD (↑s.fst : Int).toNat ([], false, false, false, false, false, false)).snd.snd.snd.snd.fst,
                                                                                              (l.getD (↑s.fst : Int).toNat ([], false, false, false, false, false, false)).snd.snd.snd.snd.snd.fst,
                                                                                              (l.getD (↑s.fst : Int).toNat ([], false, false, false, false, false, false)).snd.snd.snd.snd.snd.snd)).fst.snd.fst =
                                                                                    (fNext (s.snd.fst.fst, s.snd.fst.snd.fst, s.snd.fst.snd.snd.fst, s.snd.fst.snd.snd.snd)
                                                                                            ((l.getD (↑s.fst : Int).toNat ([], false, false, false, false, false, false)).fst,
                                                                                              (l.getD (↑s.fst : Int).toNat ([], false, false, false, false, false, false)).snd.fst,
                                                                                              (l.getD (↑s.fst : Int).toNat ([], false, false, false, false, false, false)).snd.snd.fst,
                                                                                              (l.getD (↑s.fst : Int).toNat ([], false, false, false, false, false, false)).snd.snd.snd.fst,
                                                                                              (l.getD (↑s.fst : Int).toNat ([], false, false, false, false, false, false)).snd.snd.snd.snd.fst,
                                                                                              (l.getD (↑s.fst : Int).toNat ([], false, false, false, false, false, false)).snd.snd.snd.snd.snd.fst,
                                                                                              (l.getD (↑s.fst : Int).toNat ([], false, false, false, false, false, false)).snd.snd.snd.snd.snd.snd)).fst.snd.fst ∧
                                                                                  (fNext (s.snd.fst.fst, s.snd.fst.snd.fst, s.snd.fst.snd.snd.fst, s.snd.fst.snd.snd.snd)
                                                                                                ((l.getD (↑s.fst : Int).toNat ([], false, false, false, false, false, false)).fst,
                                                                                                  (l.getD (↑s.fst : Int).toNat ([], false, false, false, false, false, false)).snd.fst,
                                                                                                  (l.getD (↑s.fst : Int).toNat ([], false, false, false, false, false, false)).snd.snd.fst,
                                                                                                  (l.getD (↑s.fst : Int).toNat ([], false, false, false, false, false, false)).snd.snd.snd.fst,
                                                                                                  (l.getD (↑s.fst : Int).toNat ([], false, false, false, false, false, false)).snd.snd.snd.snd.fst,
                                                                                                  (l.getD (↑s.fst : Int).toNat ([], false, false, false, false, false, false)).snd.snd.snd.snd.snd.fst,
                                                                                                  (l.getD (↑s.fst : Int).toNat ([], false, false, false, false, false, false)).snd.snd.snd.snd.snd.snd)).fst.snd.snd.fst =
                                                                                      (fNext (s.snd.fst.fst, s.snd.fst.snd.fst, s.snd.fst.snd.snd.fst, s.snd.fst.snd.snd.snd)
                                                                                                ((l.getD (↑s.fst : Int).toNat ([], false, false, false, false, false, false)).fst,
                                                                                                  (l.getD (↑s.fst : Int).toNat ([], false, false, false, false, false, false)).snd.fst,
                                                                                                  (l.getD (↑s.fst : Int).toNat ([], false, false, false, false, false, false)).snd.snd.fst,
                                                                                                  (l.getD (↑s.fst : Int).toNat ([], false, false, false, false, false, false)).snd.snd.snd.fst,
                                                                                                  (l.getD (↑s.fst : Int).toNat ([], false, false, false, false, false, false)).snd.snd.snd.snd.fst,
                                                                                                  (l.getD (↑s.fst : Int).toNat ([], false, false, false, false, false, false)).snd.snd.snd.snd.snd.fst,
                                                                                                  (l.getD (↑s.fst : Int).toNat ([], false, false, false, false, false, false)).snd.snd.snd.snd.snd.snd)).fst.snd.snd.fst ∧
                                                                                    (fNext (s.snd.fst.fst, s.snd.fst.snd.fst, s.snd.fst.snd.snd.fst, s.snd.fst.snd.snd.snd)
                                                                                                  ((l.getD (↑s.fst : Int).toNat ([], false, false, false, false, false, false)).fst,
                                                                                                    (l.getD (↑s.fst : Int).toNat ([], false, false, false, false, false, false)).snd.fst,
                                                                                                    (l.getD (↑s.fst : Int).toNat ([], false, false, false, false, false, false)).snd.snd.fst,
                                                                                                    (l.getD (↑s.fst : Int).toNat ([], false, false, false, false, false, false)).snd.snd.snd.fst,
                                                                                                    (l.getD (↑s.fst : Int).toNat ([], false, false, false, false, false, false)).snd.snd.snd.snd.fst,
                                                                                                    (l.getD (↑s.fst : Int).toNat ([], false, false, false, false, false, false)).snd.snd.snd.snd.snd.fst,
                                                                                                    (l.getD (↑s.fst : Int).toNat ([], false, false, false, false, false, false)).snd.snd.snd.snd.snd.snd)).fst.snd.snd.snd =
                                                                                        (fNext (s.snd.fst.fst, s.snd.fst.snd.fst, s.snd.fst.snd.snd.fst, s.snd.fst.snd.snd.snd)
                                                                                                  ((l.getD (↑s.fst : Int).toNat ([], false, false, false, false, false, false)).fst,
                                                                                                    (l.getD (↑s.fst : Int).toNat ([], false, false, false, false, false, false)).snd.fst,
                                                                                                    (l.getD (↑s.fst : Int).toNat ([], false, false, false, false, false, false)).snd.snd.fst,
                                                                                                    (l.getD (↑s.fst : Int).toNat ([], false, false, false, false, false, false)).snd.snd.snd.fst,
                                                                                                    (l.getD (↑s.fst : Int).toNat ([], false, false, false, false, false, false)).snd.snd.snd.snd.fst,
                                                                                                    (l.getD (↑s.fst : Int).toNat ([], false, false, false, false, false, false)).snd.snd.snd.snd.snd.fst,
                                                                                                    (l.getD (↑s.fst : Int).toNat ([], false, false, false, false, false, false)).snd.snd.snd.snd.snd.snd)).fst.snd.snd.snd ∧
                                                                                      True)) ∧
                                        (decide
                                              ((↑s_1 : Int) <
                                                (↑(fNext (s.snd.fst.fst, s.snd.fst.snd.fst, s.snd.fst.snd.snd.fst, s.snd.fst.snd.snd.snd)
                                                          ((l.getD (↑s.fst : Int).toNat ([], false, false, false, false, false, false)).fst, (l.getD (↑s.fst : Int).toNat ([], false, false, false, false, false, false)).snd.fst,
                                                            (l.getD (↑s.fst : Int).toNat ([], false, false, false, false, false, false)).snd.snd.fst,
                                                            (l.getD (↑s.fst : Int).toNat ([], false, false, false, false, false, false)).snd.snd.snd.fst,
                                                            (l.getD (↑s.fst : Int).toNat ([], false, false, false, false, false, false)).snd.snd.snd.snd.fst,
                                                            (l.getD (↑s.fst : Int).toNat ([], false, false, false, false, false, false)).snd.snd.snd.snd.snd.fst,
                                                            (l.getD (↑s.fst : Int).toNat ([], false, false, false, false, false, false)).snd.snd.snd.snd.snd.snd)).snd.length :
                                                  Int)) =
                                            false →
                                          ((bif
                                                    bif
                                                        bif
                                                            bif
                                                                (fNext (s.snd.fst.fst, s.snd.fst.snd.fst, s.snd.fst.snd.snd.fst, s.snd.fst.snd.snd.snd)
                                                                        ((l.getD (↑s.fst : Int).toNat ([], false, false, false, false, false, false)).fst,
                                                                          (l.getD (↑s.fst : Int).toNat ([], false, false, false, false, false, false)).snd.fst,
                                                                          (l.getD (↑s.fst : Int).toNat ([], false, false, false, false, false, false)).snd.snd.fst,
                                                                          (l.getD (↑s.fst : Int).toNat ([], false, false, false, false, false, false)).snd.snd.snd.fst,
                                                                          (l.getD (↑s.fst : Int).toNat ([], false, false, false, false, false, false)).snd.snd.snd.snd.fst,
                                                                          (l.getD (↑s.fst : Int).toNat ([], false, false, false, false, false, false)).snd.snd.snd.snd.snd.fst,
                                                                          (l.getD (↑s.fst : Int).toNat ([], false, false, false, false, false, false)).snd.snd.snd.snd.snd.snd)).fst.fst ==
                                                                  (0 : Int) then
                                                              s.snd.fst.fst != (0 : Int)
                                                            else false then
                                                          s.snd.snd + (↑s_1 : Int) != b.tmod (12 : Int) + (1 : Int)
                                                        else false then
                                                      true
                                                    else
                                                      bif
                                                          (fNext (s.snd.fst.fst, s.snd.fst.snd.fst, s.snd.fst.snd.snd.fst, s.snd.fst.snd.snd.snd)
                                                                  ((l.getD (↑s.fst : Int).toNat ([], false, false, false, false, false, false)).fst,
                                                                    (l.getD (↑s.fst : Int).toNat ([], false, false, false, false, false, false)).snd.fst,
                                                                    (l.getD (↑s.fst : Int).toNat ([], false, false, false, false, false, false)).snd.snd.fst,
                                                                    (l.getD (↑s.fst : Int).toNat ([], false, false, false, false, false, false)).snd.snd.snd.fst,
                                                                    (l.getD (↑s.fst : Int).toNat ([], false, false, false, false, false, false)).snd.snd.snd.snd.fst,
                                                                    (l.getD (↑s.fst : Int).toNat ([], false, false, false, false, false, false)).snd.snd.snd.snd.snd.fst,
                                                                    (l.getD (↑s.fst : Int).toNat ([], false, false, false, false, false, false)).snd.snd.snd.snd.snd.snd)).fst.fst !=
                                                            (0 : Int) then
                                                        (fNext (s.snd.fst.fst, s.snd.fst.snd.fst, s.snd.fst.snd.snd.fst, s.snd.fst.snd.snd.snd)
                                                                  ((l.getD (↑s.fst : Int).toNat ([], false, false, false, false, false, false)).fst,
                                                                    (l.getD (↑s.fst : Int).toNat ([], false, false, false, false, false, false)).snd.fst,
                                                                    (l.getD (↑s.fst : Int).toNat ([], false, false, false, false, false, false)).snd.snd.fst,
                                                                    (l.getD (↑s.fst : Int).toNat ([], false, false, false, false, false, false)).snd.snd.snd.fst,
                                                                    (l.getD (↑s.fst : Int).toNat ([], false, false, false, false, false, false)).snd.snd.snd.snd.fst,
                                                                    (l.getD (↑s.fst : Int).toNat ([], false, false, false, false, false, false)).snd.snd.snd.snd.snd.fst,
                                                                    (l.getD (↑s.fst : Int).toNat ([], false, false, false, false, false, false)).snd.snd.snd.snd.snd.snd)).fst.snd.fst !=
                                                          s.snd.snd + (↑s_1 : Int)
                                                      else false then
                                                  true
                                                else decide (s.snd.snd + (↑s_1 : Int) > b.tmod (12 : Int) + (1 : Int))) =
                                                true →
                                              false = true ∧ True) ∧
                                            ((bif
                                                    bif
                                                        bif
                                                            bif
                                                                (fNext (s.snd.fst.fst, s.snd.fst.snd.fst, s.snd.fst.snd.snd.fst, s.snd.fst.snd.snd.snd)
                                                                        ((l.getD (↑s.fst : Int).toNat ([], false, false, false, false, false, false)).fst,
                                                                          (l.getD (↑s.fst : Int).toNat ([], false, false, false, false, false, false)).snd.fst,
                                                                          (l.getD (↑s.fst : Int).toNat ([], false, false, false, false, false, false)).snd.snd.fst,
                                                                          (l.getD (↑s.fst : Int).toNat ([], false, false, false, false, false, false)).snd.snd.snd.fst,
                                                                          (l.getD (↑s.fst : Int).toNat ([], false, false, false, false, false, false)).snd.snd.snd.snd.fst,
                                                                          (l.getD (↑s.fst : Int).toNat ([], false, false, false, false, false, false)).snd.snd.snd.snd.snd.fst,
                                                                          (l.getD (↑s.fst : Int).toNat ([], false, false, false, false, false, false)).snd.snd.snd.snd.snd.snd)).fst.fst ==
                                                                  (0 : Int) then
                                                              s.snd.fst.fst != (0 : Int)
                                                            else false then
                                                          s.snd.snd + (↑s_1 : Int) != b.tmod (12 : Int) + (1 : Int)
                                                        else false then
                                                      true
                                                    else
                                                      bif
                                                          (fNext (s.snd.fst.fst, s.snd.fst.snd.fst, s.snd.fst.snd.snd.fst, s.snd.fst.snd.snd.snd)
                                                                  ((l.getD (↑s.fst : Int).toNat ([], false, false, false, false, false, false)).fst,
                                                                    (l.getD (↑s.fst : Int).toNat ([], false, false, false, false, false, false)).snd.fst,
                                                                    (l.getD (↑s.fst : Int).toNat ([], false, false, false, false, false, false)).snd.snd.fst,
                                                                    (l.getD (↑s.fst : Int).toNat ([], false, false, false, false, false, false)).snd.snd.snd.fst,
                                                                    (l.getD (↑s.fst : Int).toNat ([], false, false, false, false, false, false)).snd.snd.snd.snd.fst,
                                                                    (l.getD (↑s.fst : Int).toNat ([], false, false, false, false, false, false)).snd.snd.snd.snd.snd.fst,
                                                                    (l.getD (↑s.fst : Int).toNat ([], false, false, false, false, false, false)).snd.snd.snd.snd.snd.snd)).fst.fst !=
                                                            (0 : Int) then
                                                        (fNext (s.snd.fst.fst, s.snd.fst.snd.fst, s.snd.fst.snd.snd.fst, s.snd.fst.snd.snd.snd)
                                                                  ((l.getD (↑s.fst : Int).toNat ([], false, false, false, false, false, false)).fst,
                                                                    (l.getD (↑s.fst : Int).toNat ([], false, false, false, false, false, false)).snd.fst,
                                                                    (l.getD (↑s.fst : Int).toNat ([], false, false, false, false, false, false)).snd.snd.fst,
                                                                    (l.getD (↑s.fst : Int).toNat ([], false, false, false, false, false, false)).snd.snd.snd.fst,
                                                                    (l.getD (↑s.fst : Int).toNat ([], false, false, false, false, false, false)).snd.snd.snd.snd.fst,
                                                                    (l.getD (↑s.fst : Int).toNat ([], false, false, false, false, false, false)).snd.snd.snd.snd.snd.fst,
                                                                    (l.getD (↑s.fst : Int).toNat ([], false, false, false, false, false, false)).snd.snd.snd.snd.snd.snd)).fst.snd.fst !=
                                                          s.snd.snd + (↑s_1 : Int)
                                                      else false then
                                                  true
                                                else decide (s.snd.snd + (↑s_1 : Int) > b.tmod (12 : Int) + (1 : Int))) =
                                                false →
                                              InR IntKind.i64 ((↑s.fst : Int) + (1 : Int)) ∧
                                                ∃ (s' : Nat × LifeD × Int),
                                                  (s'.fst ≤ l.length ∧
                                                      s'.snd.fst.snd.snd.snd.length ≤ (12 : Nat) ∧
                                                        (s'.snd.fst.fst = (0 : Int) ∨
                                                            (1 : Int) ≤ s'.snd.fst.fst ∧
                                                              s'.snd.fst.fst ≤ (3 : Int) ∧
                                                                s'.snd.fst.snd.snd.snd.length = (b.tmod (12 : Int) + (1 : Int)).toNat ∧
                                                                  (0 : Int) ≤ s'.snd.fst.snd.fst ∧
                                                                    s'.snd.fst.snd.fst < (↑(b.tmod (12 : Int) + (1 : Int)).toNat : Int) ∧
                                                                      s'.snd.fst.snd.snd.fst = s'.snd.fst.snd.snd.fst ∧ (s'.snd.fst.fst ≠ (3 : Int) → s'.snd.fst.snd.fst = (0 : Int))) ∧
                                                          (0 : Int) ≤ s'.snd.snd ∧ s'.snd.snd ≤ b.tmod (12 : Int) + (1 : Int) ∧ (s'.snd.fst.fst ≠ (0 : Int) → s'.snd.snd = s'.snd.fst.snd.fst)) ∧
                                                    l.length - s'.fst < l.length - s.fst ∧
                                                      (↑s'.fst : Int) = (↑s.fst : Int) + (1 : Int) ∧
                                                        s'.snd.snd = s.snd.snd + (↑s_1 : Int) ∧
                                                          l = l ∧
                                                            b.tmod (12 : Int) + (1 : Int) = b.tmod (12 : Int) + (1 : Int) ∧
                                                              s'.snd.fst.fst =
                                                                  (fNext (s.snd.fst.fst, s.snd.fst.snd.fst, s.snd.fst.snd.snd.fst, s.snd.fst.snd.snd.snd)
                                                                        ((l.getD (↑s.fst : Int).toNat ([], false, false, false, false, false, false)).fst,
                                                                          (l.getD (↑s.fst : Int).toNat ([], false, false, false, false, false, false)).snd.fst,
                                                                          (l.getD (↑s.fst : Int).toNat ([], false, false, false, false, false, false)).snd.snd.fst,
                                                                          (l.getD (↑s.fst : Int).toNat ([], false, false, false, false, false, false)).snd.snd.snd.fst,
                                                                          (l.getD (↑s.fst : Int).toNat ([], false, false, false, false, false, false)).snd.snd.snd.snd.fst,
                                                                          (l.getD (↑s.fst : Int).toNat ([], false, false, false, false, false, false)).snd.snd.snd.snd.snd.fst,
                                                                          (l.getD (↑s.fst : Int).toNat ([], false, false, false, false, false, false)).snd.snd.snd.snd.snd.snd)).fst.fst ∧
                                                                s'.snd.fst.snd.fst =
                                                                    (fNext (s.snd.fst.fst, s.snd.fst.snd.fst, s.snd.fst.snd.snd.fst, s.snd.fst.snd.snd.snd)
                                                                            ((l.getD (↑s.fst : Int).toNat ([], false, false, false, false, false, false)).fst,
                                                                              (l.getD (↑s.fst : Int).toNat ([], false, false, false, false, false, false)).snd.fst,
                                                                              (l.getD (↑s.fst : Int).toNat ([], false, false, false, false, false, false)).snd.snd.fst,
                                                                              (l.getD (↑s.fst : Int).toNat ([], false, false, false, false, false, false)).snd.snd.snd.fst,
                                                                              (l.getD (↑s.fst : Int).toNat ([], false, false, false, false, false, false)).snd.snd.snd.snd.fst,
                                                                              (l.getD (↑s.fst : Int).toNat ([], false, false, false, false, false, false)).snd.snd.snd.snd.snd.fst,
                                                                              (l.getD (↑s.fst : Int).toNat ([], false, false, false, false, false, false)).snd.snd.snd.snd.snd.snd)).fst.snd.fst ∧
                                                                  s'.snd.fst.snd.snd.fst =
                                                                      (fNext (s.snd.fst.fst, s.snd.fst.snd.fst, s.snd.fst.snd.snd.fst, s.snd.fst.snd.snd.snd)
                                                                                ((l.getD (↑s.fst : Int).toNat ([], false, false, false, false, false, false)).fst,
                                                                                  (l.getD (↑s.fst : Int).toNat ([], false, false, false, false, false, false)).snd.fst,
                                                                                  (l.getD (↑s.fst : Int).toNat ([], false, false, false, false, false, false)).snd.snd.fst,
                                                                                  (l.getD (↑s.fst : Int).toNat ([], false, false, false, false, false, false)).snd.snd.snd.fst,
                                                                                  (l.getD (↑s.fst : Int).toNat ([], false, false, false, false, false, false)).snd.snd.snd.snd.fst,
                                                                                  (l.getD (↑s.fst : Int).toNat ([], false, false, false, false, false, false)).snd.snd.snd.snd.snd.fst,
                                                                                  (l.getD (↑s.fst : Int).toNat ([], false, false, false, false, false, false)).snd.snd.snd.snd.snd.snd)).fst.snd.snd.fst ∧
                                                                    s'.snd.fst.snd.snd.snd =
                                                                        (fNext (s.snd.fst.fst, s.snd.fst.snd.fst, s.snd.fst.snd.snd.fst, s.snd.fst.snd.snd.snd)
                                                                                  ((l.getD (↑s.fst : Int).toNat ([], false, false, false, false, false, false)).fst,
                                                                                    (l.getD (↑s.fst : Int).toNat ([], false, false, false, false, false, false)).snd.fst,
                                                                                    (l.getD (↑s.fst : Int).toNat ([], false, false, false, false, false, false)).snd.snd.fst,
                                                                                    (l.getD (↑s.fst : Int).toNat ([], false, false, false, false, false, false)).snd.snd.snd.fst,
                                                                                    (l.getD (↑s.fst : Int).toNat ([], false, false, false, false, false, false)).snd.snd.snd.snd.fst,
                                                                                    (l.getD (↑s.fst : Int).toNat ([], false, false, false, false, false, false)).snd.snd.snd.snd.snd.fst,
                                                                                    (l.getD (↑s.fst : Int).toNat ([], false, false, false, false, false, false)).snd.snd.snd.snd.snd.snd)).fst.snd.snd.snd ∧
                                                                      True))) ∧
                          (decide ((↑s.fst : Int) < (↑l.length : Int)) = false → true = true ∧ True)))) := by kernel_rfl

theorem b5 (b : Int) (l : List ViewD) (hb : 0 ≤ b) : bodyVC (ctxOf tab [(9, c9), (10, c10), (15, c15), (17, c17)]) Try.f5 c5 (a5 (b, l, ())) (b, l, ()) := by
  rw [v5]
  have e2 : ∀ v : ViewD, (v.fst, v.snd.fst, v.snd.snd.fst, v.snd.snd.snd.fst, v.snd.snd.snd.snd.fst, v.snd.snd.snd.snd.snd.fst, v.snd.snd.snd.snd.snd.snd) = v := fun _ => rfl
  have e3 : ∀ l : LifeD, (l.fst, l.snd.fst, l.snd.snd.fst, l.snd.snd.snd) = l := fun _ => rfl
  have h0n : (Int.toNat 0) = 0 := rfl
  have hN : 1 ≤ b.tmod 12 + 1 ∧ b.tmod 12 + 1 ≤ 12 := by
    rw [Int.tmod_eq_emod_of_nonneg hb]
    omega
  generalize b.tmod 12 + 1 = N at *
  simp only [e2, e3, h0n, Int.toNat_natCast, true_and, and_true, Bool.cond_true_left, Bool.cond_false_right]
  refine ⟨fun h => (by cases h), fun _ => ⟨by decide, inR64 (by omega) (by omega), fun _ => trivial, fun hf => ?_⟩⟩
  have hf : fFew l N = true := by simpa using hf
  have h60 : l.length ≤ 60 := by
    have hf' := hf
    unfold fFew at hf'
    simp only [Bool.and_eq_true, decide_eq_true_eq] at hf'
    exact hf'.1
  have hbg : (fBegin N).1 ≠ 0 ∧ (fBegin N).2.1 = 0 := by
    unfold fBegin
    rw [if_neg (by omega)]
    exact ⟨(by decide : (1 : Int) ≠ 0), rfl⟩
  have toGood : ∀ {x : LifeD}, (x.1 = 0 ∨ 1 ≤ x.1 ∧ x.1 ≤ 3 ∧ x.2.2.2.length = N.toNat ∧ 0 ≤ x.2.1 ∧ x.2.1 < (N.toNat : Int) ∧ (x.1 ≠ 3 → x.2.1 = 0)) → good N.toNat x x.2.2.1 := fun {x} h => by
    rcases h with h | ⟨a1, a2, a3, a4, a5, a6⟩
    · exact .inl h
    · exact .inr ⟨a1, a2, a3, a4, a5, rfl, a6⟩
  have ofGood : ∀ {x : LifeD} {off : Bool}, good N.toNat x off → (x.1 = 0 ∨ 1 ≤ x.1 ∧ x.1 ≤ 3 ∧ x.2.2.2.length = N.toNat ∧ 0 ≤ x.2.1 ∧ x.2.1 < (N.toNat : Int) ∧ (x.1 ≠ 3 → x.2.1 = 0)) := fun {x off} h => by
    rcases h with h | ⟨a1, a2, a3, a4, a5, _, a6⟩
    · exact .inl h
    · exact .inr ⟨a1, a2, a3, a4, a5, a6⟩
  refine ⟨⟨(0, fBegin N, 0), ⟨Nat.zero_le _, fBegin_len N, ofGood (begin_good hN.1 hN.2), Int.le_refl _, by show (0 : Int) ≤ N; omega, fun _ => hbg.2.symm⟩, rfl, rfl, rfl, rfl, rfl, rfl⟩, fun s ⟨s1, s2, hg, g1, g2, g3⟩ => ⟨fun hk => ?_, fun _ => trivial⟩⟩
  have hg := toGood hg
  have hk : s.1 < l.length := by simpa using hk
  have hv := fFew_at hf hk ([], false, false, false, false, false, false)
  generalize l.getD s.1 ([], false, false, false, false, false, false) = v at *
  have hv : v.1.length = N.toNat := by omega
  obtain ⟨k1, k2⟩ := fNext_lens s.2.1 v
  have hgn := next_good hg hv
  have hin : InB (s.1 : Int) l.length := ⟨by omega, by omega⟩
  -- what is released goes on where the front is
  have hout : ∃ e : Int, (fNext s.2.1 v).2 = fRest s.2.2 e ∧ s.2.2 ≤ e ∧ e ≤ N ∧ ((fNext s.2.1 v).1.1 = 0 → s.2.1.1 ≠ 0 → e = N) ∧ ((fNext s.2.1 v).1.1 ≠ 0 → e = (fNext s.2.1 v).1.2.1) := by
    by_cases h0 : s.2.1.1 = 0
    · rw [fNext_idle h0]
      exact ⟨s.2.2, by simp [fRest], Int.le_refl _, g2, fun _ h => absurd h0 h, fun h => absurd h0 h⟩
    · rw [g3 h0]
      rw [g3 h0] at g2
      have hNN : ((N.toNat : Nat) : Int) = N := by omega
      rcases next_out hg h0 hv with ⟨y0, y1⟩ | ⟨y0, y1, y2, y3⟩
      · exact ⟨N, by rw [y1, hNN], g2, Int.le_refl _, fun _ _ => rfl, fun h => absurd y0 h⟩
      · exact ⟨_, y1, y2, by omega, fun h => absurd h y0, fun _ => rfl⟩
  obtain ⟨e, o1, o2, o3, o4, o5⟩ := hout
  have hlen : (fNext s.2.1 v).2.length = (e - s.2.2).toNat := by rw [o1, fRest_len]
  refine ⟨hin, ⟨by omega, by omega⟩, ⟨0, Nat.zero_le _, rfl, by simp⟩, fun k hkl => ⟨fun hk2 => ?_, fun hk2 => ?_⟩⟩
  · have hk2 : k < (fNext s.2.1 v).2.length := by simpa using hk2
    have hget : (fNext s.2.1 v).2.getD k 0 = s.2.2 + k := by
      rw [o1] at hk2 ⊢
      exact fRest_get hk2 0
    refine ⟨⟨by omega, by omega⟩, fun h => ?_, fun _ => ⟨inR64 (by omega) (by omega), inR64 (by omega) (by omega), k + 1, by omega, by omega, by omega, by omega⟩⟩
    rw [hget] at h
    simp at h
  · have hk3 : k = (fNext s.2.1 v).2.length := by
      have : (fNext s.2.1 v).2.length ≤ k := by simpa using hk2
      omega
    have hke : s.2.2 + (k : Int) = e := by omega
    rw [hke]
    refine ⟨fun h => ?_, fun _ => ⟨inR64 (by omega) (by omega), (s.1 + 1, (fNext s.2.1 v).1, e), ⟨by show s.1 + 1 ≤ _; omega, by show (fNext s.2.1 v).1.2.2.2.length ≤ 12; omega, ofGood hgn, by show 0 ≤ e; omega, o3, o5⟩, by show l.length - (s.1 + 1) < _; omega, by show ((s.1 + 1 : Nat) : Int) = _; omega, rfl, rfl, rfl, rfl, rfl⟩⟩
    exfalso
    simp only [Bool.or_eq_true, Bool.and_eq_true, beq_iff_eq, bne_iff_ne, decide_eq_true_eq] at h
    rcases h with (⟨⟨h, h'⟩, h''⟩ | ⟨h, h'⟩) | h
    · exact h'' (o4 h h')
    · exact h' (o5 h).symm
    · omega

theorem ok5 : DOk Try.prog 5 c5 :=
  DOk.of' (l := [(9, c9), (10, c10), (15, c15), (17, c17)]) (wraps := []) (A := a5) tabOk ⟨ok9, ok10, ok15, ok17, trivial⟩ Try.func5 (by kernel_rfl) (by kernel_rfl) fun x hw _ => b5 x.1 x.2.1 hw.1.1

end Ytpjgggcaamigdaa
end Go.Proofs
