/-
  StageRuns, written out.
-/
import Derived.Test.YtpjgggcaamigdaaVtk
set_option maxRecDepth 100000
set_option linter.unusedVariables false
set_option maxHeartbeats 4000000
namespace Go.Proofs
open Go Go.Vc
namespace Ytpjgggcaamigdaa

theorem v4 (n : Int) (l : List (List Bool × Bool × Bool × Bool × Bool × Bool × Bool)) : bodyVC (ctxOf tab [(9, c9), (10, c10), (11, c11), (12, c12), (13, c13), (14, c14), (15, c15), (16, c16), (17, c17)]) Try.f4 c4 (a4 (n, l, ())) (n, l, ()) = (
True ∧
  ((!true) = true → false = true ∧ True) ∧
    ((!true) = false →
      True ∧
        True ∧
          (fBegin n).snd.snd.snd.length ≤ (1000000 : Nat) ∧
            ((!fSame ((fBegin n).fst, (fBegin n).snd.fst, (fBegin n).snd.snd.fst, (fBegin n).snd.snd.snd) ((fBegin n).fst, (fBegin n).snd.fst, (fBegin n).snd.snd.fst, (fBegin n).snd.snd.snd)) = true → false = true ∧ True) ∧
              ((!fSame ((fBegin n).fst, (fBegin n).snd.fst, (fBegin n).snd.snd.fst, (fBegin n).snd.snd.snd) ((fBegin n).fst, (fBegin n).snd.fst, (fBegin n).snd.snd.fst, (fBegin n).snd.snd.snd)) = false →
                True ∧
                  ((!fFew l (↑(fBegin n).snd.snd.snd.length : Int)) = true → true = true ∧ True) ∧
                    ((!fFew l (↑(fBegin n).snd.snd.snd.length : Int)) = false →
                      (∃ (s0 : Nat × LifeD),
                          (s0.fst ≤ l.length ∧ s0.snd.snd.snd.snd.length ≤ (12 : Nat)) ∧
                            (↑s0.fst : Int) = (0 : Int) ∧
                              l = l ∧
                                s0.snd.fst = (fBegin n).fst ∧
                                  s0.snd.snd.fst = (fBegin n).snd.fst ∧
                                    s0.snd.snd.snd.fst = (fBegin n).snd.snd.fst ∧
                                      s0.snd.snd.snd.snd = (fBegin n).snd.snd.snd ∧
                                        s0.snd.fst = (fBegin n).fst ∧ s0.snd.snd.fst = (fBegin n).snd.fst ∧ s0.snd.snd.snd.fst = (fBegin n).snd.snd.fst ∧ s0.snd.snd.snd.snd = (fBegin n).snd.snd.snd ∧ True) ∧
                        ∀ (s : Nat × LifeD),
                          s.fst ≤ l.length ∧ s.snd.snd.snd.snd.length ≤ (12 : Nat) →
                            (decide ((↑s.fst : Int) < (↑l.length : Int)) = true →
                                InB (↑s.fst : Int) l.length ∧
                                  (s.snd.snd.snd.snd.length ≤ (1000000 : Nat) ∧ (l.getD (↑s.fst : Int).toNat ([], false, false, false, false, false, false)).fst.length ≤ (1000000 : Nat)) ∧
                                    InB (↑s.fst : Int) l.length ∧
                                      True ∧
                                        (s.snd.snd.snd.snd.length ≤ (1000000 : Nat) ∧ (l.getD (↑s.fst : Int).toNat ([], false, false, false, false, false, false)).fst.length ≤ (1000000 : Nat)) ∧
                                          (fNext (s.snd.fst, s.snd.snd.fst, s.snd.snd.snd.fst, s.snd.snd.snd.snd)
                                                          ((l.getD (↑s.fst : Int).toNat ([], false, false, false, false, false, false)).fst, (l.getD (↑s.fst : Int).toNat ([], false, false, false, false, false, false)).snd.fst,
                                                            (l.getD (↑s.fst : Int).toNat ([], false, false, false, false, false, false)).snd.snd.fst,
                                                            (l.getD (↑s.fst : Int).toNat ([], false, false, false, false, false, false)).snd.snd.snd.fst,
                                                            (l.getD (↑s.fst : Int).toNat ([], false, false, false, false, false, false)).snd.snd.snd.snd.fst,
                                                            (l.getD (↑s.fst : Int).toNat ([], false, false, false, false, false, false)).snd.snd.snd.snd.snd.fst,
                                                            (l.getD (↑s.fst : Int).toNat ([], false, false, false, false, false, false)).snd.snd.snd.snd.snd.snd)).fst.snd.snd.snd.length ≤
                                              (1000000 : Nat) ∧
                                            ((!fSame
                                                      ((fNext (s.snd.fst, s.snd.snd.fst, s.snd.snd.snd.fst, s.snd.snd.snd.snd)
                                                              ((l.getD (↑s.fst : Int).toNat ([], false, false, false, false, false, false)).fst, (l.getD (↑s.fst : Int).toNat ([], false, false, false, false, false, false)).snd.fst,
                                                                (l.getD (↑s.fst : Int).toNat ([], false, false, false, false, false, false)).snd.snd.fst,
                                                                (l.getD (↑s.fst : Int).toNat ([], false, false, false, false, false, false)).snd.snd.snd.fst,
                                                                (l.getD (↑s.fst : Int).toNat ([], false, false, false, false, false, false)).snd.snd.snd.snd.fst,
                                                                (l.getD (↑s.fst : Int).toNat ([], false, false, false, false, false, false)).snd.snd.snd.snd.snd.fst,
                                                                (l.getD (↑s.fst : Int).toNat ([], false, false, false, false, false, false)).snd.snd.snd.snd.snd.snd)).fst.fst,
                                                        (fNext (s.snd.fst, s.snd.snd.fst, s.snd.snd.snd.fst, s.snd.snd.snd.snd)
                                                                ((l.getD (↑s.fst : Int).toNat ([], false, false, false, false, false, false)).fst,
                                                                  (l.getD (↑s.fst : Int).toNat ([], false, false, false, false, false, false)).snd.fst,
                                                                  (l.getD (↑s.fst : Int).toNat ([], false, false, false, false, false, false)).snd.snd.fst,
                                                                  (l.getD (↑s.fst : Int).toNat ([], false, false, false, false, false, false)).snd.snd.snd.fst,
                                                                  (l.getD (↑s.fst : Int).toNat ([], false, false, false, false, false, false)).snd.snd.snd.snd.fst,
                                                                  (l.getD (↑s.fst : Int).toNat ([], false, false, false, false, false, false)).snd.snd.snd.snd.snd.fst,
                                                                  (l.getD (↑s.fst : Int).toNat ([], false, false, false, false, false, false)).snd.snd.snd.snd.snd.snd)).fst.snd.fst,
                                                        (fNext (s.snd.fst, s.snd.snd.fst, s.snd.snd.snd.fst, s.snd.snd.snd.snd)
                                                                  ((l.getD (↑s.fst : Int).toNat ([], false, false, false, false, false, false)).fst,
                                                                    (l.getD (↑s.fst : Int).toNat ([], false, false, false, false, false, false)).snd.fst,
                                                                    (l.getD (↑s.fst : Int).toNat ([], false, false, false, false, false, false)).snd.snd.fst,
                                                                    (l.getD (↑s.fst : Int).toNat ([], false, false, false, false, false, false)).snd.snd.snd.fst,
                                                                    (l.getD (↑s.fst : Int).toNat ([], false, false, false, false, false, false)).snd.snd.snd.snd.fst,
                                                                    (l.getD (↑s.fst : Int).toNat ([], false, false, false, false, false, false)).snd.snd.snd.snd.snd.fst,
                                                                    (l.getD (↑s.fst : Int).toNat ([], false, false, false, false, false, false)).snd.snd.snd.snd.snd.snd)).fst.snd.snd.fst,
                                                        (fNext (s.snd.fst, s.snd.snd.fst, s.snd.snd.snd.fst, s.snd.snd.snd.snd)
                                                                  ((l.getD (↑s.fst : Int).toNat ([], false, false, false, false, false, false)).fst,
                                                                    (l.getD (↑s.fst : Int).toNat ([], false, false, false, false, false, false)).snd.fst,
                                                                    (l.getD (↑s.fst : Int).toNat ([], false, false, false, false, false, false)).snd.snd.fst,
                                                                    (l.getD (↑s.fst : Int).toNat ([], false, false, false, false, false, false)).snd.snd.snd.fst,
                                                                    (l.getD (↑s.fst : Int).toNat ([], false, false, false, false, false, false)).snd.snd.snd.snd.fst,
                                                                    (l.getD (↑s.fst : Int).toNat ([], false, false, false, false, false, false)).snd.snd.snd.snd.snd.fst,
                                                                    (l.getD (↑s.fst : Int).toNat ([], false, false, false, false, false, false)).snd.snd.snd.snd.snd.snd)).fst.snd.snd.snd)
                                                      ((fNext (s.snd.fst, s.snd.snd.fst, s.snd.snd.snd.fst, s.snd.snd.snd.snd)
                                                              ((l.getD (↑s.fst : Int).toNat ([], false, false, false, false, false, false)).fst, (l.getD (↑s.fst : Int).toNat ([], false, false, false, false, false, false)).snd.fst,
                                                                (l.getD (↑s.fst : Int).toNat ([], false, false, false, false, false, false)).snd.snd.fst,
                                                                (l.getD (↑s.fst : Int).toNat ([], false, false, false, false, false, false)).snd.snd.snd.fst,
                                                                (l.getD (↑s.fst : Int).toNat ([], false, false, false, false, false, false)).snd.snd.snd.snd.fst,
                                                                (l.getD (↑s.fst : Int).toNat ([], false, false, false, false, false, false)).snd.snd.snd.snd.snd.fst,
                                                                (l.getD (↑s.fst : Int).toNat ([], false, false, false, false, false, false)).snd.snd.snd.snd.snd.snd)).fst.fst,
                                                        (fNext (s.snd.fst, s.snd.snd.fst, s.snd.snd.snd.fst, s.snd.snd.snd.snd)
                                                                ((l.getD (↑s.fst : Int).toNat ([], false, false, false, false, false, false)).fst,
                                                                  (l.getD (↑s.fst : Int).toNat ([], false, false, false, false, false, false)).snd.fst,
                                                                  (l.getD (↑s.fst : Int).toNat ([], false, false, false, false, false, false)).snd.snd.fst,
                                                                  (l.getD (↑s.fst : Int).toNat ([], false, false, false, false, false, false)).snd.snd.snd.fst,
                                                                  (l.getD (↑s.fst : Int).toNat ([], false, false, false, false, false, false)).snd.snd.snd.snd.fst,
                                                                  (l.getD (↑s.fst : Int).toNat ([], false, false, false, false, false, false)).snd.snd.snd.snd.snd.fst,
                                                                  (l.getD (↑s.fst : Int).toNat ([], false, false, false, false, false, false)).snd.snd.snd.snd.snd.snd)).fst.snd.fst,
                                                        (fNext (s.snd.fst, s.snd.snd.fst, s.snd.snd.snd.fst, s.snd.snd.snd.snd)
                                                                  ((l.getD (↑s.fst : Int).toNat ([], false, false, false, false, false, false)).fst,
                                                                    (l.getD (↑s.fst : Int).toNat ([], false, false, false, false, false, false)).snd.fst,
                                                                    (l.getD (↑s.fst : Int).toNat ([], false, false, false, false, false, false)).snd.snd.fst,
                                                                    (l.getD (↑s.fst : Int).toNat ([], false, false, false, false, false, false)).snd.snd.snd.fst,
                                                                    (l.getD (↑s.fst : Int).toNat ([], false, false, false, false, false, false)).snd.snd.snd.snd.fst,
                                                                    (l.getD (↑s.fst : Int).toNat ([], false, false, false, false, false, false)).snd.snd.snd.snd.snd.fst,
                                                                    (l.getD (↑s.fst : Int).toNat ([], false, false, false, false, false, false)).snd.snd.snd.snd.snd.snd)).fst.snd.snd.fst,
                                                        (fNext (s.snd.fst, s.snd.snd.fst, s.snd.snd.snd.fst, s.snd.snd.snd.snd)
                                                                  ((l.getD (↑s.fst : Int).toNat ([], false, false, false, false, false, false)).fst,
                                                                    (l.getD (↑s.fst : Int).toNat ([], false, false, false, false, false, false)).snd.fst,
                                                                    (l.getD (↑s.fst : Int).toNat ([], false, false, false, false, false, false)).snd.snd.fst,
                                                                    (l.getD (↑s.fst : Int).toNat ([], false, false, false, false, false, false)).snd.snd.snd.fst,
                                                                    (l.getD (↑s.fst : Int).toNat ([], false, false, false, false, false, false)).snd.snd.snd.snd.fst,
                                                                    (l.getD (↑s.fst : Int).toNat ([], false, false, false, false, false, false)).snd.snd.snd.snd.snd.fst,
                                                                    (l.getD (↑s.fst : Int).toNat ([], false, false, false, false, false, false)).snd.snd.snd.snd.snd.snd)).fst.snd.snd.snd)) =
                                                  false →
                                                (fNext (s.snd.fst, s.snd.snd.fst, s.snd.snd.snd.fst, s.snd.snd.snd.snd)
                                                        ((l.getD (↑s.fst : Int).toNat ([], false, false, false, false, false, false)).fst, (l.getD (↑s.fst : Int).toNat ([], false, false, false, false, false, false)).snd.fst,
                                                          (l.getD (↑s.fst : Int).toNat ([], false, false, false, false, false, false)).snd.snd.fst,
                                                          (l.getD (↑s.fst : Int).toNat ([], false, false, false, false, false, false)).snd.snd.snd.fst,
                                                          (l.getD (↑s.fst : Int).toNat ([], false, false, false, false, false, false)).snd.snd.snd.snd.fst,
                                                          (l.getD (↑s.fst : Int).toNat ([], false, false, false, false, false, false)).snd.snd.snd.snd.snd.fst,
                                                          (l.getD (↑s.fst : Int).toNat ([], false, false, false, false, false, false)).snd.snd.snd.snd.snd.snd)).snd.length ≤
                                                  (1000000 : Nat)) ∧
                                              ((bif
                                                        !fSame
                                                            ((fNext (s.snd.fst, s.snd.snd.fst, s.snd.snd.snd.fst, s.snd.snd.snd.snd)
                                                                    ((l.getD (↑s.fst : Int).toNat ([], false, false, false, false, false, false)).fst,
                                                                      (l.getD (↑s.fst : Int).toNat ([], false, false, false, false, false, false)).snd.fst,
                                                                      (l.getD (↑s.fst : Int).toNat ([], false, false, false, false, false, false)).snd.snd.fst,
                                                                      (l.getD (↑s.fst : Int).toNat ([], false, false, false, false, false, false)).snd.snd.snd.fst,
                                                                      (l.getD (↑s.fst : Int).toNat ([], false, false, false, false, false, false)).snd.snd.snd.snd.fst,
                                                                      (l.getD (↑s.fst : Int).toNat ([], false, false, false, false, false, false)).snd.snd.snd.snd.snd.fst,
                                                                      (l.getD (↑s.fst : Int).toNat ([], false, false, false, false, false, false)).snd.snd.snd.snd.snd.snd)).fst.fst,
                                                              (fNext (s.snd.fst, s.snd.snd.fst, s.snd.snd.snd.fst, s.snd.snd.snd.snd)
                                                                      ((l.getD (↑s.fst : Int).toNat ([], false, false, false, false, false, false)).fst,
                                                                        (l.getD (↑s.fst : Int).toNat ([], false, false, false, false, false, false)).snd.fst,
                                                                        (l.getD (↑s.fst : Int).toNat ([], false, false, false, false, false, false)).snd.snd.fst,
                                                                        (l.getD (↑s.fst : Int).toNat ([], false, false, false, false, false, false)).snd.snd.snd.fst,
                                                                        (l.getD (↑s.fst : Int).toNat ([], false, false, false, false, false, false)).snd.snd.snd.snd.fst,
                                                                        (l.getD (↑s.fst : Int).toNat ([], false, false, false, false, false, false)).snd.snd.snd.snd.snd.fst,
                                                                        (l.getD (↑s.fst : Int).toNat ([], false, false, false, false, false, false)).snd.snd.snd.snd.snd.snd)).fst.snd.fst,
                                                              (fNext (s.snd.fst, s.snd.snd.fst, s.snd.snd.snd.fst, s.snd.snd.snd.snd)
                                                                        ((l.getD (↑s.fst : Int).toNat ([], false, false, false, false, false, false)).fst,
                                                                          (l.getD (↑s.fst : Int).toNat ([], false, false, false, false, false, false)).snd.fst,
                                                                          (l.getD (↑s.fst : Int).toNat ([], false, false, false, false, false, false)).snd.snd.fst,
                                                                          (l.getD (↑s.fst : Int).toNat ([], false, false, false, false, false, false)).snd.snd.snd.fst,
                                                                          (l.getD (↑s.fst : Int).toNat ([], false, false, false, false, false, false)).snd.snd.snd.snd.fst,
                                                                          (l.getD (↑s.fst : Int).toNat ([], false, false, false, false, false, false)).snd.snd.snd.snd.snd.fst,
                                                                          (l.getD (↑s.fst : Int).toNat ([], false, false, false, false, false, false)).snd.snd.snd.snd.snd.snd)).fst.snd.snd.fst,
                                                              (fNext (s.snd.fst, s.snd.snd.fst, s.snd.snd.snd.fst, s.snd.snd.snd.snd)
                                                                        ((l.getD (↑s.fst : Int).toNat ([], false, false, false, false, false, false)).fst,
                                                                          (l.getD (↑s.fst : Int).toNat ([], false, false, false, false, false, false)).snd.fst,
                                                                          (l.getD (↑s.fst : Int).toNat ([], false, false, false, false, false, false)).snd.snd.fst,
                                                                          (l.getD (↑s.fst : Int).toNat ([], false, false, false, false, false, false)).snd.snd.snd.fst,
                                                                          (l.getD (↑s.fst : Int).toNat ([], false, false, false, false, false, false)).snd.snd.snd.snd.fst,
                                                                          (l.getD (↑s.fst : Int).toNat ([], false, false, false, false, false, false)).snd.snd.snd.snd.snd.fst,
                                                                          (l.getD (↑s.fst : Int).toNat ([], false, false, false, false, false, false)).snd.snd.snd.snd.snd.snd)).fst.snd.snd.snd)
                                                            ((fNext (s.snd.fst, s.snd.snd.fst, s.snd.snd.snd.fst, s.snd.snd.snd.snd)
                                                                    ((l.getD (↑s.fst : Int).toNat ([], false, false, false, false, false, false)).fst,
                                                                      (l.getD (↑s.fst : Int).toNat ([], false, false, false, false, false, false)).snd.fst,
                                                                      (l.getD (↑s.fst : Int).toNat ([], false, false, false, false, false, false)).snd.snd.fst,
                                                                      (l.getD (↑s.fst : Int).toNat ([], false, false, false, false, false, false)).snd.snd.snd.fst,
                                                                      (l.getD (↑s.fst : Int).toNat ([], false, false, false, false, false, false)).snd.snd.snd.snd.fst,
                                                                      (l.getD (↑s.fst : Int).toNat ([], false, false, false, false, false, false)).snd.snd.snd.snd.snd.fst,
                                                                      (l.getD (↑s.fst : Int).toNat ([], false, false, false, false, false, false)).snd.snd.snd.snd.snd.snd)).fst.fst,
                                                              (fNext (s.snd.fst, s.snd.snd.fst, s.snd.snd.snd.fst, s.snd.snd.snd.snd)
                                                                      ((l.getD (↑s.fst : Int).toNat ([], false, false, false, false, false, false)).fst,
                                                                        (l.getD (↑s.fst : Int).toNat ([], false, false, false, false, false, false)).snd.fst,
                                                                        (l.getD (↑s.fst : Int).toNat ([], false, false, false, false, false, false)).snd.snd.fst,
                                                                        (l.getD (↑s.fst : Int).toNat ([], false, false, false, false, false, false)).snd.snd.snd.fst,
                                                                        (l.getD (↑s.fst : Int).toNat ([], false, false, false, false, false, false)).snd.snd.snd.snd.fst,
                                                                        (l.getD (↑s.fst : Int).toNat ([], false, false, false, false, false, false)).snd.snd.snd.snd.snd.fst,
                                                                        (l.getD (↑s.fst : Int).toNat ([], false, false, false, false, false, false)).snd.snd.snd.snd.snd.snd)).fst.snd.fst,
                                                              (fNext (s.snd.fst, s.snd.snd.fst, s.snd.snd.snd.fst, s.snd.snd.snd.snd)
                                                                        ((l.getD (↑s.fst : Int).toNat ([], false, false, false, false, false, false)).fst,
                                                                          (l.getD (↑s.fst : Int).toNat ([], false, false, false, false, false, false)).snd.fst,
                                                                          (l.getD (↑s.fst : Int).toNat ([], false, false, false, false, false, false)).snd.snd.fst,
                                                                          (l.getD (↑s.fst : Int).toNat ([], false, false, false, false, false, false)).snd.snd.snd.fst,
                                                                          (l.getD (↑s.fst : Int).toNat ([], false, false, false, false, false, false)).snd.snd.snd.snd.fst,
                                                                          (l.getD (↑s.fst : Int).toNat ([], false, false, false, false, false, false)).snd.snd.snd.snd.snd.fst,
                                                                          (l.getD (↑s.fst : Int).toNat ([], false, false, false, false, false, false)).snd.snd.snd.snd.snd.snd)).fst.snd.snd.fst,
                                                              (fNext (s.snd.fst, s.snd.snd.fst, s.snd.snd.snd.fst, s.snd.snd.snd.snd)
                                                                        ((l.getD (↑s.fst : Int).toNat ([], false, false, false, false, false, false)).fst,
                                                                          (l.getD (↑s.fst : Int).toNat ([], false, false, false, false, false, false)).snd.fst,
                                                                          (l.getD (↑s.fst : Int).toNat ([], false, false, false, false, false, false)).snd.snd.fst,
                                                                          (l.getD (↑s.fst : Int).toNat ([], false, false, false, false, false, false)).snd.snd.snd.fst,
                                                                          (l.getD (↑s.fst : Int).toNat ([], false, false, false, false, false, false)).snd.snd.snd.snd.fst,
                                                                          (l.getD (↑s.fst : Int).toNat ([], false, false, false, false, false, false)).snd.snd.snd.snd.snd.fst,
                                                                          (l.getD (↑s.fst : Int).toNat ([], false, false, false, false, false, false)).snd.snd.snd.snd.snd.snd)).fst.snd.snd.snd) then
                                                      true
                                                    else
                                                      !(fNext (s.snd.fst, s.snd.snd.fst, s.snd.snd.snd.fst, s.snd.snd.snd.snd)
                                                              ((l.getD (↑s.fst : Int).toNat ([], false, false, false, false, false, false)).fst, (l.getD (↑s.fst : Int).toNat ([], false, false, false, false, false, false)).snd.fst,
                                                                (l.getD (↑s.fst : Int).toNat ([], false, false, false, false, false, false)).snd.snd.fst,
                                                                (l.getD (↑s.fst : Int).toNat ([], false, false, false, false, false, false)).snd.snd.snd.fst,
                                                                (l.getD (↑s.fst : Int).toNat ([], false, false, false, false, false, false)).snd.snd.snd.snd.fst,
                                                                (l.getD (↑s.fst : Int).toNat ([], false, false, false, false, false, false)).snd.snd.snd.snd.snd.fst,
                                                                (l.getD (↑s.fst : Int).toNat ([], false, false, false, false, false, false)).snd.snd.snd.snd.snd.snd)).snd ==
                                                          (fNext (s.snd.fst, s.snd.snd.fst, s.snd.snd.snd.fst, s.snd.snd.snd.snd)
                                                              ((l.getD (↑s.fst : Int).toNat ([], false, false, false, false, false, false)).fst, (l.getD (↑s.fst : Int).toNat ([], false, false, false, false, false, false)).snd.fst,
                                                                (l.getD (↑s.fst : Int).toNat ([], false, false, false, false, false, false)).snd.snd.fst,
                                                                (l.getD (↑s.fst : Int).toNat ([], false, false, false, false, false, false)).snd.snd.snd.fst,
                                                                (l.getD (↑s.fst : Int).toNat ([], false, false, false, false, false, false)).snd.snd.snd.snd.fst,
                                                                (l.getD (↑s.fst : Int).toNat ([], false, false, false, false, false, false)).snd.snd.snd.snd.snd.fst,
                                                                (l.getD (↑s.fst : Int).toNat ([], false, false, false, false, false, false)).snd.snd.snd.snd.snd.snd)).snd) =
                                                    true →
                                                  false = true ∧ True) ∧
                                                ((bif
                                                        !fSame
                                                            ((fNext (s.snd.fst, s.snd.snd.fst, s.snd.snd.snd.fst, s.snd.snd.snd.snd)
                                                                    ((l.getD (↑s.fst : Int).toNat ([], false, false, false, false, false, false)).fst,
                                                                      (l.getD (↑s.fst : Int).toNat ([], false, false, false, false, false, false)).snd.fst,
                                                                      (l.getD (↑s.fst : Int).toNat ([], false, false, false, false, false, false)).snd.snd.fst,
                                                                      (l.getD (↑s.fst : Int).toNat ([], false, false, false, false, false, false)).snd.snd.snd.fst,
                                                                      (l.getD (↑s.fst : Int).toNat ([], false, false, false, false, false, false)).snd.snd.snd.snd.fst,
                                                                      (l.getD (↑s.fst : Int).toNat ([], false, false, false, false, false, false)).snd.snd.snd.snd.snd.fst,
                                                                      (l.getD (↑s.fst : Int).toNat ([], false, false, false, false, false, false)).snd.snd.snd.snd.snd.snd)).fst.fst,
                                                              (fNext (s.snd.fst, s.snd.snd.fst, s.snd.snd.snd.fst, s.snd.snd.snd.snd)
                                                                      ((l.getD (↑s.fst : Int).toNat ([], false, false, false, false, false, false)).fst,
                                                                        (l.getD (↑s.fst : Int).toNat ([], false, false, false, false, false, false)).snd.fst,
                                                                        (l.getD (↑s.fst : Int).toNat ([], false, false, false, false, false, false)).snd.snd.fst,
                                                                        (l.getD (↑s.fst : Int).toNat ([], false, false, false, false, false, false)).snd.snd.snd.fst,
                                                                        (l.getD (↑s.fst : Int).toNat ([], false, false, false, false, false, false)).snd.snd.snd.snd.fst,
                                                                        (l.getD (↑s.fst : Int).toNat ([], false, false, false, false, false, false)).snd.snd.snd.snd.snd.fst,
                                                                        (l.getD (↑s.fst : Int).toNat ([], false, false, false, false, false, false)).snd.snd.snd.snd.snd.snd)).fst.snd.fst,
                                                              (fNext (s.snd.fst, s.snd.snd.fst, s.snd.snd.snd.fst, s.snd.snd.snd.snd)
                                                                        ((l.getD (↑s.fst : Int).toNat ([], false, false, false, false, false, false)).fst,
                                                                          (l.getD (↑s.fst : Int).toNat ([], false, false, false, false, false, false)).snd.fst,
                                                                          (l.getD (↑s.fst : Int).toNat ([], false, false, false, false, false, false)).snd.snd.fst,
                                                                          (l.getD (↑s.fst : Int).toNat ([], false, false, false, false, false, false)).snd.snd.snd.fst,
                                                                          (l.getD (↑s.fst : Int).toNat ([], false, false, false, false, false, false)).snd.snd.snd.snd.fst,
                                                                          (l.getD (↑s.fst : Int).toNat ([], false, false, false, false, false, false)).snd.snd.snd.snd.snd.fst,
                                                                          (l.getD (↑s.fst : Int).toNat ([], false, false, false, false, false, false)).snd.snd.snd.snd.snd.snd)).fst.snd.snd.fst,
                                                              (fNext (s.snd.fst, s.snd.snd.fst, s.snd.snd.snd.fst, s.snd.snd.snd.snd)
                                                                        ((l.getD (↑s.fst : Int).toNat ([], false, false, false, false, false, false)).fst,
                                                                          (l.getD (↑s.fst : Int).toNat ([], false, false, false, false, false, false)).snd.fst,
                                                                          (l.getD (↑s.fst : Int).toNat ([], false, false, false, false, false, false)).snd.snd.fst,
                                                                          (l.getD (↑s.fst : Int).toNat ([], false, false, false, false, false, false)).snd.snd.snd.fst,
                                                                          (l.getD (↑s.fst : Int).toNat ([], false, false, false, false, false, false)).snd.snd.snd.snd.fst,
                                                                          (l.getD (↑s.fst : Int).toNat ([], false, false, false, false, false, false)).snd.snd.snd.snd.snd.fst,
                                                                          (l.getD (↑s.fst : Int).toNat ([], false, false, false, false, false, false)).snd.snd.snd.snd.snd.snd)).fst.snd.snd.snd)
                                                            ((fNext (s.snd.fst, s.snd.snd.fst, s.snd.snd.snd.fst, s.snd.snd.snd.snd)
                                                                    ((l.getD (↑s.fst : Int).toNat ([], false, false, false, false, false, false)).fst,
                                                                      (l.getD (↑s.fst : Int).toNat ([], false, false, false, false, false, false)).snd.fst,
                                                                      (l.getD (↑s.fst : Int).toNat ([], false, false, false, false, false, false)).snd.snd.fst,
                                                                      (l.getD (↑s.fst : Int).toNat ([], false, false, false, false, false, false)).snd.snd.snd.fst,
                                                                      (l.getD (↑s.fst : Int).toNat ([], false, false, false, false, false, false)).snd.snd.snd.snd.fst,
                                                                      (l.getD (↑s.fst : Int).toNat ([], false, false, false, false, false, false)).snd.snd.snd.snd.snd.fst,
                                                                      (l.getD (↑s.fst : Int).toNat ([], false, false, false, false, false, false)).snd.snd.snd.snd.snd.snd)).fst.fst,
                                                              (fNext (s.snd.fst, s.snd.snd.fst, s.snd.snd.snd.fst, s.snd.snd.snd.snd)
                                                                      ((l.getD (↑s.fst : Int).toNat ([], false, false, false, false, false, false)).fst,
                                                                        (l.getD (↑s.fst : Int).toNat ([], false, false, false, false, false, false)).snd.fst,
                                                                        (l.getD (↑s.fst : Int).toNat ([], false, false, false, false, false, false)).snd.snd.fst,
                                                                        (l.getD (↑s.fst : Int).toNat ([], false, false, false, false, false, false)).snd.snd.snd.fst,
                                                                        (l.getD (↑s.fst : Int).toNat ([], false, false, false, false, false, false)).snd.snd.snd.snd.fst,
                                                                        (l.getD (↑s.fst : Int).toNat ([], false, false, false, false, false, false)).snd.snd.snd.snd.snd.fst,
                                                                        (l.getD (↑s.fst : Int).toNat ([], false, false, false, false, false, false)).snd.snd.snd.snd.snd.snd)).fst.snd.fst,
                                                              (fNext (s.snd.fst, s.snd.snd.fst, s.snd.snd.snd.fst, s.snd.snd.snd.snd)
                                                                        ((l.getD (↑s.fst : Int).toNat ([], false, false, false, false, false, false)).fst,
                                                                          (l.getD (↑s.fst : Int).toNat ([], false, false, false, false, false, false)).snd.fst,
                                                                          (l.getD (↑s.fst : Int).toNat ([], false, false, false, false, false, false)).snd.snd.fst,
                                                                          (l.getD (↑s.fst : Int).toNat ([], false, false, false, false, false, false)).snd.snd.snd.fst,
                                                                          (l.getD (↑s.fst : Int).toNat ([], false, false, false, false, false, false)).snd.snd.snd.snd.fst,
                                                                          (l.getD (↑s.fst : Int).toNat ([], false, false, false, false, false, false)).snd.snd.snd.snd.snd.fst,
                                                                          (l.getD (↑s.fst : Int).toNat ([], false, false, false, false, false, false)).snd.snd.snd.snd.snd.snd)).fst.snd.snd.fst,
                                                              (fNext (s.snd.fst, s.snd.snd.fst, s.snd.snd.snd.fst, s.snd.snd.snd.snd)
                                                                        ((l.getD (↑s.fst : Int).toNat ([], false, false, false, false, false, false)).fst,
                                                                          (l.getD (↑s.fst : Int).toNat ([], false, false, false, false, false, false)).snd.fst,
                                                                          (l.getD (↑s.fst : Int).toNat ([], false, false, false, false, false, false)).snd.snd.fst,
                                                                          (l.getD (↑s.fst : Int).toNat ([], false, false, false, false, false, false)).snd.snd.snd.fst,
                                                                          (l.getD (↑s.fst : Int).toNat ([], false, false, false, false, false, false)).snd.snd.snd.snd.fst,
                                                                          (l.getD (↑s.fst : Int).toNat ([], false, false, false, false, false, false)).snd.snd.snd.snd.snd.fst,
                                                                          (l.getD (↑s.fst : Int).toNat ([], false, false, false, false, false, false)).snd.snd.snd.snd.snd.snd)).fst.snd.snd.snd) then
                                                      true
                                                    else
                                                      !(fNext (s.snd.fst, s.snd.snd.fst, s.snd.snd.snd.fst, s.snd.snd.snd.snd)
                                                              ((l.getD (↑s.fst : Int).toNat ([], false, false, false, false, false, false)).fst, (l.getD (↑s.fst : Int).toNat ([], false, false, false, false, false, false)).snd.fst,
                                                                (l.getD (↑s.fst : Int).toNat ([], false, false, false, false, false, false)).snd.snd.fst,
                                                                (l.getD (↑s.fst : Int).toNat ([], false, false, false, false, false, false)).snd.snd.snd.fst,
                                                                (l.getD (↑s.fst : Int).toNat ([], false, false, false, false, false, false)).snd.snd.snd.snd.fst,
                                                                (l.getD (↑s.fst : Int).toNat ([], false, false, false, false, false, false)).snd.snd.snd.snd.snd.fst,
                                                                (l.getD (↑s.fst : Int).toNat ([], false, false, false, false, false, false)).snd.snd.snd.snd.snd.snd)).snd ==
                                                          (fNext (s.snd.fst, s.snd.snd.fst, s.snd.snd.snd.fst, s.snd.snd.snd.snd)
                                                              ((l.getD (↑s.fst : Int).toNat ([], false, false, false, false, false, false)).fst, (l.getD (↑s.fst : Int).toNat ([], false, false, false, false, false, false)).snd.fst,
                                                                (l.getD (↑s.fst : Int).toNat ([], false, false, false, false, false, false)).snd.snd.fst,
                                                                (l.getD (↑s.fst : Int).toNat ([], false, false, false, false, false, false)).snd.snd.snd.fst,
                                                                (l.getD (↑s.fst : Int).toNat ([], false, false, false, false, false, false)).snd.snd.snd.snd.fst,
                                                                (l.getD (↑s.fst : Int).toNat ([], false, false, false, false, false, false)).snd.snd.snd.snd.snd.fst,
                                                                (l.getD (↑s.fst : Int).toNat ([], false, false, false, false, false, false)).snd.snd.snd.snd.snd.snd)).snd) =
                                                    false →
                                                  InR IntKind.i64 ((↑s.fst : Int) + (1 : Int)) ∧
                                                    ∃ (s' : Nat × LifeD),
                                                      (s'.fst ≤ l.length ∧ s'.snd.snd.snd.snd.length ≤ (12 : Nat)) ∧
                                                        l.length - s'.fst < l.length - s.fst ∧
                                                          (↑s'.fst : Int) = (↑s.fst : Int) + (1 : Int) ∧
                                                            l = l ∧
                                                              s'.snd.fst =
                                                                  (fNext (s.snd.fst, s.snd.snd.fst, s.snd.snd.snd.fst, s.snd.snd.snd.snd)
                                                                        ((l.getD (↑s.fst : Int).toNat ([], false, false, false, false, false, false)).fst,
                                                                          (l.getD (↑s.fst : Int).toNat ([], false, false, false, false, false, false)).snd.fst,
                                                                          (l.getD (↑s.fst : Int).toNat ([], false, false, false, false, false, false)).snd.snd.fst,
                                                                          (l.getD (↑s.fst : Int).toNat ([], false, false, false, false, false, false)).snd.snd.snd.fst,
                                                                          (l.getD (↑s.fst : Int).toNat ([], false, false, false, false, false, false)).snd.snd.snd.snd.fst,
                                                                          (l.getD (↑s.fst : Int).toNat ([], false, false, false, false, false, false)).snd.snd.snd.snd.snd.fst,
                                                                          (l.getD (↑s.fst : Int).toNat ([], false, false, false, false, false, false)).snd.snd.snd.snd.snd.snd)).fst.fst ∧
                                                                s'.snd.snd.fst =
                                                                    (fNext (s.snd.fst, s.snd.snd.fst, s.snd.snd.snd.fst, s.snd.snd.snd.snd)
                                                                            ((l.getD (↑s.fst : Int).toNat ([], false, false, false, false, false, false)).fst,
                                                                              (l.getD (↑s.fst : Int).toNat ([], false, false, false, false, false, false)).snd.fst,
                                                                              (l.getD (↑s.fst : Int).toNat ([], false, false, false, false, false, false)).snd.snd.fst,
                                                                              (l.getD (↑s.fst : Int).toNat ([], false, false, false, false, false, false)).snd.snd.snd.fst,
                                                                              (l.getD (↑s.fst : Int).toNat ([], false, false, false, false, false, false)).snd.snd.snd.snd.fst,
                                                                              (l.getD (↑s.fst : Int).toNat ([], false, false, false, false, false, false)).snd.snd.snd.snd.snd.fst,
                                                                              (l.getD (↑s.fst : Int).toNat ([], false, false, false, false, false, false)).snd.snd.snd.snd.snd.snd)).fst.snd.fst ∧
                                                                  s'.snd.snd.snd.fst =
                                                                      (fNext (s.snd.fst, s.snd.snd.fst, s.snd.snd.snd.fst, s.snd.snd.snd.snd)
                                                                                ((l.getD (↑s.fst : Int).toNat ([], false, false, false, false, false, false)).fst,
                                                                                  (l.getD (↑s.fst : Int).toNat ([], false, false, false, false, false, false)).snd.fst,
                                                                                  (l.getD (↑s.fst : Int).toNat ([], false, false, false, false, false, false)).snd.snd.fst,
                                                                                  (l.getD (↑s.fst : Int).toNat ([], false, false, false, false, false, false)).snd.snd.snd.fst,
                                                                                  (l.getD (↑s.fst : Int).toNat ([], false, false, false, false, false, false)).snd.snd.snd.snd.fst,
                                                                                  (l.getD (↑s.fst : Int).toNat ([], false, false, false, false, false, false)).snd.snd.snd.snd.snd.fst,
                                                                                  (l.getD (↑s.fst : Int).toNat ([], false, false, false, false, false, false)).snd.snd.snd.snd.snd.snd)).fst.snd.snd.fst ∧
                                                                    s'.snd.snd.snd.snd =
                                                                        (fNext (s.snd.fst, s.snd.snd.fst, s.snd.snd.snd.fst, s.snd.snd.snd.snd)
                                                                                  ((l.getD (↑s.fst : Int).toNat ([], false, false, false, false, false, false)).fst,
                                                                                    (l.getD (↑s.fst : Int).toNat ([], false, false, false, false, false, false)).snd.fst,
                                                                                    (l.getD (↑s.fst : Int).toNat ([], false, false, false, false, false, false)).snd.snd.fst,
                                                                                    (l.getD (↑s.fst : Int).toNat ([], false, false, false, false, false, false)).snd.snd.snd.fst,
                                                                                    (l.getD (↑s.fst : Int).toNat ([], false, false, false, false, false, false)).snd.snd.snd.snd.fst,
                                                                                    (l.getD (↑s.fst : Int).toNat ([], false, false, false, false, false, false)).snd.snd.snd.snd.snd.fst,
                                                                                    (l.getD (↑s.fst : Int).toNat ([], false, false, false, false, false, false)).snd.snd.snd.snd.snd.snd)).fst.snd.snd.snd ∧
                                                                      s'.snd.fst =
                                                                          (fNext (s.snd.fst, s.snd.snd.fst, s.snd.snd.snd.fst, s.snd.snd.snd.snd)
                                                                                ((l.getD (↑s.fst : Int).toNat ([], false, false, false, false, false, false)).fst,
                                                                                  (l.getD (↑s.fst : Int).toNat ([], false, false, false, false, false, false)).snd.fst,
                                                                                  (l.getD (↑s.fst : Int).toNat ([], false, false, false, false, false, false)).snd.snd.fst,
                                                                                  (l.getD (↑s.fst : Int).toNat ([], false, false, false, false, false, false)).snd.snd.snd.fst,
                                                                                  (l.getD (↑s.fst : Int).toNat ([], false, false, false, false, false, false)).snd.snd.snd.snd.fst,
                                                                                  (l.getD (↑s.fst : Int).toNat ([], false, false, false, false, false, false)).snd.snd.snd.snd.snd.fst,
                                                                                  (l.getD (↑s.fst : Int).toNat ([], false, false, false, false, false, false)).snd.snd.snd.snd.snd.snd)).fst.fst ∧
                                                                        s'.snd.snd.fst =
                                                                            (fNext (s.snd.fst, s.snd.snd.fst, s.snd.snd.snd.fst, s.snd.snd.snd.snd)
                                                                                    ((l.getD (↑s.fst : Int).toNat ([], false, false, false, false, false, false)).fst,
                                                                                      (l.getD (↑s.fst : Int).toNat ([], false, false, false, false, false, false)).snd.fst,
                                                                                      (l.getD (↑s.fst : Int).toNat ([], false, false, false, false, false, false)).snd.snd.fst,
                                                                                      (l.getD (↑s.fst : Int).toNat ([], false, false, false, false, false, false)).snd.snd.snd.fst,
                                                                                      (l.getD (↑s.fst : Int).toNat ([], false, false, false, false, false, false)).snd.snd.snd.snd.fst,
                                                                                      (l.getD (↑s.fst : Int).toNat ([], false, false, false, false, false, false)).snd.snd.snd.snd.snd.fst,
                                                                                      (l.getD (↑s.fst : Int).toNat ([], false, false, false, false, false, false)).snd.snd.snd.snd.snd.snd)).fst.snd.fst ∧
                                                                          s'.snd.snd.snd.fst =
                                                                              (fNext (s.snd.fst, s.snd.snd.fst, s.snd.snd.snd.fst, s.snd.snd.snd.snd)
                                                                                        ((l.getD (↑s.fst : Int).toNat ([], false, false, false, false, false, false)).fst,
                                                                                          (l.getD (↑s.fst : Int).toNat ([], false, false, false, false, false, false)).snd.fst,
                                                                                          (l.getD (↑s.fst : Int).toNat ([], false, false, false, false, false, false)).snd.snd.fst,
                                                                                          (l.getD (↑s.fst : Int).toNat ([], false, false, false, false, false, false)).snd.snd.snd.fst,
                                                                                          (l.getD (↑s.fst : Int).toNat ([], false, false, false, false, false, false)).snd.snd.snd.snd.fst,
                                                                                          (l.getD (↑s.fst : Int).toNat ([], false, false, false, false, false, false)).snd.snd.snd.snd.snd.fst,
                                                                                          (l.getD (↑s.fst : Int).toNat ([], false, false, false, false, false, false)).snd.snd.snd.snd.snd.snd)).fst.snd.snd.fst ∧
                                                                            s'.snd.snd.snd.snd =
                                                                                (fNext (s.snd.fst, s.snd.snd.fst, s.snd.snd.snd.fst, s.snd.snd.snd.snd)
                                                                                          ((l.getD (↑s.fst : Int).toNat ([], false, false, false, false, false, false)).fst,
                                                                                            (l.getD (↑s.fst : Int).toNat ([], false, false, false, false, false, false)).snd.fst,
                                                                                            (l.getD (↑s.fst : Int).toNat ([], false, false, false, false, false, false)).snd.snd.fst,
                                                                                            (l.getD (↑s.fst : Int).toNat ([], false, false, false, false, false, false)).snd.snd.snd.fst,
                                                                                            (l.getD (↑s.fst : Int).toNat ([], false, false, false, false, false, false)).snd.snd.snd.snd.fst,
                                                                                            (l.getD (↑s.fst : Int).toNat ([], false, false, false, false, false, false)).snd.snd.snd.snd.snd.fst,
                                                                                            (l.getD (↑s.fst : Int).toNat ([], false, false, false, false, false, false)).snd.snd.snd.snd.snd.snd)).fst.snd.snd.snd ∧
                                                                              True)) ∧
                              (decide ((↑s.fst : Int) < (↑l.length : Int)) = false → true = true ∧ True))))) := by kernel_rfl

theorem fBegin_len (n : Int) : (fBegin n).2.2.2.length ≤ 12 := by
  unfold fBegin
  split
  · exact Nat.zero_le _
  · simp
    omega

theorem fFew_at {l : List ViewD} {n : Int} (h : fFew l n = true) {k : Nat} (hk : k < l.length) (d : ViewD) : ((l.getD k d).1.length : Int) = n := by
  unfold fFew at h
  simp only [Bool.and_eq_true, List.all_eq_true, beq_iff_eq] at h
  have hg : l.getD k d = l[k] := by simp [List.getD_eq_getElem?_getD, hk]
  rw [hg]
  exact h.2 _ (List.getElem_mem hk)

theorem b4 (n : Int) (l : List ViewD) : bodyVC (ctxOf tab [(9, c9), (10, c10), (11, c11), (12, c12), (13, c13), (14, c14), (15, c15), (16, c16), (17, c17)]) Try.f4 c4 (a4 (n, l, ())) (n, l, ()) := by
  rw [v4]
  have e2 : ∀ v : ViewD, (v.fst, v.snd.fst, v.snd.snd.fst, v.snd.snd.snd.fst, v.snd.snd.snd.snd.fst, v.snd.snd.snd.snd.snd.fst, v.snd.snd.snd.snd.snd.snd) = v := fun _ => rfl
  have e3 : ∀ l : LifeD, (l.fst, l.snd.fst, l.snd.snd.fst, l.snd.snd.snd) = l := fun _ => rfl
  simp only [e2, e3, fSame_refl, Int.toNat_natCast, true_and, and_true]
  have hb := fBegin_len n
  refine ⟨fun h => (by cases h), fun _ => ⟨by omega, fun h => (by cases h), fun _ => ⟨fun _ => trivial, fun hf => ?_⟩⟩⟩
  have hf : fFew l (fBegin n).2.2.2.length = true := by simpa using hf
  have h60 : l.length ≤ 60 := by
    have hf' := hf
    unfold fFew at hf'
    simp only [Bool.and_eq_true, decide_eq_true_eq] at hf'
    exact hf'.1
  refine ⟨⟨(0, fBegin n), ⟨Nat.zero_le _, hb⟩, rfl, rfl, rfl, rfl, rfl, rfl, rfl, rfl, rfl⟩, fun s ⟨s1, s2⟩ => ⟨fun hk => ?_, fun _ => trivial⟩⟩
  have hk : s.1 < l.length := by simpa using hk
  have hv := fFew_at hf hk ([], false, false, false, false, false, false)
  generalize l.getD s.1 ([], false, false, false, false, false, false) = v at *
  obtain ⟨k1, k2⟩ := fNext_lens s.2 v
  refine ⟨⟨by omega, by omega⟩, ⟨by omega, by omega⟩, ⟨by omega, by omega⟩, ⟨by omega, by omega⟩, by omega, fun _ => by omega, fun h => ?_, fun _ => ⟨inR64 (by omega) (by omega), (s.1 + 1, (fNext s.2 v).1), ⟨by show s.1 + 1 ≤ _; omega, by show (fNext s.2 v).1.2.2.2.length ≤ 12; omega⟩, by show l.length - (s.1 + 1) < _; omega, by show ((s.1 + 1 : Nat) : Int) = _; omega, rfl, rfl, rfl, rfl, rfl, rfl, rfl, rfl⟩⟩
  simp at h

theorem ok4 : DOk Try.prog 4 c4 :=
  DOk.of' (l := [(9, c9), (10, c10), (11, c11), (12, c12), (13, c13), (14, c14), (15, c15), (16, c16), (17, c17)]) (wraps := []) (A := a4) tabOk ⟨ok9, ok10, ok11, ok12, ok13, ok14, ok15, ok16, ok17, trivial⟩ Try.func4 (by kernel_rfl) (by kernel_rfl) fun x _ _ => b4 x.1 x.2.1

end Ytpjgggcaamigdaa
end Go.Proofs
