/-
  'known', written out and reckoned.
-/
import Derived.Test.YtpjgggcaamigdaaVth
set_option maxRecDepth 100000
set_option linter.unusedVariables false
set_option maxHeartbeats 4000000
namespace Go.Proofs
open Go Go.Vc
namespace Ytpjgggcaamigdaa

theorem v9 : bodyVC (ctxOf tab [(10, c10), (14, c14), (15, c15), (19, c19)]) Try.f9 c9 noAnn (()) = (
True ∧
  ((List.replicate (Int.toNat (2 : Int)) false).length ≤ (1000000 : Nat) ∧ (((List.replicate (2 : Nat) false).set (0 : Nat) false).set (1 : Nat) false).length ≤ (1000000 : Nat)) ∧
    ((fSeen (List.replicate (Int.toNat (2 : Int)) false) (fOcc (((List.replicate (2 : Nat) false).set (0 : Nat) false).set (1 : Nat) false, false, true, true, false, false, false))
              (((List.replicate (2 : Nat) false).set (0 : Nat) false).set (1 : Nat) false).length).length ≤
          (1000000 : Nat) ∧
        (((List.replicate (2 : Nat) false).set (0 : Nat) true).set (1 : Nat) false).length ≤ (1000000 : Nat)) ∧
      ((fSeen
                (fSeen (List.replicate (Int.toNat (2 : Int)) false) (fOcc (((List.replicate (2 : Nat) false).set (0 : Nat) false).set (1 : Nat) false, false, true, true, false, false, false))
                  (((List.replicate (2 : Nat) false).set (0 : Nat) false).set (1 : Nat) false).length)
                (fOcc (((List.replicate (2 : Nat) false).set (0 : Nat) true).set (1 : Nat) false, false, true, false, false, false, false))
                (((List.replicate (2 : Nat) false).set (0 : Nat) true).set (1 : Nat) false).length).length ≤
            (1000000 : Nat) ∧
          (((List.replicate (2 : Nat) false).set (0 : Nat) true).set (1 : Nat) true).length ≤ (1000000 : Nat)) ∧
        ((fSeen
                  (fSeen
                    (fSeen (List.replicate (Int.toNat (2 : Int)) false) (fOcc (((List.replicate (2 : Nat) false).set (0 : Nat) false).set (1 : Nat) false, false, true, true, false, false, false))
                      (((List.replicate (2 : Nat) false).set (0 : Nat) false).set (1 : Nat) false).length)
                    (fOcc (((List.replicate (2 : Nat) false).set (0 : Nat) true).set (1 : Nat) false, false, true, false, false, false, false)) (((List.replicate (2 : Nat) false).set (0 : Nat) true).set (1 : Nat) false).length)
                  (fOcc (((List.replicate (2 : Nat) false).set (0 : Nat) true).set (1 : Nat) true, false, false, false, false, false, false))
                  (((List.replicate (2 : Nat) false).set (0 : Nat) true).set (1 : Nat) true).length).length ≤
              (1000000 : Nat) ∧
            (((List.replicate (2 : Nat) false).set (0 : Nat) false).set (1 : Nat) true).length ≤ (1000000 : Nat)) ∧
          (((1 : Int) == (1 : Int)) = true →
              (((2 : Int) == (2 : Int)) = true →
                  (((3 : Int) == (3 : Int)) = true →
                      (((3 : Int) == (3 : Int)) = true →
                          (((↑(fRest
                                          (↑(fFree
                                                (fSeen
                                                  (fSeen (List.replicate (Int.toNat (2 : Int)) false) (fOcc (((List.replicate (2 : Nat) false).set (0 : Nat) false).set (1 : Nat) false, false, true, true, false, false, false))
                                                    (((List.replicate (2 : Nat) false).set (0 : Nat) false).set (1 : Nat) false).length)
                                                  (fOcc (((List.replicate (2 : Nat) false).set (0 : Nat) true).set (1 : Nat) false, false, true, false, false, false, false))
                                                  (((List.replicate (2 : Nat) false).set (0 : Nat) true).set (1 : Nat) false).length)
                                                (fOcc (((List.replicate (2 : Nat) false).set (0 : Nat) true).set (1 : Nat) false, false, true, false, false, false, false)) false
                                                ((((List.replicate (2 : Nat) false).set (0 : Nat) true).set (1 : Nat) false).length - (1 : Nat))
                                                ((((List.replicate (2 : Nat) false).set (0 : Nat) true).set (1 : Nat) false).length - (1 : Nat) - Int.toNat (0 : Int)) (Int.toNat (0 : Int))) :
                                            Int)
                                          (↑(fFree
                                                (fSeen
                                                  (fSeen
                                                    (fSeen (List.replicate (Int.toNat (2 : Int)) false) (fOcc (((List.replicate (2 : Nat) false).set (0 : Nat) false).set (1 : Nat) false, false, true, true, false, false, false))
                                                      (((List.replicate (2 : Nat) false).set (0 : Nat) false).set (1 : Nat) false).length)
                                                    (fOcc (((List.replicate (2 : Nat) false).set (0 : Nat) true).set (1 : Nat) false, false, true, false, false, false, false))
                                                    (((List.replicate (2 : Nat) false).set (0 : Nat) true).set (1 : Nat) false).length)
                                                  (fOcc (((List.replicate (2 : Nat) false).set (0 : Nat) true).set (1 : Nat) true, false, false, false, false, false, false))
                                                  (((List.replicate (2 : Nat) false).set (0 : Nat) true).set (1 : Nat) true).length)
                                                (fOcc (((List.replicate (2 : Nat) false).set (0 : Nat) true).set (1 : Nat) true, false, false, false, false, false, false)) false
                                                ((((List.replicate (2 : Nat) false).set (0 : Nat) true).set (1 : Nat) true).length - (1 : Nat))
                                                ((((List.replicate (2 : Nat) false).set (0 : Nat) true).set (1 : Nat) true).length - (1 : Nat) -
                                                  (↑(fFree
                                                          (fSeen
                                                            (fSeen (List.replicate (Int.toNat (2 : Int)) false)
                                                              (fOcc (((List.replicate (2 : Nat) false).set (0 : Nat) false).set (1 : Nat) false, false, true, true, false, false, false))
                                                              (((List.replicate (2 : Nat) false).set (0 : Nat) false).set (1 : Nat) false).length)
                                                            (fOcc (((List.replicate (2 : Nat) false).set (0 : Nat) true).set (1 : Nat) false, false, true, false, false, false, false))
                                                            (((List.replicate (2 : Nat) false).set (0 : Nat) true).set (1 : Nat) false).length)
                                                          (fOcc (((List.replicate (2 : Nat) false).set (0 : Nat) true).set (1 : Nat) false, false, true, false, false, false, false)) false
                                                          ((((List.replicate (2 : Nat) false).set (0 : Nat) true).set (1 : Nat) false).length - (1 : Nat))
                                                          ((((List.replicate (2 : Nat) false).set (0 : Nat) true).set (1 : Nat) false).length - (1 : Nat) - Int.toNat (0 : Int)) (Int.toNat (0 : Int))) :
                                                      Int).toNat)
                                                (↑(fFree
                                                        (fSeen
                                                          (fSeen (List.replicate (Int.toNat (2 : Int)) false)
                                                            (fOcc (((List.replicate (2 : Nat) false).set (0 : Nat) false).set (1 : Nat) false, false, true, true, false, false, false))
                                                            (((List.replicate (2 : Nat) false).set (0 : Nat) false).set (1 : Nat) false).length)
                                                          (fOcc (((List.replicate (2 : Nat) false).set (0 : Nat) true).set (1 : Nat) false, false, true, false, false, false, false))
                                                          (((List.replicate (2 : Nat) false).set (0 : Nat) true).set (1 : Nat) false).length)
                                                        (fOcc (((List.replicate (2 : Nat) false).set (0 : Nat) true).set (1 : Nat) false, false, true, false, false, false, false)) false
                                                        ((((List.replicate (2 : Nat) false).set (0 : Nat) true).set (1 : Nat) false).length - (1 : Nat))
                                                        ((((List.replicate (2 : Nat) false).set (0 : Nat) true).set (1 : Nat) false).length - (1 : Nat) - Int.toNat (0 : Int)) (Int.toNat (0 : Int))) :
                                                    Int).toNat) :
                                            Int)).length :
                                    Int) ==
                                  (0 : Int)) =
                                true →
                              (((0 : Int) == (0 : Int)) = true →
                                  (fRest
                                          (↑(fFree
                                                (fSeen
                                                  (fSeen
                                                    (fSeen (List.replicate (Int.toNat (2 : Int)) false) (fOcc (((List.replicate (2 : Nat) false).set (0 : Nat) false).set (1 : Nat) false, false, true, true, false, false, false))
                                                      (((List.replicate (2 : Nat) false).set (0 : Nat) false).set (1 : Nat) false).length)
                                                    (fOcc (((List.replicate (2 : Nat) false).set (0 : Nat) true).set (1 : Nat) false, false, true, false, false, false, false))
                                                    (((List.replicate (2 : Nat) false).set (0 : Nat) true).set (1 : Nat) false).length)
                                                  (fOcc (((List.replicate (2 : Nat) false).set (0 : Nat) true).set (1 : Nat) true, false, false, false, false, false, false))
                                                  (((List.replicate (2 : Nat) false).set (0 : Nat) true).set (1 : Nat) true).length)
                                                (fOcc (((List.replicate (2 : Nat) false).set (0 : Nat) true).set (1 : Nat) true, false, false, false, false, false, false)) false
                                                ((((List.replicate (2 : Nat) false).set (0 : Nat) true).set (1 : Nat) true).length - (1 : Nat))
                                                ((((List.replicate (2 : Nat) false).set (0 : Nat) true).set (1 : Nat) true).length - (1 : Nat) -
                                                  (↑(fFree
                                                          (fSeen
                                                            (fSeen (List.replicate (Int.toNat (2 : Int)) false)
                                                              (fOcc (((List.replicate (2 : Nat) false).set (0 : Nat) false).set (1 : Nat) false, false, true, true, false, false, false))
                                                              (((List.replicate (2 : Nat) false).set (0 : Nat) false).set (1 : Nat) false).length)
                                                            (fOcc (((List.replicate (2 : Nat) false).set (0 : Nat) true).set (1 : Nat) false, false, true, false, false, false, false))
                                                            (((List.replicate (2 : Nat) false).set (0 : Nat) true).set (1 : Nat) false).length)
                                                          (fOcc (((List.replicate (2 : Nat) false).set (0 : Nat) true).set (1 : Nat) false, false, true, false, false, false, false)) false
                                                          ((((List.replicate (2 : Nat) false).set (0 : Nat) true).set (1 : Nat) false).length - (1 : Nat))
                                                          ((((List.replicate (2 : Nat) false).set (0 : Nat) true).set (1 : Nat) false).length - (1 : Nat) - Int.toNat (0 : Int)) (Int.toNat (0 : Int))) :
                                                      Int).toNat)
                                                (↑(fFree
                                                        (fSeen
                                                          (fSeen (List.replicate (Int.toNat (2 : Int)) false)
                                                            (fOcc (((List.replicate (2 : Nat) false).set (0 : Nat) false).set (1 : Nat) false, false, true, true, false, false, false))
                                                            (((List.replicate (2 : Nat) false).set (0 : Nat) false).set (1 : Nat) false).length)
                                                          (fOcc (((List.replicate (2 : Nat) false).set (0 : Nat) true).set (1 : Nat) false, false, true, false, false, false, false))
                                                          (((List.replicate (2 : Nat) false).set (0 : Nat) true).set (1 : Nat) false).length)
                                                        (fOcc (((List.replicate (2 : Nat) false).set (0 : Nat) true).set (1 : Nat) false, false, true, false, false, false, false)) false
                                                        ((((List.replicate (2 : Nat) false).set (0 : Nat) true).set (1 : Nat) false).length - (1 : Nat))
                                                        ((((List.replicate (2 : Nat) false).set (0 : Nat) true).set (1 : Nat) false).length - (1 : Nat) - Int.toNat (0 : Int)) (Int.toNat (0 : Int))) :
                                                    Int).toNat) :
                                            Int)
                                          (↑(((List.replicate (2 : Nat) false).set (0 : Nat) false).set (1 : Nat) true).length : Int)).length ≤
                                      (1000000 : Nat) ∧
                                    ((fRest
                                              (↑(fFree
                                                    (fSeen
                                                      (fSeen
                                                        (fSeen (List.replicate (Int.toNat (2 : Int)) false)
                                                          (fOcc (((List.replicate (2 : Nat) false).set (0 : Nat) false).set (1 : Nat) false, false, true, true, false, false, false))
                                                          (((List.replicate (2 : Nat) false).set (0 : Nat) false).set (1 : Nat) false).length)
                                                        (fOcc (((List.replicate (2 : Nat) false).set (0 : Nat) true).set (1 : Nat) false, false, true, false, false, false, false))
                                                        (((List.replicate (2 : Nat) false).set (0 : Nat) true).set (1 : Nat) false).length)
                                                      (fOcc (((List.replicate (2 : Nat) false).set (0 : Nat) true).set (1 : Nat) true, false, false, false, false, false, false))
                                                      (((List.replicate (2 : Nat) false).set (0 : Nat) true).set (1 : Nat) true).length)
                                                    (fOcc (((List.replicate (2 : Nat) false).set (0 : Nat) true).set (1 : Nat) true, false, false, false, false, false, false)) false
                                                    ((((List.replicate (2 : Nat) false).set (0 : Nat) true).set (1 : Nat) true).length - (1 : Nat))
                                                    ((((List.replicate (2 : Nat) false).set (0 : Nat) true).set (1 : Nat) true).length - (1 : Nat) -
                                                      (↑(fFree
                                                              (fSeen
                                                                (fSeen (List.replicate (Int.toNat (2 : Int)) false)
                                                                  (fOcc (((List.replicate (2 : Nat) false).set (0 : Nat) false).set (1 : Nat) false, false, true, true, false, false, false))
                                                                  (((List.replicate (2 : Nat) false).set (0 : Nat) false).set (1 : Nat) false).length)
                                                                (fOcc (((List.replicate (2 : Nat) false).set (0 : Nat) true).set (1 : Nat) false, false, true, false, false, false, false))
                                                                (((List.replicate (2 : Nat) false).set (0 : Nat) true).set (1 : Nat) false).length)
                                                              (fOcc (((List.replicate (2 : Nat) false).set (0 : Nat) true).set (1 : Nat) false, false, true, false, false, false, false)) false
                                                              ((((List.replicate (2 : Nat) false).set (0 : Nat) true).set (1 : Nat) false).length - (1 : Nat))
                                                              ((((List.replicate (2 : Nat) false).set (0 : Nat) true).set (1 : Nat) false).length - (1 : Nat) - Int.toNat (0 : Int)) (Int.toNat (0 : Int))) :
                                                          Int).toNat)
                                                    (↑(fFree
                                                            (fSeen
                                                              (fSeen (List.replicate (Int.toNat (2 : Int)) false)
                                                                (fOcc (((List.replicate (2 : Nat) false).set (0 : Nat) false).set (1 : Nat) false, false, true, true, false, false, false))
                                                                (((List.replicate (2 : Nat) false).set (0 : Nat) false).set (1 : Nat) false).length)
                                                              (fOcc (((List.replicate (2 : Nat) false).set (0 : Nat) true).set (1 : Nat) false, false, true, false, false, false, false))
                                                              (((List.replicate (2 : Nat) false).set (0 : Nat) true).set (1 : Nat) false).length)
                                                            (fOcc (((List.replicate (2 : Nat) false).set (0 : Nat) true).set (1 : Nat) false, false, true, false, false, false, false)) false
                                                            ((((List.replicate (2 : Nat) false).set (0 : Nat) true).set (1 : Nat) false).length - (1 : Nat))
                                                            ((((List.replicate (2 : Nat) false).set (0 : Nat) true).set (1 : Nat) false).length - (1 : Nat) - Int.toNat (0 : Int)) (Int.toNat (0 : Int))) :
                                                        Int).toNat) :
                                                Int)
                                              (↑(((List.replicate (2 : Nat) false).set (0 : Nat) false).set (1 : Nat) true).length : Int) ==
                                            ((List.replicate (2 : Nat) (0 : Int)).set (0 : Nat) (0 : Int)).set (1 : Nat) (1 : Int)) =
                                          true →
                                        ([] : List Int).length ≤ (1000000 : Nat) ∧
                                          (fSame ((0 : Int), (0 : Int), false, []) ((0 : Int), (0 : Int), false, []) = true →
                                              (fSeen (List.replicate (Int.toNat (2 : Int)) false) (fOcc (((List.replicate (2 : Nat) false).set (0 : Nat) false).set (1 : Nat) false, false, true, true, false, false, false))
                                                      (((List.replicate (2 : Nat) false).set (0 : Nat) false).set (1 : Nat) false).length).length ≤
                                                  (1000000 : Nat) ∧
                                                (!fSame
                                                        ((2 : Int), (0 : Int), false || false,
                                                          fSeen (List.replicate (Int.toNat (2 : Int)) false)
                                                            (fOcc (((List.replicate (2 : Nat) false).set (0 : Nat) false).set (1 : Nat) false, false, true, true, false, false, false))
                                                            (((List.replicate (2 : Nat) false).set (0 : Nat) false).set (1 : Nat) false).length)
                                                        ((3 : Int),
                                                          (↑(fFree
                                                                (fSeen
                                                                  (fSeen (List.replicate (Int.toNat (2 : Int)) false)
                                                                    (fOcc (((List.replicate (2 : Nat) false).set (0 : Nat) false).set (1 : Nat) false, false, true, true, false, false, false))
                                                                    (((List.replicate (2 : Nat) false).set (0 : Nat) false).set (1 : Nat) false).length)
                                                                  (fOcc (((List.replicate (2 : Nat) false).set (0 : Nat) true).set (1 : Nat) false, false, true, false, false, false, false))
                                                                  (((List.replicate (2 : Nat) false).set (0 : Nat) true).set (1 : Nat) false).length)
                                                                (fOcc (((List.replicate (2 : Nat) false).set (0 : Nat) true).set (1 : Nat) false, false, true, false, false, false, false)) false
                                                                ((((List.replicate (2 : Nat) false).set (0 : Nat) true).set (1 : Nat) false).length - (1 : Nat))
                                                                ((((List.replicate (2 : Nat) false).set (0 : Nat) true).set (1 : Nat) false).length - (1 : Nat) - Int.toNat (0 : Int)) (Int.toNat (0 : Int))) :
                                                            Int),
                                                          false || false || false,
                                                          fSeen
                                                            (fSeen (List.replicate (Int.toNat (2 : Int)) false)
                                                              (fOcc (((List.replicate (2 : Nat) false).set (0 : Nat) false).set (1 : Nat) false, false, true, true, false, false, false))
                                                              (((List.replicate (2 : Nat) false).set (0 : Nat) false).set (1 : Nat) false).length)
                                                            (fOcc (((List.replicate (2 : Nat) false).set (0 : Nat) true).set (1 : Nat) false, false, true, false, false, false, false))
                                                            (((List.replicate (2 : Nat) false).set (0 : Nat) true).set (1 : Nat) false).length)) =
                                                    true ∧
                                                  True) ∧
                                            (fSame ((0 : Int), (0 : Int), false, []) ((0 : Int), (0 : Int), false, []) = !true → false = true ∧ True)) ∧
                                      ((fRest
                                              (↑(fFree
                                                    (fSeen
                                                      (fSeen
                                                        (fSeen (List.replicate (Int.toNat (2 : Int)) false)
                                                          (fOcc (((List.replicate (2 : Nat) false).set (0 : Nat) false).set (1 : Nat) false, false, true, true, false, false, false))
                                                          (((List.replicate (2 : Nat) false).set (0 : Nat) false).set (1 : Nat) false).length)
                                                        (fOcc (((List.replicate (2 : Nat) false).set (0 : Nat) true).set (1 : Nat) false, false, true, false, false, false, false))
                                                        (((List.replicate (2 : Nat) false).set (0 : Nat) true).set (1 : Nat) false).length)
                                                      (fOcc (((List.replicate (2 : Nat) false).set (0 : Nat) true).set (1 : Nat) true, false, false, false, false, false, false))
                                                      (((List.replicate (2 : Nat) false).set (0 : Nat) true).set (1 : Nat) true).length)
                                                    (fOcc (((List.replicate (2 : Nat) false).set (0 : Nat) true).set (1 : Nat) true, false, false, false, false, false, false)) false
                                                    ((((List.replicate (2 : Nat) false).set (0 : Nat) true).set (1 : Nat) true).length - (1 : Nat))
                                                    ((((List.replicate (2 : Nat) false).set (0 : Nat) true).set (1 : Nat) true).length - (1 : Nat) -
                                                      (↑(fFree
                                                              (fSeen
                                                                (fSeen (List.replicate (Int.toNat (2 : Int)) false)
                                                                  (fOcc (((List.replicate (2 : Nat) false).set (0 : Nat) false).set (1 : Nat) false, false, true, true, false, false, false))
                                                                  (((List.replicate (2 : Nat) false).set (0 : Nat) false).set (1 : Nat) false).length)
                                                                (fOcc (((List.replicate (2 : Nat) false).set (0 : Nat) true).set (1 : Nat) false, false, true, false, false, false, false))
                                                                (((List.replicate (2 : Nat) false).set (0 : Nat) true).set (1 : Nat) false).length)
                                                              (fOcc (((List.replicate (2 : Nat) false).set (0 : Nat) true).set (1 : Nat) false, false, true, false, false, false, false)) false
                                                              ((((List.replicate (2 : Nat) false).set (0 : Nat) true).set (1 : Nat) false).length - (1 : Nat))
                                                              ((((List.replicate (2 : Nat) false).set (0 : Nat) true).set (1 : Nat) false).length - (1 : Nat) - Int.toNat (0 : Int)) (Int.toNat (0 : Int))) :
                                                          Int).toNat)
                                                    (↑(fFree
                                                            (fSeen
                                                              (fSeen (List.replicate (Int.toNat (2 : Int)) false)
                                                                (fOcc (((List.replicate (2 : Nat) false).set (0 : Nat) false).set (1 : Nat) false, false, true, true, false, false, false))
                                                                (((List.replicate (2 : Nat) false).set (0 : Nat) false).set (1 : Nat) false).length)
                                                              (fOcc (((List.replicate (2 : Nat) false).set (0 : Nat) true).set (1 : Nat) false, false, true, false, false, false, false))
                                                              (((List.replicate (2 : Nat) false).set (0 : Nat) true).set (1 : Nat) false).length)
                                                            (fOcc (((List.replicate (2 : Nat) false).set (0 : Nat) true).set (1 : Nat) false, false, true, false, false, false, false)) false
                                                            ((((List.replicate (2 : Nat) false).set (0 : Nat) true).set (1 : Nat) false).length - (1 : Nat))
                                                            ((((List.replicate (2 : Nat) false).set (0 : Nat) true).set (1 : Nat) false).length - (1 : Nat) - Int.toNat (0 : Int)) (Int.toNat (0 : Int))) :
                                                        Int).toNat) :
                                                Int)
                                              (↑(((List.replicate (2 : Nat) false).set (0 : Nat) false).set (1 : Nat) true).length : Int) ==
                                            ((List.replicate (2 : Nat) (0 : Int)).set (0 : Nat) (0 : Int)).set (1 : Nat) (1 : Int)) =
                                          !true →
                                        false = true ∧ True)) ∧
                                (((0 : Int) == (0 : Int)) = !true → false = true ∧ True)) ∧
                            (((↑(fRest
                                          (↑(fFree
                                                (fSeen
                                                  (fSeen (List.replicate (Int.toNat (2 : Int)) false) (fOcc (((List.replicate (2 : Nat) false).set (0 : Nat) false).set (1 : Nat) false, false, true, true, false, false, false))
                                                    (((List.replicate (2 : Nat) false).set (0 : Nat) false).set (1 : Nat) false).length)
                                                  (fOcc (((List.replicate (2 : Nat) false).set (0 : Nat) true).set (1 : Nat) false, false, true, false, false, false, false))
                                                  (((List.replicate (2 : Nat) false).set (0 : Nat) true).set (1 : Nat) false).length)
                                                (fOcc (((List.replicate (2 : Nat) false).set (0 : Nat) true).set (1 : Nat) false, false, true, false, false, false, false)) false
                                                ((((List.replicate (2 : Nat) false).set (0 : Nat) true).set (1 : Nat) false).length - (1 : Nat))
                                                ((((List.replicate (2 : Nat) false).set (0 : Nat) true).set (1 : Nat) false).length - (1 : Nat) - Int.toNat (0 : Int)) (Int.toNat (0 : Int))) :
                                            Int)
                                          (↑(fFree
                                                (fSeen
                                                  (fSeen
                                                    (fSeen (List.replicate (Int.toNat (2 : Int)) false) (fOcc (((List.replicate (2 : Nat) false).set (0 : Nat) false).set (1 : Nat) false, false, true, true, false, false, false))
                                                      (((List.replicate (2 : Nat) false).set (0 : Nat) false).set (1 : Nat) false).length)
                                                    (fOcc (((List.replicate (2 : Nat) false).set (0 : Nat) true).set (1 : Nat) false, false, true, false, false, false, false))
                                                    (((List.replicate (2 : Nat) false).set (0 : Nat) true).set (1 : Nat) false).length)
                                                  (fOcc (((List.replicate (2 : Nat) false).set (0 : Nat) true).set (1 : Nat) true, false, false, false, false, false, false))
                                                  (((List.replicate (2 : Nat) false).set (0 : Nat) true).set (1 : Nat) true).length)
                                                (fOcc (((List.replicate (2 : Nat) false).set (0 : Nat) true).set (1 : Nat) true, false, false, false, false, false, false)) false
                                                ((((List.replicate (2 : Nat) false).set (0 : Nat) true).set (1 : Nat) true).length - (1 : Nat))
                                                ((((List.replicate (2 : Nat) false).set (0 : Nat) true).set (1 : Nat) true).length - (1 : Nat) -
                                                  (↑(fFree
                                                          (fSeen
                                                            (fSeen (List.replicate (Int.toNat (2 : Int)) false)
                                                              (fOcc (((List.replicate (2 : Nat) false).set (0 : Nat) false).set (1 : Nat) false, false, true, true, false, false, false))
                                                              (((List.replicate (2 : Nat) false).set (0 : Nat) false).set (1 : Nat) false).length)
                                                            (fOcc (((List.replicate (2 : Nat) false).set (0 : Nat) true).set (1 : Nat) false, false, true, false, false, false, false))
                                                            (((List.replicate (2 : Nat) false).set (0 : Nat) true).set (1 : Nat) false).length)
                                                          (fOcc (((List.replicate (2 : Nat) false).set (0 : Nat) true).set (1 : Nat) false, false, true, false, false, false, false)) false
                                                          ((((List.replicate (2 : Nat) false).set (0 : Nat) true).set (1 : Nat) false).length - (1 : Nat))
                                                          ((((List.replicate (2 : Nat) false).set (0 : Nat) true).set (1 : Nat) false).length - (1 : Nat) - Int.toNat (0 : Int)) (Int.toNat (0 : Int))) :
                                                      Int).toNat)
                                                (↑(fFree
                                                        (fSeen
                                                          (fSeen (List.replicate (Int.toNat (2 : Int)) false)
                                                            (fOcc (((List.replicate (2 : Nat) false).set (0 : Nat) false).set (1 : Nat) false, false, true, true, false, false, false))
                                                            (((List.replicate (2 : Nat) false).set (0 : Nat) false).set (1 : Nat) false).length)
                                                          (fOcc (((List.replicate (2 : Nat) false).set (0 : Nat) true).set (1 : Nat) false, false, true, false, false, false, false))
                                                          (((List.replicate (2 : Nat) false).set (0 : Nat) true).set (1 : Nat) false).length)
                                                        (fOcc (((List.replicate (2 : Nat) false).set (0 : Nat) true).set (1 : Nat) false, false, true, false, false, false, false)) false
                                                        ((((List.replicate (2 : Nat) false).set (0 : Nat) true).set (1 : Nat) false).length - (1 : Nat))
                                                        ((((List.replicate (2 : Nat) false).set (0 : Nat) true).set (1 : Nat) false).length - (1 : Nat) - Int.toNat (0 : Int)) (Int.toNat (0 : Int))) :
                                                    Int).toNat) :
                                            Int)).length :
                                    Int) ==
                                  (0 : Int)) =
                                !true →
                              false = true ∧ True)) ∧
                        (((3 : Int) == (3 : Int)) = !true → false = true ∧ True)) ∧
                    (((3 : Int) == (3 : Int)) = !true → false = true ∧ True)) ∧
                (((2 : Int) == (2 : Int)) = !true → false = true ∧ True)) ∧
            (((1 : Int) == (1 : Int)) = !true → false = true ∧ True)) := by kernel_rfl

theorem b9 : bodyVC (ctxOf tab [(10, c10), (14, c14), (15, c15), (19, c19)]) Try.f9 c9 noAnn () := by
  rw [v9]
  repeat' (first | exact trivial | apply And.intro | (intro h; exact absurd h (by decide +kernel)) | intro _ | decide +kernel)

theorem ok9 : DOk Try.prog 9 c9 :=
  DOk.of' (l := [(10, c10), (14, c14), (15, c15), (19, c19)]) (wraps := []) (A := fun _ => noAnn) tabOk ⟨ok10, ok14, ok15, ok19, trivial⟩ Try.func9 (by kernel_rfl) (by kernel_rfl) fun x _ _ => b9

end Ytpjgggcaamigdaa
end Go.Proofs
