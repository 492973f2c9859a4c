/-
  The two 'Next', written out.
-/
import Derived.Test.YtpjgggcaamigdaaVtd
set_option maxRecDepth 100000
set_option linter.unusedVariables false
set_option maxHeartbeats 2000000
namespace Go.Proofs
open Go Go.Vc
namespace Ytpjgggcaamigdaa

theorem v10 (l : Int × Int × Bool × List Bool) (v : List Bool × Bool × Bool × Bool × Bool × Bool × Bool) : bodyVC (ctxOf tab [(20, c20), (21, c21), (22, c22)]) Try.f10 c10 (a10 (l, v, ())) (l, v, ()) = (
l.snd.snd.snd.length ≤ (1000000 : Nat) ∧
  ((l.fst == (0 : Int)) = true → (l.fst, l.snd.fst, l.snd.snd.fst, l.snd.snd.snd) = (fNext l v).fst ∧ [] = (fNext l v).snd ∧ True) ∧
    ((l.fst == (0 : Int)) = false →
      ((bif
                bif bif bif bif decide (l.fst < (0 : Int)) then true else decide (l.fst > (3 : Int)) then true else (↑v.fst.length : Int) == (0 : Int) then true else (↑l.snd.snd.snd.length : Int) != (↑v.fst.length : Int) then true
                else decide (l.snd.fst < (0 : Int)) then
              true
            else decide (l.snd.fst ≥ (↑v.fst.length : Int))) =
            true →
          ((0 : Int), (0 : Int), false, []) = (fNext l v).fst ∧ [] = (fNext l v).snd ∧ True) ∧
        ((bif
                bif bif bif bif decide (l.fst < (0 : Int)) then true else decide (l.fst > (3 : Int)) then true else (↑v.fst.length : Int) == (0 : Int) then true else (↑l.snd.snd.snd.length : Int) != (↑v.fst.length : Int) then true
                else decide (l.snd.fst < (0 : Int)) then
              true
            else decide (l.snd.fst ≥ (↑v.fst.length : Int))) =
            false →
          v.fst.length ≤ (1000000 : Nat) ∧
            (v.snd.fst = true → InR IntKind.i64 ((↑v.fst.length : Int) - (1 : Int))) ∧
              (v.snd.fst = true → InB ((↑v.fst.length : Int) - (1 : Int)) v.fst.length) ∧
                (∃ (s0 : Nat),
                    s0 ≤ v.fst.length ∧
                      (↑s0 : Int) = (0 : Int) ∧
                        (↑v.fst.length : Int) = (↑v.fst.length : Int) ∧
                          l.snd.fst = l.snd.fst ∧
                            (↑(bif v.snd.fst then v.fst.set ((↑v.fst.length : Int) - (1 : Int)).toNat false else v.fst).length : Int) =
                                (↑(bif v.snd.fst then v.fst.set ((↑v.fst.length : Int) - (1 : Int)).toNat false else v.fst).length : Int) ∧
                              fSeen l.snd.snd.snd (fOcc v) s0 = l.snd.snd.snd ∧
                                l.fst = l.fst ∧
                                  l.snd.fst = l.snd.fst ∧
                                    ((bif l.snd.snd.fst then true else v.snd.snd.snd.snd.snd.snd) = bif l.snd.snd.fst then true else v.snd.snd.snd.snd.snd.snd) ∧
                                      v.fst = v.fst ∧
                                        v.snd.fst = v.snd.fst ∧
                                          v.snd.snd.fst = v.snd.snd.fst ∧
                                            v.snd.snd.snd.fst = v.snd.snd.snd.fst ∧
                                              v.snd.snd.snd.snd.fst = v.snd.snd.snd.snd.fst ∧
                                                v.snd.snd.snd.snd.snd.fst = v.snd.snd.snd.snd.snd.fst ∧
                                                  v.snd.snd.snd.snd.snd.snd = v.snd.snd.snd.snd.snd.snd ∧
                                                    (0 : Int) = (0 : Int) ∧
                                                      (0 : Int) = (0 : Int) ∧
                                                        false = false ∧
                                                          ((bif v.snd.fst then v.fst.set ((↑v.fst.length : Int) - (1 : Int)).toNat false else v.fst) =
                                                              bif v.snd.fst then v.fst.set ((↑v.fst.length : Int) - (1 : Int)).toNat false else v.fst) ∧
                                                            True) ∧
                  ∀ (s : Nat),
                    s ≤ v.fst.length →
                      (decide ((↑s : Int) < (↑(bif v.snd.fst then v.fst.set ((↑v.fst.length : Int) - (1 : Int)).toNat false else v.fst).length : Int)) = true →
                          InB (↑s : Int) (fSeen l.snd.snd.snd (fOcc v) s).length ∧
                            ((fSeen l.snd.snd.snd (fOcc v) s).getD (↑s : Int).toNat false = false → InB (↑s : Int) (bif v.snd.fst then v.fst.set ((↑v.fst.length : Int) - (1 : Int)).toNat false else v.fst).length) ∧
                              InB (↑s : Int) (fSeen l.snd.snd.snd (fOcc v) s).length ∧
                                InR IntKind.i64 ((↑s : Int) + (1 : Int)) ∧
                                  ∃ (s' : Nat),
                                    s' ≤ v.fst.length ∧
                                      v.fst.length - s' < v.fst.length - s ∧
                                        (↑s' : Int) = (↑s : Int) + (1 : Int) ∧
                                          (↑v.fst.length : Int) = (↑v.fst.length : Int) ∧
                                            l.snd.fst = l.snd.fst ∧
                                              (↑(bif v.snd.fst then v.fst.set ((↑v.fst.length : Int) - (1 : Int)).toNat false else v.fst).length : Int) =
                                                  (↑(bif v.snd.fst then v.fst.set ((↑v.fst.length : Int) - (1 : Int)).toNat false else v.fst).length : Int) ∧
                                                fSeen l.snd.snd.snd (fOcc v) s' =
                                                    (fSeen l.snd.snd.snd (fOcc v) s).set (↑s : Int).toNat
                                                      (bif (fSeen l.snd.snd.snd (fOcc v) s).getD (↑s : Int).toNat false then true
                                                      else (bif v.snd.fst then v.fst.set ((↑v.fst.length : Int) - (1 : Int)).toNat false else v.fst).getD (↑s : Int).toNat false) ∧
                                                  l.fst = l.fst ∧
                                                    l.snd.fst = l.snd.fst ∧
                                                      ((bif l.snd.snd.fst then true else v.snd.snd.snd.snd.snd.snd) = bif l.snd.snd.fst then true else v.snd.snd.snd.snd.snd.snd) ∧
                                                        v.fst = v.fst ∧
                                                          v.snd.fst = v.snd.fst ∧
                                                            v.snd.snd.fst = v.snd.snd.fst ∧
                                                              v.snd.snd.snd.fst = v.snd.snd.snd.fst ∧
                                                                v.snd.snd.snd.snd.fst = v.snd.snd.snd.snd.fst ∧
                                                                  v.snd.snd.snd.snd.snd.fst = v.snd.snd.snd.snd.snd.fst ∧
                                                                    v.snd.snd.snd.snd.snd.snd = v.snd.snd.snd.snd.snd.snd ∧
                                                                      (0 : Int) = (0 : Int) ∧
                                                                        (0 : Int) = (0 : Int) ∧
                                                                          false = false ∧
                                                                            ((bif v.snd.fst then v.fst.set ((↑v.fst.length : Int) - (1 : Int)).toNat false else v.fst) =
                                                                                bif v.snd.fst then v.fst.set ((↑v.fst.length : Int) - (1 : Int)).toNat false else v.fst) ∧
                                                                              True) ∧
                        (decide ((↑s : Int) < (↑(bif v.snd.fst then v.fst.set ((↑v.fst.length : Int) - (1 : Int)).toNat false else v.fst).length : Int)) = false →
                          ((l.fst != (3 : Int)) = true → InB (0 : Int) (bif v.snd.fst then v.fst.set ((↑v.fst.length : Int) - (1 : Int)).toNat false else v.fst).length) ∧
                            (((bif bif l.fst != (3 : Int) then (bif v.snd.fst then v.fst.set ((↑v.fst.length : Int) - (1 : Int)).toNat false else v.fst).getD (Int.toNat (0 : Int)) false else false then (3 : Int) else l.fst) !=
                                    (3 : Int)) =
                                  true →
                                ((bif bif l.fst != (3 : Int) then (bif v.snd.fst then v.fst.set ((↑v.fst.length : Int) - (1 : Int)).toNat false else v.fst).getD (Int.toNat (0 : Int)) false else false then
                                        bif l.snd.snd.fst then true else v.snd.snd.snd.snd.snd.snd
                                      else bif l.snd.snd.fst then true else v.snd.snd.snd.snd.snd.snd) =
                                      true →
                                    ((0 : Int) ≤
                                        bif bif l.fst != (3 : Int) then (bif v.snd.fst then v.fst.set ((↑v.fst.length : Int) - (1 : Int)).toNat false else v.fst).getD (Int.toNat (0 : Int)) false else false then l.snd.fst
                                        else l.snd.fst) ∧
                                      (bif bif l.fst != (3 : Int) then (bif v.snd.fst then v.fst.set ((↑v.fst.length : Int) - (1 : Int)).toNat false else v.fst).getD (Int.toNat (0 : Int)) false else false then l.snd.fst
                                        else l.snd.fst) ≤
                                        (↑(bif v.snd.fst then v.fst.set ((↑v.fst.length : Int) - (1 : Int)).toNat false else v.fst).length : Int)) ∧
                                  ((bif bif l.fst != (3 : Int) then (bif v.snd.fst then v.fst.set ((↑v.fst.length : Int) - (1 : Int)).toNat false else v.fst).getD (Int.toNat (0 : Int)) false else false then
                                          bif l.snd.snd.fst then true else v.snd.snd.snd.snd.snd.snd
                                        else bif l.snd.snd.fst then true else v.snd.snd.snd.snd.snd.snd) =
                                        true →
                                      (List.take
                                            ((bif v.snd.fst then v.fst.set ((↑v.fst.length : Int) - (1 : Int)).toNat false else v.fst).length -
                                              (bif bif l.fst != (3 : Int) then (bif v.snd.fst then v.fst.set ((↑v.fst.length : Int) - (1 : Int)).toNat false else v.fst).getD (Int.toNat (0 : Int)) false else false then l.snd.fst
                                                else l.snd.fst).toNat)
                                            (List.drop
                                              (bif bif l.fst != (3 : Int) then (bif v.snd.fst then v.fst.set ((↑v.fst.length : Int) - (1 : Int)).toNat false else v.fst).getD (Int.toNat (0 : Int)) false else false then l.snd.fst
                                                else l.snd.fst).toNat
                                              (bif v.snd.fst then v.fst.set ((↑v.fst.length : Int) - (1 : Int)).toNat false else v.fst))).length ≤
                                        (1000000 : Nat)) ∧
                                    ((bif
                                              bif bif l.fst != (3 : Int) then (bif v.snd.fst then v.fst.set ((↑v.fst.length : Int) - (1 : Int)).toNat false else v.fst).getD (Int.toNat (0 : Int)) false else false then
                                                bif l.snd.snd.fst then true else v.snd.snd.snd.snd.snd.snd
                                              else bif l.snd.snd.fst then true else v.snd.snd.snd.snd.snd.snd then
                                            fOver
                                              (List.take
                                                ((bif v.snd.fst then v.fst.set ((↑v.fst.length : Int) - (1 : Int)).toNat false else v.fst).length -
                                                  (bif bif l.fst != (3 : Int) then (bif v.snd.fst then v.fst.set ((↑v.fst.length : Int) - (1 : Int)).toNat false else v.fst).getD (Int.toNat (0 : Int)) false else false then
                                                      l.snd.fst
                                                    else l.snd.fst).toNat)
                                                (List.drop
                                                  (bif bif l.fst != (3 : Int) then (bif v.snd.fst then v.fst.set ((↑v.fst.length : Int) - (1 : Int)).toNat false else v.fst).getD (Int.toNat (0 : Int)) false else false then
                                                      l.snd.fst
                                                    else l.snd.fst).toNat
                                                  (bif v.snd.fst then v.fst.set ((↑v.fst.length : Int) - (1 : Int)).toNat false else v.fst)))
                                              (v.fst, v.snd.fst, v.snd.snd.fst, v.snd.snd.snd.fst, v.snd.snd.snd.snd.fst, v.snd.snd.snd.snd.snd.fst, v.snd.snd.snd.snd.snd.snd)
                                          else false) =
                                          true →
                                        ((0 : Int) ≤ l.snd.fst ∧ (↑v.fst.length : Int) ≤ (1000000 : Int)) ∧ ((0 : Int), (0 : Int), false, []) = (fNext l v).fst ∧ fRest l.snd.fst (↑v.fst.length : Int) = (fNext l v).snd ∧ True) ∧
                                      ((bif
                                              bif bif l.fst != (3 : Int) then (bif v.snd.fst then v.fst.set ((↑v.fst.length : Int) - (1 : Int)).toNat false else v.fst).getD (Int.toNat (0 : Int)) false else false then
                                                bif l.snd.snd.fst then true else v.snd.snd.snd.snd.snd.snd
                                              else bif l.snd.snd.fst then true else v.snd.snd.snd.snd.snd.snd then
                                            fOver
                                              (List.take
                                                ((bif v.snd.fst then v.fst.set ((↑v.fst.length : Int) - (1 : Int)).toNat false else v.fst).length -
                                                  (bif bif l.fst != (3 : Int) then (bif v.snd.fst then v.fst.set ((↑v.fst.length : Int) - (1 : Int)).toNat false else v.fst).getD (Int.toNat (0 : Int)) false else false then
                                                      l.snd.fst
                                                    else l.snd.fst).toNat)
                                                (List.drop
                                                  (bif bif l.fst != (3 : Int) then (bif v.snd.fst then v.fst.set ((↑v.fst.length : Int) - (1 : Int)).toNat false else v.fst).getD (Int.toNat (0 : Int)) false else false then
                                                      l.snd.fst
                                                    else l.snd.fst).toNat
                                                  (bif v.snd.fst then v.fst.set ((↑v.fst.length : Int) - (1 : Int)).toNat false else v.fst)))
                                              (v.fst, v.snd.fst, v.snd.snd.fst, v.snd.snd.snd.fst, v.snd.snd.snd.snd.fst, v.snd.snd.snd.snd.snd.fst, v.snd.snd.snd.snd.snd.snd)
                                          else false) =
                                          false →
                                        (bif
                                                  bif
                                                      bif
                                                          !bif bif l.fst != (3 : Int) then (bif v.snd.fst then v.fst.set ((↑v.fst.length : Int) - (1 : Int)).toNat false else v.fst).getD (Int.toNat (0 : Int)) false else false then
                                                              bif l.snd.snd.fst then true else v.snd.snd.snd.snd.snd.snd
                                                            else bif l.snd.snd.fst then true else v.snd.snd.snd.snd.snd.snd then
                                                        v.snd.snd.fst
                                                      else false then
                                                    v.snd.snd.snd.fst
                                                  else false then
                                                (2 : Int)
                                              else (1 : Int),
                                              bif
                                                  bif
                                                      bif
                                                          !bif bif l.fst != (3 : Int) then (bif v.snd.fst then v.fst.set ((↑v.fst.length : Int) - (1 : Int)).toNat false else v.fst).getD (Int.toNat (0 : Int)) false else false then
                                                              bif l.snd.snd.fst then true else v.snd.snd.snd.snd.snd.snd
                                                            else bif l.snd.snd.fst then true else v.snd.snd.snd.snd.snd.snd then
                                                        v.snd.snd.fst
                                                      else false then
                                                    v.snd.snd.snd.fst
                                                  else false then
                                                bif bif l.fst != (3 : Int) then (bif v.snd.fst then v.fst.set ((↑v.fst.length : Int) - (1 : Int)).toNat false else v.fst).getD (Int.toNat (0 : Int)) false else false then l.snd.fst
                                                else l.snd.fst
                                              else
                                                bif bif l.fst != (3 : Int) then (bif v.snd.fst then v.fst.set ((↑v.fst.length : Int) - (1 : Int)).toNat false else v.fst).getD (Int.toNat (0 : Int)) false else false then l.snd.fst
                                                else l.snd.fst,
                                              bif
                                                  bif
                                                      bif
                                                          !bif bif l.fst != (3 : Int) then (bif v.snd.fst then v.fst.set ((↑v.fst.length : Int) - (1 : Int)).toNat false else v.fst).getD (Int.toNat (0 : Int)) false else false then
                                                              bif l.snd.snd.fst then true else v.snd.snd.snd.snd.snd.snd
                                                            else bif l.snd.snd.fst then true else v.snd.snd.snd.snd.snd.snd then
                                                        v.snd.snd.fst
                                                      else false then
                                                    v.snd.snd.snd.fst
                                                  else false then
                                                bif bif l.fst != (3 : Int) then (bif v.snd.fst then v.fst.set ((↑v.fst.length : Int) - (1 : Int)).toNat false else v.fst).getD (Int.toNat (0 : Int)) false else false then
                                                  bif l.snd.snd.fst then true else v.snd.snd.snd.snd.snd.snd
                                                else bif l.snd.snd.fst then true else v.snd.snd.snd.snd.snd.snd
                                              else
                                                bif bif l.fst != (3 : Int) then (bif v.snd.fst then v.fst.set ((↑v.fst.length : Int) - (1 : Int)).toNat false else v.fst).getD (Int.toNat (0 : Int)) false else false then
                                                  bif l.snd.snd.fst then true else v.snd.snd.snd.snd.snd.snd
                                                else bif l.snd.snd.fst then true else v.snd.snd.snd.snd.snd.snd,
                                              fSeen l.snd.snd.snd (fOcc v) s) =
                                            (fNext l v).fst ∧
                                          [] = (fNext l v).snd ∧ True)) ∧
                              (((bif bif l.fst != (3 : Int) then (bif v.snd.fst then v.fst.set ((↑v.fst.length : Int) - (1 : Int)).toNat false else v.fst).getD (Int.toNat (0 : Int)) false else false then (3 : Int) else l.fst) !=
                                    (3 : Int)) =
                                  false →
                                InR IntKind.i64 ((↑v.fst.length : Int) - (1 : Int)) ∧
                                  (∃ (s0 : Nat),
                                      (l.snd.fst.toNat ≤ s0 ∧
                                          s0 ≤ v.fst.length - (1 : Nat) ∧
                                            fFree (fSeen l.snd.snd.snd (fOcc v) v.fst.length) (fOcc v) v.snd.fst (v.fst.length - (1 : Nat)) (v.fst.length - (1 : Nat) - l.snd.fst.toNat) l.snd.fst.toNat =
                                              fFree (fSeen l.snd.snd.snd (fOcc v) v.fst.length) (fOcc v) v.snd.fst (v.fst.length - (1 : Nat)) (v.fst.length - (1 : Nat) - s0) s0) ∧
                                        (↑v.fst.length : Int) = (↑v.fst.length : Int) ∧
                                          l.snd.fst = l.snd.fst ∧
                                            (↑v.fst.length : Int) - (1 : Int) = (↑v.fst.length : Int) - (1 : Int) ∧
                                              ((bif bif l.fst != (3 : Int) then (bif v.snd.fst then v.fst.set ((↑v.fst.length : Int) - (1 : Int)).toNat false else v.fst).getD (Int.toNat (0 : Int)) false else false then (3 : Int)
                                                  else l.fst) =
                                                  bif bif l.fst != (3 : Int) then (bif v.snd.fst then v.fst.set ((↑v.fst.length : Int) - (1 : Int)).toNat false else v.fst).getD (Int.toNat (0 : Int)) false else false then (3 : Int)
                                                  else l.fst) ∧
                                                ((↑s0 : Int) =
                                                    bif bif l.fst != (3 : Int) then (bif v.snd.fst then v.fst.set ((↑v.fst.length : Int) - (1 : Int)).toNat false else v.fst).getD (Int.toNat (0 : Int)) false else false then
                                                      l.snd.fst
                                                    else l.snd.fst) ∧
                                                  ((bif bif l.fst != (3 : Int) then (bif v.snd.fst then v.fst.set ((↑v.fst.length : Int) - (1 : Int)).toNat false else v.fst).getD (Int.toNat (0 : Int)) false else false then
                                                        bif l.snd.snd.fst then true else v.snd.snd.snd.snd.snd.snd
                                                      else bif l.snd.snd.fst then true else v.snd.snd.snd.snd.snd.snd) =
                                                      bif bif l.fst != (3 : Int) then (bif v.snd.fst then v.fst.set ((↑v.fst.length : Int) - (1 : Int)).toNat false else v.fst).getD (Int.toNat (0 : Int)) false else false then
                                                        bif l.snd.snd.fst then true else v.snd.snd.snd.snd.snd.snd
                                                      else bif l.snd.snd.fst then true else v.snd.snd.snd.snd.snd.snd) ∧
                                                    v.fst = v.fst ∧
                                                      v.snd.fst = v.snd.fst ∧
                                                        v.snd.snd.fst = v.snd.snd.fst ∧
                                                          v.snd.snd.snd.fst = v.snd.snd.snd.fst ∧
                                                            v.snd.snd.snd.snd.fst = v.snd.snd.snd.snd.fst ∧
                                                              v.snd.snd.snd.snd.snd.fst = v.snd.snd.snd.snd.snd.fst ∧
                                                                v.snd.snd.snd.snd.snd.snd = v.snd.snd.snd.snd.snd.snd ∧
                                                                  (0 : Int) = (0 : Int) ∧
                                                                    (0 : Int) = (0 : Int) ∧
                                                                      false = false ∧
                                                                        fSeen l.snd.snd.snd (fOcc v) s = fSeen l.snd.snd.snd (fOcc v) s ∧
                                                                          ((bif v.snd.fst then v.fst.set ((↑v.fst.length : Int) - (1 : Int)).toNat false else v.fst) =
                                                                              bif v.snd.fst then v.fst.set ((↑v.fst.length : Int) - (1 : Int)).toNat false else v.fst) ∧
                                                                            True) ∧
                                    ∀ (s_1 : Nat),
                                      l.snd.fst.toNat ≤ s_1 ∧
                                          s_1 ≤ v.fst.length - (1 : Nat) ∧
                                            fFree (fSeen l.snd.snd.snd (fOcc v) v.fst.length) (fOcc v) v.snd.fst (v.fst.length - (1 : Nat)) (v.fst.length - (1 : Nat) - l.snd.fst.toNat) l.snd.fst.toNat =
                                              fFree (fSeen l.snd.snd.snd (fOcc v) v.fst.length) (fOcc v) v.snd.fst (v.fst.length - (1 : Nat)) (v.fst.length - (1 : Nat) - s_1) s_1 →
                                        (decide ((↑s_1 : Int) < (↑v.fst.length : Int) - (1 : Int)) = true →
                                            InR IntKind.i64 ((↑s_1 : Int) + (1 : Int)) ∧
                                              InB (↑s_1 : Int) (fSeen l.snd.snd.snd (fOcc v) s).length ∧
                                                ((!(fSeen l.snd.snd.snd (fOcc v) s).getD (↑s_1 : Int).toNat false) = false →
                                                    InB (↑s_1 : Int) (bif v.snd.fst then v.fst.set ((↑v.fst.length : Int) - (1 : Int)).toNat false else v.fst).length) ∧
                                                  ((bif !(fSeen l.snd.snd.snd (fOcc v) s).getD (↑s_1 : Int).toNat false then true
                                                        else (bif v.snd.fst then v.fst.set ((↑v.fst.length : Int) - (1 : Int)).toNat false else v.fst).getD (↑s_1 : Int).toNat false) =
                                                        true →
                                                      (((↑s_1 : Int) == (↑v.fst.length : Int) - (1 : Int)) = true →
                                                          v.snd.fst = false → InB ((↑v.fst.length : Int) - (1 : Int)) (bif v.snd.fst then v.fst.set ((↑v.fst.length : Int) - (1 : Int)).toNat false else v.fst).length) ∧
                                                        ((bif (↑s_1 : Int) == (↑v.fst.length : Int) - (1 : Int) then
                                                                bif v.snd.fst then true
                                                                else (bif v.snd.fst then v.fst.set ((↑v.fst.length : Int) - (1 : Int)).toNat false else v.fst).getD ((↑v.fst.length : Int) - (1 : Int)).toNat false
                                                              else false) =
                                                              false →
                                                            (bif
                                                                    bif l.fst != (3 : Int) then (bif v.snd.fst then v.fst.set ((↑v.fst.length : Int) - (1 : Int)).toNat false else v.fst).getD (Int.toNat (0 : Int)) false
                                                                    else false then
                                                                  bif l.snd.snd.fst then true else v.snd.snd.snd.snd.snd.snd
                                                                else bif l.snd.snd.fst then true else v.snd.snd.snd.snd.snd.snd) =
                                                                true →
                                                              (0 : Int) ≤ (↑s_1 : Int) ∧ (↑s_1 : Int) ≤ (↑(bif v.snd.fst then v.fst.set ((↑v.fst.length : Int) - (1 : Int)).toNat false else v.fst).length : Int)) ∧
                                                          ((bif (↑s_1 : Int) == (↑v.fst.length : Int) - (1 : Int) then
                                                                  bif v.snd.fst then true
                                                                  else (bif v.snd.fst then v.fst.set ((↑v.fst.length : Int) - (1 : Int)).toNat false else v.fst).getD ((↑v.fst.length : Int) - (1 : Int)).toNat false
                                                                else false) =
                                                                false →
                                                              (bif
                                                                      bif l.fst != (3 : Int) then (bif v.snd.fst then v.fst.set ((↑v.fst.length : Int) - (1 : Int)).toNat false else v.fst).getD (Int.toNat (0 : Int)) false
                                                                      else false then
                                                                    bif l.snd.snd.fst then true else v.snd.snd.snd.snd.snd.snd
                                                                  else bif l.snd.snd.fst then true else v.snd.snd.snd.snd.snd.snd) =
                                                                  true →
                                                                (List.take ((bif v.snd.fst then v.fst.set ((↑v.fst.length : Int) - (1 : Int)).toNat false else v.fst).length - (↑s_1 : Int).toNat)
                                                                      (List.drop (↑s_1 : Int).toNat (bif v.snd.fst then v.fst.set ((↑v.fst.length : Int) - (1 : Int)).toNat false else v.fst))).length ≤
                                                                  (1000000 : Nat)) ∧
                                                            ((bif
                                                                      bif (↑s_1 : Int) == (↑v.fst.length : Int) - (1 : Int) then
                                                                        bif v.snd.fst then true
                                                                        else (bif v.snd.fst then v.fst.set ((↑v.fst.length : Int) - (1 : Int)).toNat false else v.fst).getD ((↑v.fst.length : Int) - (1 : Int)).toNat false
                                                                      else false then
                                                                    true
                                                                  else
                                                                    bif
                                                                        bif
                                                                            bif l.fst != (3 : Int) then (bif v.snd.fst then v.fst.set ((↑v.fst.length : Int) - (1 : Int)).toNat false else v.fst).getD (Int.toNat (0 : Int)) false
                                                                            else false then
                                                                          bif l.snd.snd.fst then true else v.snd.snd.snd.snd.snd.snd
                                                                        else bif l.snd.snd.fst then true else v.snd.snd.snd.snd.snd.snd then
                                                                      fOver
                                                                        (List.take ((bif v.snd.fst then v.fst.set ((↑v.fst.length : Int) - (1 : Int)).toNat false else v.fst).length - (↑s_1 : Int).toNat)
                                                                          (List.drop (↑s_1 : Int).toNat (bif v.snd.fst then v.fst.set ((↑v.fst.length : Int) - (1 : Int)).toNat false else v.fst)))
                                                                        (v.fst, v.snd.fst, v.snd.snd.fst, v.snd.snd.snd.fst, v.snd.snd.snd.snd.fst, v.snd.snd.snd.snd.snd.fst, v.snd.snd.snd.snd.snd.snd)
                                                                    else false) =
                                                                  true →
                                                                ((0 : Int) ≤ l.snd.fst ∧ (↑v.fst.length : Int) ≤ (1000000 : Int)) ∧
                                                                  ((0 : Int), (0 : Int), false, []) = (fNext l v).fst ∧ fRest l.snd.fst (↑v.fst.length : Int) = (fNext l v).snd ∧ True) ∧
                                                              ((bif
                                                                      bif (↑s_1 : Int) == (↑v.fst.length : Int) - (1 : Int) then
                                                                        bif v.snd.fst then true
                                                                        else (bif v.snd.fst then v.fst.set ((↑v.fst.length : Int) - (1 : Int)).toNat false else v.fst).getD ((↑v.fst.length : Int) - (1 : Int)).toNat false
                                                                      else false then
                                                                    true
                                                                  else
                                                                    bif
                                                                        bif
                                                                            bif l.fst != (3 : Int) then (bif v.snd.fst then v.fst.set ((↑v.fst.length : Int) - (1 : Int)).toNat false else v.fst).getD (Int.toNat (0 : Int)) false
                                                                            else false then
                                                                          bif l.snd.snd.fst then true else v.snd.snd.snd.snd.snd.snd
                                                                        else bif l.snd.snd.fst then true else v.snd.snd.snd.snd.snd.snd then
                                                                      fOver
                                                                        (List.take ((bif v.snd.fst then v.fst.set ((↑v.fst.length : Int) - (1 : Int)).toNat false else v.fst).length - (↑s_1 : Int).toNat)
                                                                          (List.drop (↑s_1 : Int).toNat (bif v.snd.fst then v.fst.set ((↑v.fst.length : Int) - (1 : Int)).toNat false else v.fst)))
                                                                        (v.fst, v.snd.fst, v.snd.snd.fst, v.snd.snd.snd.fst, v.snd.snd.snd.snd.fst, v.snd.snd.snd.snd.snd.fst, v.snd.snd.snd.snd.snd.snd)
                                                                    else false) =
                                                                  false →
                                                                ((0 : Int) ≤ l.snd.fst ∧ (↑s_1 : Int) ≤ (1000000 : Int)) ∧
                                                                  (bif
                                                                            bif l.fst != (3 : Int) then (bif v.snd.fst then v.fst.set ((↑v.fst.length : Int) - (1 : Int)).toNat false else v.fst).getD (Int.toNat (0 : Int)) false
                                                                            else false then
                                                                          (3 : Int)
                                                                        else l.fst,
                                                                        (↑s_1 : Int),
                                                                        bif
                                                                            bif l.fst != (3 : Int) then (bif v.snd.fst then v.fst.set ((↑v.fst.length : Int) - (1 : Int)).toNat false else v.fst).getD (Int.toNat (0 : Int)) false
                                                                            else false then
                                                                          bif l.snd.snd.fst then true else v.snd.snd.snd.snd.snd.snd
                                                                        else bif l.snd.snd.fst then true else v.snd.snd.snd.snd.snd.snd,
                                                                        fSeen l.snd.snd.snd (fOcc v) s) =
                                                                      (fNext l v).fst ∧
                                                                    fRest l.snd.fst (↑s_1 : Int) = (fNext l v).snd ∧ True)) ∧
                                                    ((bif !(fSeen l.snd.snd.snd (fOcc v) s).getD (↑s_1 : Int).toNat false then true
                                                        else (bif v.snd.fst then v.fst.set ((↑v.fst.length : Int) - (1 : Int)).toNat false else v.fst).getD (↑s_1 : Int).toNat false) =
                                                        false →
                                                      InB ((↑s_1 : Int) + (1 : Int)) (bif v.snd.fst then v.fst.set ((↑v.fst.length : Int) - (1 : Int)).toNat false else v.fst).length ∧
                                                        ((bif (bif v.snd.fst then v.fst.set ((↑v.fst.length : Int) - (1 : Int)).toNat false else v.fst).getD ((↑s_1 : Int) + (1 : Int)).toNat false then true
                                                              else bif v.snd.fst then (↑s_1 : Int) + (1 : Int) == (↑v.fst.length : Int) - (1 : Int) else false) =
                                                              true →
                                                            ∃ (s' : Nat),
                                                              (l.snd.fst.toNat ≤ s' ∧
                                                                  s' ≤ v.fst.length - (1 : Nat) ∧
                                                                    fFree (fSeen l.snd.snd.snd (fOcc v) v.fst.length) (fOcc v) v.snd.fst (v.fst.length - (1 : Nat)) (v.fst.length - (1 : Nat) - l.snd.fst.toNat) l.snd.fst.toNat =
                                                                      fFree (fSeen l.snd.snd.snd (fOcc v) v.fst.length) (fOcc v) v.snd.fst (v.fst.length - (1 : Nat)) (v.fst.length - (1 : Nat) - s') s') ∧
                                                                v.fst.length - s' < v.fst.length - s_1 ∧
                                                                  (↑v.fst.length : Int) = (↑v.fst.length : Int) ∧
                                                                    l.snd.fst = l.snd.fst ∧
                                                                      (↑v.fst.length : Int) - (1 : Int) = (↑v.fst.length : Int) - (1 : Int) ∧
                                                                        ((bif
                                                                                bif l.fst != (3 : Int) then (bif v.snd.fst then v.fst.set ((↑v.fst.length : Int) - (1 : Int)).toNat false else v.fst).getD (Int.toNat (0 : Int)) false
                                                                                else false then
                                                                              (3 : Int)
                                                                            else l.fst) =
                                                                            bif
                                                                                bif l.fst != (3 : Int) then (bif v.snd.fst then v.fst.set ((↑v.fst.length : Int) - (1 : Int)).toNat false else v.fst).getD (Int.toNat (0 : Int)) false
                                                                                else false then
                                                                              (3 : Int)
                                                                            else l.fst) ∧
                                                                          (↑s' : Int) = (↑s_1 : Int) + (1 : Int) ∧
                                                                            ((bif
                                                                                    bif l.fst != (3 : Int) then
                                                                                      (bif v.snd.fst then v.fst.set ((↑v.fst.length : Int) - (1 : Int)).toNat false else v.fst).getD (Int.toNat (0 : Int)) false
                                                                                    else false then
                                                                                  bif l.snd.snd.fst then true else v.snd.snd.snd.snd.snd.snd
                                                                                else bif l.snd.snd.fst then true else v.snd.snd.snd.snd.snd.snd) =
                                                                                bif
                                                                                    bif l.fst != (3 : Int) then
                                                                                      (bif v.snd.fst then v.fst.set ((↑v.fst.length : Int) - (1 : Int)).toNat false else v.fst).getD (Int.toNat (0 : Int)) false
                                                                                    else false then
                                                                                  bif l.snd.snd.fst then true else v.snd.snd.snd.snd.snd.snd
                                                                                else bif l.snd.snd.fst then true else v.snd.snd.snd.snd.snd.snd) ∧
                                                                              v.fst = v.fst ∧
                                                                                v.snd.fst = v.snd.fst ∧
                                                                                  v.snd.snd.fst = v.snd.snd.fst ∧
                                                                                    v.snd.snd.snd.fst = v.snd.snd.snd.fst ∧
                                                                                      v.snd.snd.snd.snd.fst = v.snd.snd.snd.snd.fst ∧
                                                                                        v.snd.snd.snd.snd.snd.fst = v.snd.snd.snd.snd.snd.fst ∧
                                                                                          v.snd.snd.snd.snd.snd.snd = v.snd.snd.snd.snd.snd.snd ∧
                                                                                            (0 : Int) = (0 : Int) ∧
                                                                                              (0 : Int) = (0 : Int) ∧
                                                                                                false = false ∧
                                                                                                  fSeen l.snd.snd.snd (fOcc v) s = fSeen l.snd.snd.snd (fOcc v) s ∧
                                                                                                    ((bif v.snd.fst then v.fst.set ((↑v.fst.length : Int) - (1 : Int)).toNat false else v.fst) =
                                                                                                        bif v.snd.fst then v.fst.set ((↑v.fst.length : Int) - (1 : Int)).toNat false else v.fst) ∧
                                                                                                      True) ∧
                                                          ((bif (bif v.snd.fst then v.fst.set ((↑v.fst.length : Int) - (1 : Int)).toNat false else v.fst).getD ((↑s_1 : Int) + (1 : Int)).toNat false then true
                                                              else bif v.snd.fst then (↑s_1 : Int) + (1 : Int) == (↑v.fst.length : Int) - (1 : Int) else false) =
                                                              false →
                                                            (((↑s_1 : Int) == (↑v.fst.length : Int) - (1 : Int)) = true →
                                                                v.snd.fst = false → InB ((↑v.fst.length : Int) - (1 : Int)) (bif v.snd.fst then v.fst.set ((↑v.fst.length : Int) - (1 : Int)).toNat false else v.fst).length) ∧
                                                              ((bif (↑s_1 : Int) == (↑v.fst.length : Int) - (1 : Int) then
                                                                      bif v.snd.fst then true
                                                                      else (bif v.snd.fst then v.fst.set ((↑v.fst.length : Int) - (1 : Int)).toNat false else v.fst).getD ((↑v.fst.length : Int) - (1 : Int)).toNat false
                                                                    else false) =
                                                                    false →
                                                                  (bif
                                                                          bif l.fst != (3 : Int) then (bif v.snd.fst then v.fst.set ((↑v.fst.length : Int) - (1 : Int)).toNat false else v.fst).getD (Int.toNat (0 : Int)) false
                                                                          else false then
                                                                        bif l.snd.snd.fst then true else v.snd.snd.snd.snd.snd.snd
                                                                      else bif l.snd.snd.fst then true else v.snd.snd.snd.snd.snd.snd) =
                                                                      true →
                                                                    (0 : Int) ≤ (↑s_1 : Int) ∧ (↑s_1 : Int) ≤ (↑(bif v.snd.fst then v.fst.set ((↑v.fst.length : Int) - (1 : Int)).toNat false else v.fst).length : Int)) ∧
                                                                ((bif (↑s_1 : Int) == (↑v.fst.length : Int) - (1 : Int) then
                                                                        bif v.snd.fst then true
                                                                        else (bif v.snd.fst then v.fst.set ((↑v.fst.length : Int) - (1 : Int)).toNat false else v.fst).getD ((↑v.fst.length : Int) - (1 : Int)).toNat false
                                                                      else false) =
                                                                      false →
                                                                    (bif
                                                                            bif l.fst != (3 : Int) then (bif v.snd.fst then v.fst.set ((↑v.fst.length : Int) - (1 : Int)).toNat false else v.fst).getD (Int.toNat (0 : Int)) false
                                                                            else false then
                                                                          bif l.snd.snd.fst then true else v.snd.snd.snd.snd.snd.snd
                                                                        else bif l.snd.snd.fst then true else v.snd.snd.snd.snd.snd.snd) =
                                                                        true →
                                                                      (List.take ((bif v.snd.fst then v.fst.set ((↑v.fst.length : Int) - (1 : Int)).toNat false else v.fst).length - (↑s_1 : Int).toNat)
                                                                            (List.drop (↑s_1 : Int).toNat (bif v.snd.fst then v.fst.set ((↑v.fst.length : Int) - (1 : Int)).toNat false else v.fst))).length ≤
                                                                        (1000000 : Nat)) ∧
                                                                  ((bif
                                                                            bif (↑s_1 : Int) == (↑v.fst.length : Int) - (1 : Int) then
                                                                              bif v.snd.fst then true
                                                                              else (bif v.snd.fst then v.fst.set ((↑v.fst.length : Int) - (1 : Int)).toNat false else v.fst).getD ((↑v.fst.length : Int) - (1 : Int)).toNat false
                                                                            else false then
                                                                          true
                                                                        else
                                                                          bif
                                                                              bif
                                                                                  bif l.fst != (3 : Int) then
                                                                                    (bif v.snd.fst then v.fst.set ((↑v.fst.length : Int) - (1 : Int)).toNat false else v.fst).getD (Int.toNat (0 : Int)) false
                                                                                  else false then
                                                                                bif l.snd.snd.fst then true else v.snd.snd.snd.snd.snd.snd
                                                                              else bif l.snd.snd.fst then true else v.snd.snd.snd.snd.snd.snd then
                                                                            fOver
                                                                              (List.take ((bif v.snd.fst then v.fst.set ((↑v.fst.length : Int) - (1 : Int)).toNat false else v.fst).length - (↑s_1 : Int).toNat)
                                                                                (List.drop (↑s_1 : Int).toNat (bif v.snd.fst then v.fst.set ((↑v.fst.length : Int) - (1 : Int)).toNat false else v.fst)))
                                                                              (v.fst, v.snd.fst, v.snd.snd.fst, v.snd.snd.snd.fst, v.snd.snd.snd.snd.fst, v.snd.snd.snd.snd.snd.fst, v.snd.snd.snd.snd.snd.snd)
                                                                          else false) =
                                                                        true →
                                                                      ((0 : Int) ≤ l.snd.fst ∧ (↑v.fst.length : Int) ≤ (1000000 : Int)) ∧
                                                                        ((0 : Int), (0 : Int), false, []) = (fNext l v).fst ∧ fRest l.snd.fst (↑v.fst.length : Int) = (fNext l v).snd ∧ True) ∧
                                                                    ((bif
                                                                            bif (↑s_1 : Int) == (↑v.fst.length : Int) - (1 : Int) then
                                                                              bif v.snd.fst then true
                                                                              else (bif v.snd.fst then v.fst.set ((↑v.fst.length : Int) - (1 : Int)).toNat false else v.fst).getD ((↑v.fst.length : Int) - (1 : Int)).toNat false
                                                                            else false then
                                                                          true
                                                                        else
                                                                          bif
                                                                              bif
                                                                                  bif l.fst != (3 : Int) then
                                                                                    (bif v.snd.fst then v.fst.set ((↑v.fst.length : Int) - (1 : Int)).toNat false else v.fst).getD (Int.toNat (0 : Int)) false
                                                                                  else false then
                                                                                bif l.snd.snd.fst then true else v.snd.snd.snd.snd.snd.snd
                                                                              else bif l.snd.snd.fst then true else v.snd.snd.snd.snd.snd.snd then
                                                                            fOver
                                                                              (List.take ((bif v.snd.fst then v.fst.set ((↑v.fst.length : Int) - (1 : Int)).toNat false else v.fst).length - (↑s_1 : Int).toNat)
                                                                                (List.drop (↑s_1 : Int).toNat (bif v.snd.fst then v.fst.set ((↑v.fst.length : Int) - (1 : Int)).toNat false else v.fst)))
                                                                              (v.fst, v.snd.fst, v.snd.snd.fst, v.snd.snd.snd.fst, v.snd.snd.snd.snd.fst, v.snd.snd.snd.snd.snd.fst, v.snd.snd.snd.snd.snd.snd)
                                                                          else false) =
                                                                        false →
                                                                      ((0 : Int) ≤ l.snd.fst ∧ (↑s_1 : Int) ≤ (1000000 : Int)) ∧
                                                                        (bif
                                                                                  bif l.fst != (3 : Int) then
                                                                                    (bif v.snd.fst then v.fst.set ((↑v.fst.length : Int) - (1 : Int)).toNat false else v.fst).getD (Int.toNat (0 : Int)) false
                                                                                  else false then
                                                                                (3 : Int)
                                                                              else l.fst,
                                                                              (↑s_1 : Int),
                                                                              bif
                                                                                  bif l.fst != (3 : Int) then
                                                                                    (bif v.snd.fst then v.fst.set ((↑v.fst.length : Int) - (1 : Int)).toNat false else v.fst).getD (Int.toNat (0 : Int)) false
                                                                                  else false then
                                                                                bif l.snd.snd.fst then true else v.snd.snd.snd.snd.snd.snd
                                                                              else bif l.snd.snd.fst then true else v.snd.snd.snd.snd.snd.snd,
                                                                              fSeen l.snd.snd.snd (fOcc v) s) =
                                                                            (fNext l v).fst ∧
                                                                          fRest l.snd.fst (↑s_1 : Int) = (fNext l v).snd ∧ True)))) ∧
                                          (decide ((↑s_1 : Int) < (↑v.fst.length : Int) - (1 : Int)) = false →
                                            (((↑s_1 : Int) == (↑v.fst.length : Int) - (1 : Int)) = true →
                                                v.snd.fst = false → InB ((↑v.fst.length : Int) - (1 : Int)) (bif v.snd.fst then v.fst.set ((↑v.fst.length : Int) - (1 : Int)).toNat false else v.fst).length) ∧
                                              ((bif (↑s_1 : Int) == (↑v.fst.length : Int) - (1 : Int) then
                                                      bif v.snd.fst then true else (bif v.snd.fst then v.fst.set ((↑v.fst.length : Int) - (1 : Int)).toNat false else v.fst).getD ((↑v.fst.length : Int) - (1 : Int)).toNat false
                                                    else false) =
                                                    false →
                                                  (bif bif l.fst != (3 : Int) then (bif v.snd.fst then v.fst.set ((↑v.fst.length : Int) - (1 : Int)).toNat false else v.fst).getD (Int.toNat (0 : Int)) false else false then
                                                        bif l.snd.snd.fst then true else v.snd.snd.snd.snd.snd.snd
                                                      else bif l.snd.snd.fst then true else v.snd.snd.snd.snd.snd.snd) =
                                                      true →
                                                    (0 : Int) ≤ (↑s_1 : Int) ∧ (↑s_1 : Int) ≤ (↑(bif v.snd.fst then v.fst.set ((↑v.fst.length : Int) - (1 : Int)).toNat false else v.fst).length : Int)) ∧
                                                ((bif (↑s_1 : Int) == (↑v.fst.length : Int) - (1 : Int) then
                                                        bif v.snd.fst then true else (bif v.snd.fst then v.fst.set ((↑v.fst.length : Int) - (1 : Int)).toNat false else v.fst).getD ((↑v.fst.length : Int) - (1 : Int)).toNat false
                                                      else false) =
                                                      false →
                                                    (bif bif l.fst != (3 : Int) then (bif v.snd.fst then v.fst.set ((↑v.fst.length : Int) - (1 : Int)).toNat false else v.fst).getD (Int.toNat (0 : Int)) false else false then
                                                          bif l.snd.snd.fst then true else v.snd.snd.snd.snd.snd.snd
                                                        else bif l.snd.snd.fst then true else v.snd.snd.snd.snd.snd.snd) =
                                                        true →
                                                      (List.take ((bif v.snd.fst then v.fst.set ((↑v.fst.length : Int) - (1 : Int)).toNat false else v.fst).length - (↑s_1 : Int).toNat)
                                                            (List.drop (↑s_1 : Int).toNat (bif v.snd.fst then v.fst.set ((↑v.fst.length : Int) - (1 : Int)).toNat false else v.fst))).length ≤
                                                        (1000000 : Nat)) ∧
                                                  ((bif
                                                            bif (↑s_1 : Int) == (↑v.fst.length : Int) - (1 : Int) then
                                                              bif v.snd.fst then true
                                                              else (bif v.snd.fst then v.fst.set ((↑v.fst.length : Int) - (1 : Int)).toNat false else v.fst).getD ((↑v.fst.length : Int) - (1 : Int)).toNat false
                                                            else false then
                                                          true
                                                        else
                                                          bif
                                                              bif
                                                                  bif l.fst != (3 : Int) then (bif v.snd.fst then v.fst.set ((↑v.fst.length : Int) - (1 : Int)).toNat false else v.fst).getD (Int.toNat (0 : Int)) false
                                                                  else false then
                                                                bif l.snd.snd.fst then true else v.snd.snd.snd.snd.snd.snd
                                                              else bif l.snd.snd.fst then true else v.snd.snd.snd.snd.snd.snd then
                                                            fOver
                                                              (List.take ((bif v.snd.fst then v.fst.set ((↑v.fst.length : Int) - (1 : Int)).toNat false else v.fst).length - (↑s_1 : Int).toNat)
                                                                (List.drop (↑s_1 : Int).toNat (bif v.snd.fst then v.fst.set ((↑v.fst.length : Int) - (1 : Int)).toNat false else v.fst)))
                                                              (v.fst, v.snd.fst, v.snd.snd.fst, v.snd.snd.snd.fst, v.snd.snd.snd.snd.fst, v.snd.snd.snd.snd.snd.fst, v.snd.snd.snd.snd.snd.snd)
                                                          else false) =
                                                        true →
                                                      ((0 : Int) ≤ l.snd.fst ∧ (↑v.fst.length : Int) ≤ (1000000 : Int)) ∧
                                                        ((0 : Int), (0 : Int), false, []) = (fNext l v).fst ∧ fRest l.snd.fst (↑v.fst.length : Int) = (fNext l v).snd ∧ True) ∧
                                                    ((bif
                                                            bif (↑s_1 : Int) == (↑v.fst.length : Int) - (1 : Int) then
                                                              bif v.snd.fst then true
                                                              else (bif v.snd.fst then v.fst.set ((↑v.fst.length : Int) - (1 : Int)).toNat false else v.fst).getD ((↑v.fst.length : Int) - (1 : Int)).toNat false
                                                            else false then
                                                          true
                                                        else
                                                          bif
                                                              bif
                                                                  bif l.fst != (3 : Int) then (bif v.snd.fst then v.fst.set ((↑v.fst.length : Int) - (1 : Int)).toNat false else v.fst).getD (Int.toNat (0 : Int)) false
                                                                  else false then
                                                                bif l.snd.snd.fst then true else v.snd.snd.snd.snd.snd.snd
                                                              else bif l.snd.snd.fst then true else v.snd.snd.snd.snd.snd.snd then
                                                            fOver
                                                              (List.take ((bif v.snd.fst then v.fst.set ((↑v.fst.length : Int) - (1 : Int)).toNat false else v.fst).length - (↑s_1 : Int).toNat)
                                                                (List.drop (↑s_1 : Int).toNat (bif v.snd.fst then v.fst.set ((↑v.fst.length : Int) - (1 : Int)).toNat false else v.fst)))
                                                              (v.fst, v.snd.fst, v.snd.snd.fst, v.snd.snd.snd.fst, v.snd.snd.snd.snd.fst, v.snd.snd.snd.snd.snd.fst, v.snd.snd.snd.snd.snd.snd)
                                                          else false) =
                                                        false →
                                                      ((0 : Int) ≤ l.snd.fst ∧ (↑s_1 : Int) ≤ (1000000 : Int)) ∧
                                                        (bif bif l.fst != (3 : Int) then (bif v.snd.fst then v.fst.set ((↑v.fst.length : Int) - (1 : Int)).toNat false else v.fst).getD (Int.toNat (0 : Int)) false else false then
                                                                (3 : Int)
                                                              else l.fst,
                                                              (↑s_1 : Int),
                                                              bif
                                                                  bif l.fst != (3 : Int) then (bif v.snd.fst then v.fst.set ((↑v.fst.length : Int) - (1 : Int)).toNat false else v.fst).getD (Int.toNat (0 : Int)) false
                                                                  else false then
                                                                bif l.snd.snd.fst then true else v.snd.snd.snd.snd.snd.snd
                                                              else bif l.snd.snd.fst then true else v.snd.snd.snd.snd.snd.snd,
                                                              fSeen l.snd.snd.snd (fOcc v) s) =
                                                            (fNext l v).fst ∧
                                                          fRest l.snd.fst (↑s_1 : Int) = (fNext l v).snd ∧ True))))))) := by kernel_rfl

end Ytpjgggcaamigdaa
end Go.Proofs
