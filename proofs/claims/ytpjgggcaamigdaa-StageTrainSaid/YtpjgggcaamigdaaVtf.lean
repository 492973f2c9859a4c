/-
  The reference's 'Next', written out.
-/
import Derived.Test.YtpjgggcaamigdaaVtd
set_option maxRecDepth 100000
set_option linter.unusedVariables false
set_option maxHeartbeats 2000000
namespace Go.Proofs
open Go Go.Vc
namespace Ytpjgggcaamigdaa

theorem v11 (l : Int × Int × Bool × List Bool) (v : List Bool × Bool × Bool × Bool × Bool × Bool × Bool) : bodyVC (ctxOf tab [(23, c23), (24, c24)]) Try.f11 c11 (a11 (l, v, ())) (l, v, ()) = (
((l.fst == (0 : Int)) = true → (l.fst, l.snd.fst, l.snd.snd.fst, l.snd.snd.snd) = (fNext l v).fst ∧ [] = (fNext l v).snd ∧ True) ∧
  ((l.fst == (0 : Int)) = false →
    ((bif bif bif bif decide (l.fst < (0 : Int)) then true else decide (l.fst > (3 : Int)) then true else decide (l.snd.fst < (0 : Int)) then true else decide (l.snd.fst ≥ (↑v.fst.length : Int)) then true
          else (↑v.fst.length : Int) != (↑l.snd.snd.snd.length : Int)) =
          true →
        ((0 : Int), (0 : Int), false, []) = (fNext l v).fst ∧ [] = (fNext l v).snd ∧ True) ∧
      ((bif bif bif bif decide (l.fst < (0 : Int)) then true else decide (l.fst > (3 : Int)) then true else decide (l.snd.fst < (0 : Int)) then true else decide (l.snd.fst ≥ (↑v.fst.length : Int)) then true
          else (↑v.fst.length : Int) != (↑l.snd.snd.snd.length : Int)) =
          false →
        roomFor ((List.replicate (0 : Nat) false).length + v.fst.length) (1 : Nat) ∧
          (v.snd.fst = true → InR IntKind.i64 ((↑v.fst.length : Int) - (1 : Int))) ∧
            (v.snd.fst = true → InB ((↑v.fst.length : Int) - (1 : Int)) (List.replicate (0 : Nat) false ++ v.fst).length) ∧
              (∃ (s0 : Nat),
                  s0 ≤ v.fst.length ∧
                    (↑s0 : Int) = (0 : Int) ∧
                      (↑v.fst.length : Int) = (↑v.fst.length : Int) ∧
                        l.fst = l.fst ∧
                          l.snd.fst = l.snd.fst ∧
                            ((bif l.snd.snd.fst then true else v.snd.snd.snd.snd.snd.snd) = bif l.snd.snd.fst then true else v.snd.snd.snd.snd.snd.snd) ∧
                              List.zipWith (fun (a b : Bool) => a || b) (List.take s0 l.snd.snd.snd) (List.take s0 (fOcc v)) = [] ∧
                                l.fst = l.fst ∧
                                  l.snd.fst = l.snd.fst ∧
                                    l.snd.snd.fst = l.snd.snd.fst ∧
                                      l.snd.snd.snd = l.snd.snd.snd ∧
                                        v.fst = v.fst ∧
                                          v.snd.fst = v.snd.fst ∧
                                            v.snd.snd.fst = v.snd.snd.fst ∧
                                              v.snd.snd.snd.fst = v.snd.snd.snd.fst ∧
                                                v.snd.snd.snd.snd.fst = v.snd.snd.snd.snd.fst ∧
                                                  v.snd.snd.snd.snd.snd.fst = v.snd.snd.snd.snd.snd.fst ∧
                                                    v.snd.snd.snd.snd.snd.snd = v.snd.snd.snd.snd.snd.snd ∧
                                                      (0 : Int) = (0 : Int) ∧
                                                        (0 : Int) = (0 : Int) ∧
                                                          false = false ∧
                                                            ((bif v.snd.fst then (List.replicate (0 : Nat) false ++ v.fst).set ((↑v.fst.length : Int) - (1 : Int)).toNat false else List.replicate (0 : Nat) false ++ v.fst) =
                                                                bif v.snd.fst then (List.replicate (0 : Nat) false ++ v.fst).set ((↑v.fst.length : Int) - (1 : Int)).toNat false else List.replicate (0 : Nat) false ++ v.fst) ∧
                                                              True) ∧
                ∀ (s : Nat),
                  s ≤ v.fst.length →
                    (decide ((↑s : Int) < (↑v.fst.length : Int)) = true →
                        InB (↑s : Int) l.snd.snd.snd.length ∧
                          (l.snd.snd.snd.getD (↑s : Int).toNat false = false →
                              InB (↑s : Int) (bif v.snd.fst then (List.replicate (0 : Nat) false ++ v.fst).set ((↑v.fst.length : Int) - (1 : Int)).toNat false else List.replicate (0 : Nat) false ++ v.fst).length) ∧
                            roomFor
                                ((List.zipWith (fun (a b : Bool) => a || b) (List.take s l.snd.snd.snd) (List.take s (fOcc v))).length +
                                  ((List.replicate (1 : Nat) false).set (0 : Nat)
                                      (bif l.snd.snd.snd.getD (↑s : Int).toNat false then true
                                      else
                                        (bif v.snd.fst then (List.replicate (0 : Nat) false ++ v.fst).set ((↑v.fst.length : Int) - (1 : Int)).toNat false else List.replicate (0 : Nat) false ++ v.fst).getD (↑s : Int).toNat
                                          false)).length)
                                (1 : Nat) ∧
                              InR IntKind.i64 ((↑s : Int) + (1 : Int)) ∧
                                ∃ (s' : Nat),
                                  s' ≤ v.fst.length ∧
                                    v.fst.length - s' < v.fst.length - s ∧
                                      (↑s' : Int) = (↑s : Int) + (1 : Int) ∧
                                        (↑v.fst.length : Int) = (↑v.fst.length : Int) ∧
                                          l.fst = l.fst ∧
                                            l.snd.fst = l.snd.fst ∧
                                              ((bif l.snd.snd.fst then true else v.snd.snd.snd.snd.snd.snd) = bif l.snd.snd.fst then true else v.snd.snd.snd.snd.snd.snd) ∧
                                                List.zipWith (fun (a b : Bool) => a || b) (List.take s' l.snd.snd.snd) (List.take s' (fOcc v)) =
                                                    List.zipWith (fun (a b : Bool) => a || b) (List.take s l.snd.snd.snd) (List.take s (fOcc v)) ++
                                                      (List.replicate (1 : Nat) false).set (0 : Nat)
                                                        (bif l.snd.snd.snd.getD (↑s : Int).toNat false then true
                                                        else
                                                          (bif v.snd.fst then (List.replicate (0 : Nat) false ++ v.fst).set ((↑v.fst.length : Int) - (1 : Int)).toNat false else List.replicate (0 : Nat) false ++ v.fst).getD
                                                            (↑s : Int).toNat false) ∧
                                                  l.fst = l.fst ∧
                                                    l.snd.fst = l.snd.fst ∧
                                                      l.snd.snd.fst = l.snd.snd.fst ∧
                                                        l.snd.snd.snd = l.snd.snd.snd ∧
                                                          v.fst = v.fst ∧
                                                            v.snd.fst = v.snd.fst ∧
                                                              v.snd.snd.fst = v.snd.snd.fst ∧
                                                                v.snd.snd.snd.fst = v.snd.snd.snd.fst ∧
                                                                  v.snd.snd.snd.snd.fst = v.snd.snd.snd.snd.fst ∧
                                                                    v.snd.snd.snd.snd.snd.fst = v.snd.snd.snd.snd.snd.fst ∧
                                                                      v.snd.snd.snd.snd.snd.snd = v.snd.snd.snd.snd.snd.snd ∧
                                                                        (0 : Int) = (0 : Int) ∧
                                                                          (0 : Int) = (0 : Int) ∧
                                                                            false = false ∧
                                                                              ((bif v.snd.fst then (List.replicate (0 : Nat) false ++ v.fst).set ((↑v.fst.length : Int) - (1 : Int)).toNat false
                                                                                  else List.replicate (0 : Nat) false ++ v.fst) =
                                                                                  bif v.snd.fst then (List.replicate (0 : Nat) false ++ v.fst).set ((↑v.fst.length : Int) - (1 : Int)).toNat false
                                                                                  else List.replicate (0 : Nat) false ++ v.fst) ∧
                                                                                True) ∧
                      (decide ((↑s : Int) < (↑v.fst.length : Int)) = false →
                        ((bif v.snd.fst then (List.replicate (0 : Nat) false ++ v.fst).set ((↑v.fst.length : Int) - (1 : Int)).toNat false else List.replicate (0 : Nat) false ++ v.fst).length ≤ (1000000 : Nat) ∧
                            (0 : Int) ≤ l.snd.fst ∧ l.snd.fst ≤ (1000000 : Int)) ∧
                          ((l.fst != (3 : Int)) = true →
                              InB (0 : Int) (bif v.snd.fst then (List.replicate (0 : Nat) false ++ v.fst).set ((↑v.fst.length : Int) - (1 : Int)).toNat false else List.replicate (0 : Nat) false ++ v.fst).length ∧
                                ((bif v.snd.fst then (List.replicate (0 : Nat) false ++ v.fst).set ((↑v.fst.length : Int) - (1 : Int)).toNat false else List.replicate (0 : Nat) false ++ v.fst).getD (Int.toNat (0 : Int)) false =
                                      true →
                                    (((3 : Int) != (3 : Int)) = true →
                                        ((3 : Int), l.snd.fst, bif l.snd.snd.fst then true else v.snd.snd.snd.snd.snd.snd, List.zipWith (fun (a b : Bool) => a || b) (List.take s l.snd.snd.snd) (List.take s (fOcc v))) =
                                            (fNext l v).fst ∧
                                          [] = (fNext l v).snd ∧ True) ∧
                                      (((3 : Int) != (3 : Int)) = false →
                                        (∃ (s0 : Nat),
                                            (l.snd.fst.toNat ≤ s0 ∧
                                                s0 ≤ v.fst.length - (1 : Nat) ∧
                                                  fFree (fSeen l.snd.snd.snd (fOcc v) v.fst.length) (fOcc v) v.snd.fst (v.fst.length - (1 : Nat)) (v.fst.length - (1 : Nat) - l.snd.fst.toNat) l.snd.fst.toNat =
                                                    fFree (fSeen l.snd.snd.snd (fOcc v) v.fst.length) (fOcc v) v.snd.fst (v.fst.length - (1 : Nat)) (v.fst.length - (1 : Nat) - s0) s0) ∧
                                              (↑v.fst.length : Int) = (↑v.fst.length : Int) ∧
                                                ((bif
                                                        !(List.drop l.snd.fst.toNat
                                                                (bif v.snd.fst then (List.replicate (0 : Nat) false ++ v.fst).set ((↑v.fst.length : Int) - (1 : Int)).toNat false
                                                                else List.replicate (0 : Nat) false ++ v.fst)).contains
                                                            true then
                                                      bif !v.snd.snd.snd.snd.fst then true else v.snd.snd.snd.snd.snd.fst
                                                    else false) =
                                                    bif
                                                        !(List.drop l.snd.fst.toNat
                                                                (bif v.snd.fst then (List.replicate (0 : Nat) false ++ v.fst).set ((↑v.fst.length : Int) - (1 : Int)).toNat false
                                                                else List.replicate (0 : Nat) false ++ v.fst)).contains
                                                            true then
                                                      bif !v.snd.snd.snd.snd.fst then true else v.snd.snd.snd.snd.snd.fst
                                                    else false) ∧
                                                  (3 : Int) = (3 : Int) ∧
                                                    (↑s0 : Int) = l.snd.fst ∧
                                                      ((bif l.snd.snd.fst then true else v.snd.snd.snd.snd.snd.snd) = bif l.snd.snd.fst then true else v.snd.snd.snd.snd.snd.snd) ∧
                                                        l.fst = l.fst ∧
                                                          l.snd.fst = l.snd.fst ∧
                                                            l.snd.snd.fst = l.snd.snd.fst ∧
                                                              l.snd.snd.snd = l.snd.snd.snd ∧
                                                                v.fst = v.fst ∧
                                                                  v.snd.fst = v.snd.fst ∧
                                                                    v.snd.snd.fst = v.snd.snd.fst ∧
                                                                      v.snd.snd.snd.fst = v.snd.snd.snd.fst ∧
                                                                        v.snd.snd.snd.snd.fst = v.snd.snd.snd.snd.fst ∧
                                                                          v.snd.snd.snd.snd.snd.fst = v.snd.snd.snd.snd.snd.fst ∧
                                                                            v.snd.snd.snd.snd.snd.snd = v.snd.snd.snd.snd.snd.snd ∧
                                                                              (0 : Int) = (0 : Int) ∧
                                                                                (0 : Int) = (0 : Int) ∧
                                                                                  false = false ∧
                                                                                    List.zipWith (fun (a b : Bool) => a || b) (List.take s l.snd.snd.snd) (List.take s (fOcc v)) =
                                                                                        List.zipWith (fun (a b : Bool) => a || b) (List.take s l.snd.snd.snd) (List.take s (fOcc v)) ∧
                                                                                      ((bif v.snd.fst then (List.replicate (0 : Nat) false ++ v.fst).set ((↑v.fst.length : Int) - (1 : Int)).toNat false
                                                                                          else List.replicate (0 : Nat) false ++ v.fst) =
                                                                                          bif v.snd.fst then (List.replicate (0 : Nat) false ++ v.fst).set ((↑v.fst.length : Int) - (1 : Int)).toNat false
                                                                                          else List.replicate (0 : Nat) false ++ v.fst) ∧
                                                                                        True) ∧
                                          ∀ (s_1 : Nat),
                                            l.snd.fst.toNat ≤ s_1 ∧
                                                s_1 ≤ v.fst.length - (1 : Nat) ∧
                                                  fFree (fSeen l.snd.snd.snd (fOcc v) v.fst.length) (fOcc v) v.snd.fst (v.fst.length - (1 : Nat)) (v.fst.length - (1 : Nat) - l.snd.fst.toNat) l.snd.fst.toNat =
                                                    fFree (fSeen l.snd.snd.snd (fOcc v) v.fst.length) (fOcc v) v.snd.fst (v.fst.length - (1 : Nat)) (v.fst.length - (1 : Nat) - s_1) s_1 →
                                              InR IntKind.i64 ((↑v.fst.length : Int) - (1 : Int)) ∧
                                                (decide ((↑s_1 : Int) < (↑v.fst.length : Int) - (1 : Int)) = true →
                                                    InB (↑s_1 : Int) (List.zipWith (fun (a b : Bool) => a || b) (List.take s l.snd.snd.snd) (List.take s (fOcc v))).length) ∧
                                                  ((bif decide ((↑s_1 : Int) < (↑v.fst.length : Int) - (1 : Int)) then
                                                          (List.zipWith (fun (a b : Bool) => a || b) (List.take s l.snd.snd.snd) (List.take s (fOcc v))).getD (↑s_1 : Int).toNat false
                                                        else false) =
                                                        true →
                                                      InB (↑s_1 : Int)
                                                        (bif v.snd.fst then (List.replicate (0 : Nat) false ++ v.fst).set ((↑v.fst.length : Int) - (1 : Int)).toNat false else List.replicate (0 : Nat) false ++ v.fst).length) ∧
                                                    ((bif
                                                              bif decide ((↑s_1 : Int) < (↑v.fst.length : Int) - (1 : Int)) then
                                                                (List.zipWith (fun (a b : Bool) => a || b) (List.take s l.snd.snd.snd) (List.take s (fOcc v))).getD (↑s_1 : Int).toNat false
                                                              else false then
                                                            !(bif v.snd.fst then (List.replicate (0 : Nat) false ++ v.fst).set ((↑v.fst.length : Int) - (1 : Int)).toNat false else List.replicate (0 : Nat) false ++ v.fst).getD
                                                                (↑s_1 : Int).toNat false
                                                          else false) =
                                                          true →
                                                        InR IntKind.i64 ((↑s_1 : Int) + (1 : Int))) ∧
                                                      ((bif
                                                                bif decide ((↑s_1 : Int) < (↑v.fst.length : Int) - (1 : Int)) then
                                                                  (List.zipWith (fun (a b : Bool) => a || b) (List.take s l.snd.snd.snd) (List.take s (fOcc v))).getD (↑s_1 : Int).toNat false
                                                                else false then
                                                              !(bif v.snd.fst then (List.replicate (0 : Nat) false ++ v.fst).set ((↑v.fst.length : Int) - (1 : Int)).toNat false else List.replicate (0 : Nat) false ++ v.fst).getD
                                                                  (↑s_1 : Int).toNat false
                                                            else false) =
                                                            true →
                                                          InB ((↑s_1 : Int) + (1 : Int))
                                                            (bif v.snd.fst then (List.replicate (0 : Nat) false ++ v.fst).set ((↑v.fst.length : Int) - (1 : Int)).toNat false else List.replicate (0 : Nat) false ++ v.fst).length) ∧
                                                        ((bif
                                                                  bif decide ((↑s_1 : Int) < (↑v.fst.length : Int) - (1 : Int)) then
                                                                    (List.zipWith (fun (a b : Bool) => a || b) (List.take s l.snd.snd.snd) (List.take s (fOcc v))).getD (↑s_1 : Int).toNat false
                                                                  else false then
                                                                !(bif v.snd.fst then (List.replicate (0 : Nat) false ++ v.fst).set ((↑v.fst.length : Int) - (1 : Int)).toNat false else List.replicate (0 : Nat) false ++ v.fst).getD
                                                                    (↑s_1 : Int).toNat false
                                                              else false) =
                                                              true →
                                                            (bif v.snd.fst then (List.replicate (0 : Nat) false ++ v.fst).set ((↑v.fst.length : Int) - (1 : Int)).toNat false else List.replicate (0 : Nat) false ++ v.fst).getD
                                                                  ((↑s_1 : Int) + (1 : Int)).toNat false =
                                                                false →
                                                              v.snd.fst = true → InR IntKind.i64 ((↑s_1 : Int) + (1 : Int))) ∧
                                                          ((bif
                                                                    bif decide ((↑s_1 : Int) < (↑v.fst.length : Int) - (1 : Int)) then
                                                                      (List.zipWith (fun (a b : Bool) => a || b) (List.take s l.snd.snd.snd) (List.take s (fOcc v))).getD (↑s_1 : Int).toNat false
                                                                    else false then
                                                                  !(bif v.snd.fst then (List.replicate (0 : Nat) false ++ v.fst).set ((↑v.fst.length : Int) - (1 : Int)).toNat false
                                                                        else List.replicate (0 : Nat) false ++ v.fst).getD
                                                                      (↑s_1 : Int).toNat false
                                                                else false) =
                                                                true →
                                                              (bif v.snd.fst then (List.replicate (0 : Nat) false ++ v.fst).set ((↑v.fst.length : Int) - (1 : Int)).toNat false else List.replicate (0 : Nat) false ++ v.fst).getD
                                                                    ((↑s_1 : Int) + (1 : Int)).toNat false =
                                                                  false →
                                                                v.snd.fst = true → InR IntKind.i64 ((↑v.fst.length : Int) - (1 : Int))) ∧
                                                            ((bif
                                                                      bif
                                                                          bif decide ((↑s_1 : Int) < (↑v.fst.length : Int) - (1 : Int)) then
                                                                            (List.zipWith (fun (a b : Bool) => a || b) (List.take s l.snd.snd.snd) (List.take s (fOcc v))).getD (↑s_1 : Int).toNat false
                                                                          else false then
                                                                        !(bif v.snd.fst then (List.replicate (0 : Nat) false ++ v.fst).set ((↑v.fst.length : Int) - (1 : Int)).toNat false
                                                                              else List.replicate (0 : Nat) false ++ v.fst).getD
                                                                            (↑s_1 : Int).toNat false
                                                                      else false then
                                                                    bif
                                                                        (bif v.snd.fst then (List.replicate (0 : Nat) false ++ v.fst).set ((↑v.fst.length : Int) - (1 : Int)).toNat false
                                                                            else List.replicate (0 : Nat) false ++ v.fst).getD
                                                                          ((↑s_1 : Int) + (1 : Int)).toNat false then
                                                                      true
                                                                    else bif v.snd.fst then (↑s_1 : Int) + (1 : Int) == (↑v.fst.length : Int) - (1 : Int) else false
                                                                  else false) =
                                                                  true →
                                                                InR IntKind.i64 ((↑s_1 : Int) + (1 : Int)) ∧
                                                                  ∃ (s' : Nat),
                                                                    (l.snd.fst.toNat ≤ s' ∧
                                                                        s' ≤ v.fst.length - (1 : Nat) ∧
                                                                          fFree (fSeen l.snd.snd.snd (fOcc v) v.fst.length) (fOcc v) v.snd.fst (v.fst.length - (1 : Nat)) (v.fst.length - (1 : Nat) - l.snd.fst.toNat)
                                                                              l.snd.fst.toNat =
                                                                            fFree (fSeen l.snd.snd.snd (fOcc v) v.fst.length) (fOcc v) v.snd.fst (v.fst.length - (1 : Nat)) (v.fst.length - (1 : Nat) - s') s') ∧
                                                                      v.fst.length - s' < v.fst.length - s_1 ∧
                                                                        (↑v.fst.length : Int) = (↑v.fst.length : Int) ∧
                                                                          ((bif
                                                                                  !(List.drop l.snd.fst.toNat
                                                                                          (bif v.snd.fst then (List.replicate (0 : Nat) false ++ v.fst).set ((↑v.fst.length : Int) - (1 : Int)).toNat false
                                                                                          else List.replicate (0 : Nat) false ++ v.fst)).contains
                                                                                      true then
                                                                                bif !v.snd.snd.snd.snd.fst then true else v.snd.snd.snd.snd.snd.fst
                                                                              else false) =
                                                                              bif
                                                                                  !(List.drop l.snd.fst.toNat
                                                                                          (bif v.snd.fst then (List.replicate (0 : Nat) false ++ v.fst).set ((↑v.fst.length : Int) - (1 : Int)).toNat false
                                                                                          else List.replicate (0 : Nat) false ++ v.fst)).contains
                                                                                      true then
                                                                                bif !v.snd.snd.snd.snd.fst then true else v.snd.snd.snd.snd.snd.fst
                                                                              else false) ∧
                                                                            (3 : Int) = (3 : Int) ∧
                                                                              (↑s' : Int) = (↑s_1 : Int) + (1 : Int) ∧
                                                                                ((bif l.snd.snd.fst then true else v.snd.snd.snd.snd.snd.snd) = bif l.snd.snd.fst then true else v.snd.snd.snd.snd.snd.snd) ∧
                                                                                  l.fst = l.fst ∧
                                                                                    l.snd.fst = l.snd.fst ∧
                                                                                      l.snd.snd.fst = l.snd.snd.fst ∧
                                                                                        l.snd.snd.snd = l.snd.snd.snd ∧
                                                                                          v.fst = v.fst ∧
                                                                                            v.snd.fst = v.snd.fst ∧
                                                                                              v.snd.snd.fst = v.snd.snd.fst ∧
                                                                                                v.snd.snd.snd.fst = v.snd.snd.snd.fst ∧
                                                                                                  v.snd.snd.snd.snd.fst = v.snd.snd.snd.snd.fst ∧
                                                                                                    v.snd.snd.snd.snd.snd.fst = v.snd.snd.snd.snd.snd.fst ∧
                                                                                                      v.snd.snd.snd.snd.snd.snd = v.snd.snd.snd.snd.snd.snd ∧
                                                                                                        (0 : Int) = (0 : Int) ∧
                                                                                                          (0 : Int) = (0 : Int) ∧
                                                                                                            false = false ∧
                                                                                                              List.zipWith (fun (a b : Bool) => a || b) (List.take s l.snd.snd.snd) (List.take s (fOcc v)) =
                                                                                                                  List.zipWith (fun (a b : Bool) => a || b) (List.take s l.snd.snd.snd) (List.take s (fOcc v)) ∧
                                                                                                                ((bif v.snd.fst then (List.replicate (0 : Nat) false ++ v.fst).set ((↑v.fst.length : Int) - (1 : Int)).toNat false
                                                                                                                    else List.replicate (0 : Nat) false ++ v.fst) =
                                                                                                                    bif v.snd.fst then (List.replicate (0 : Nat) false ++ v.fst).set ((↑v.fst.length : Int) - (1 : Int)).toNat false
                                                                                                                    else List.replicate (0 : Nat) false ++ v.fst) ∧
                                                                                                                  True) ∧
                                                              ((bif
                                                                      bif
                                                                          bif decide ((↑s_1 : Int) < (↑v.fst.length : Int) - (1 : Int)) then
                                                                            (List.zipWith (fun (a b : Bool) => a || b) (List.take s l.snd.snd.snd) (List.take s (fOcc v))).getD (↑s_1 : Int).toNat false
                                                                          else false then
                                                                        !(bif v.snd.fst then (List.replicate (0 : Nat) false ++ v.fst).set ((↑v.fst.length : Int) - (1 : Int)).toNat false
                                                                              else List.replicate (0 : Nat) false ++ v.fst).getD
                                                                            (↑s_1 : Int).toNat false
                                                                      else false then
                                                                    bif
                                                                        (bif v.snd.fst then (List.replicate (0 : Nat) false ++ v.fst).set ((↑v.fst.length : Int) - (1 : Int)).toNat false
                                                                            else List.replicate (0 : Nat) false ++ v.fst).getD
                                                                          ((↑s_1 : Int) + (1 : Int)).toNat false then
                                                                      true
                                                                    else bif v.snd.fst then (↑s_1 : Int) + (1 : Int) == (↑v.fst.length : Int) - (1 : Int) else false
                                                                  else false) =
                                                                  false →
                                                                ((bif v.snd.fst then (List.replicate (0 : Nat) false ++ v.fst).set ((↑v.fst.length : Int) - (1 : Int)).toNat false
                                                                        else List.replicate (0 : Nat) false ++ v.fst).length ≤
                                                                      (1000000 : Nat) ∧
                                                                    (0 : Int) ≤ (↑s_1 : Int) ∧ (↑s_1 : Int) ≤ (1000000 : Int)) ∧
                                                                  InR IntKind.i64 ((↑v.fst.length : Int) - (1 : Int)) ∧
                                                                    (((↑s_1 : Int) == (↑v.fst.length : Int) - (1 : Int)) = true → v.snd.fst = false → InR IntKind.i64 ((↑v.fst.length : Int) - (1 : Int))) ∧
                                                                      (((↑s_1 : Int) == (↑v.fst.length : Int) - (1 : Int)) = true →
                                                                          v.snd.fst = false →
                                                                            InB ((↑v.fst.length : Int) - (1 : Int))
                                                                              (bif v.snd.fst then (List.replicate (0 : Nat) false ++ v.fst).set ((↑v.fst.length : Int) - (1 : Int)).toNat false
                                                                                else List.replicate (0 : Nat) false ++ v.fst).length) ∧
                                                                        ((bif
                                                                                  bif (↑s_1 : Int) == (↑v.fst.length : Int) - (1 : Int) then
                                                                                    bif v.snd.fst then true
                                                                                    else
                                                                                      (bif v.snd.fst then (List.replicate (0 : Nat) false ++ v.fst).set ((↑v.fst.length : Int) - (1 : Int)).toNat false
                                                                                          else List.replicate (0 : Nat) false ++ v.fst).getD
                                                                                        ((↑v.fst.length : Int) - (1 : Int)).toNat false
                                                                                  else false then
                                                                                true
                                                                              else
                                                                                bif bif l.snd.snd.fst then true else v.snd.snd.snd.snd.snd.snd then
                                                                                  bif
                                                                                      !(List.drop (↑s_1 : Int).toNat
                                                                                              (bif v.snd.fst then (List.replicate (0 : Nat) false ++ v.fst).set ((↑v.fst.length : Int) - (1 : Int)).toNat false
                                                                                              else List.replicate (0 : Nat) false ++ v.fst)).contains
                                                                                          true then
                                                                                    bif !v.snd.snd.snd.snd.fst then true else v.snd.snd.snd.snd.snd.fst
                                                                                  else false
                                                                                else false) =
                                                                              true →
                                                                            ((0 : Int) ≤ l.snd.fst ∧ (↑v.fst.length : Int) ≤ (1000000 : Int)) ∧
                                                                              ((0 : Int), (0 : Int), false, []) = (fNext l v).fst ∧ fRest l.snd.fst (↑v.fst.length : Int) = (fNext l v).snd ∧ True) ∧
                                                                          ((bif
                                                                                  bif (↑s_1 : Int) == (↑v.fst.length : Int) - (1 : Int) then
                                                                                    bif v.snd.fst then true
                                                                                    else
                                                                                      (bif v.snd.fst then (List.replicate (0 : Nat) false ++ v.fst).set ((↑v.fst.length : Int) - (1 : Int)).toNat false
                                                                                          else List.replicate (0 : Nat) false ++ v.fst).getD
                                                                                        ((↑v.fst.length : Int) - (1 : Int)).toNat false
                                                                                  else false then
                                                                                true
                                                                              else
                                                                                bif bif l.snd.snd.fst then true else v.snd.snd.snd.snd.snd.snd then
                                                                                  bif
                                                                                      !(List.drop (↑s_1 : Int).toNat
                                                                                              (bif v.snd.fst then (List.replicate (0 : Nat) false ++ v.fst).set ((↑v.fst.length : Int) - (1 : Int)).toNat false
                                                                                              else List.replicate (0 : Nat) false ++ v.fst)).contains
                                                                                          true then
                                                                                    bif !v.snd.snd.snd.snd.fst then true else v.snd.snd.snd.snd.snd.fst
                                                                                  else false
                                                                                else false) =
                                                                              false →
                                                                            ((0 : Int) ≤ l.snd.fst ∧ (↑s_1 : Int) ≤ (1000000 : Int)) ∧
                                                                              ((3 : Int), (↑s_1 : Int), bif l.snd.snd.fst then true else v.snd.snd.snd.snd.snd.snd,
                                                                                    List.zipWith (fun (a b : Bool) => a || b) (List.take s l.snd.snd.snd) (List.take s (fOcc v))) =
                                                                                  (fNext l v).fst ∧
                                                                                fRest l.snd.fst (↑s_1 : Int) = (fNext l v).snd ∧ True)))) ∧
                                  ((bif v.snd.fst then (List.replicate (0 : Nat) false ++ v.fst).set ((↑v.fst.length : Int) - (1 : Int)).toNat false else List.replicate (0 : Nat) false ++ v.fst).getD (Int.toNat (0 : Int)) false =
                                      false →
                                    ((bif bif l.snd.snd.fst then true else v.snd.snd.snd.snd.snd.snd then
                                            bif
                                                !(List.drop l.snd.fst.toNat
                                                        (bif v.snd.fst then (List.replicate (0 : Nat) false ++ v.fst).set ((↑v.fst.length : Int) - (1 : Int)).toNat false else List.replicate (0 : Nat) false ++ v.fst)).contains
                                                    true then
                                              bif !v.snd.snd.snd.snd.fst then true else v.snd.snd.snd.snd.snd.fst
                                            else false
                                          else false) =
                                          true →
                                        ((0 : Int) ≤ l.snd.fst ∧ (↑v.fst.length : Int) ≤ (1000000 : Int)) ∧ ((0 : Int), (0 : Int), false, []) = (fNext l v).fst ∧ fRest l.snd.fst (↑v.fst.length : Int) = (fNext l v).snd ∧ True) ∧
                                      ((bif bif l.snd.snd.fst then true else v.snd.snd.snd.snd.snd.snd then
                                            bif
                                                !(List.drop l.snd.fst.toNat
                                                        (bif v.snd.fst then (List.replicate (0 : Nat) false ++ v.fst).set ((↑v.fst.length : Int) - (1 : Int)).toNat false else List.replicate (0 : Nat) false ++ v.fst)).contains
                                                    true then
                                              bif !v.snd.snd.snd.snd.fst then true else v.snd.snd.snd.snd.snd.fst
                                            else false
                                          else false) =
                                          false →
                                        (((bif bif bif !bif l.snd.snd.fst then true else v.snd.snd.snd.snd.snd.snd then v.snd.snd.fst else false then v.snd.snd.snd.fst else false then (2 : Int) else (1 : Int)) != (3 : Int)) =
                                              true →
                                            (bif bif bif !bif l.snd.snd.fst then true else v.snd.snd.snd.snd.snd.snd then v.snd.snd.fst else false then v.snd.snd.snd.fst else false then (2 : Int) else (1 : Int),
                                                  bif bif bif !bif l.snd.snd.fst then true else v.snd.snd.snd.snd.snd.snd then v.snd.snd.fst else false then v.snd.snd.snd.fst else false then l.snd.fst else l.snd.fst,
                                                  bif bif bif !bif l.snd.snd.fst then true else v.snd.snd.snd.snd.snd.snd then v.snd.snd.fst else false then v.snd.snd.snd.fst else false then
                                                    bif l.snd.snd.fst then true else v.snd.snd.snd.snd.snd.snd
                                                  else bif l.snd.snd.fst then true else v.snd.snd.snd.snd.snd.snd,
                                                  List.zipWith (fun (a b : Bool) => a || b) (List.take s l.snd.snd.snd) (List.take s (fOcc v))) =
                                                (fNext l v).fst ∧
                                              [] = (fNext l v).snd ∧ True) ∧
                                          (((bif bif bif !bif l.snd.snd.fst then true else v.snd.snd.snd.snd.snd.snd then v.snd.snd.fst else false then v.snd.snd.snd.fst else false then (2 : Int) else (1 : Int)) != (3 : Int)) =
                                              false →
                                            (∃ (s0 : Nat),
                                                (l.snd.fst.toNat ≤ s0 ∧
                                                    s0 ≤ v.fst.length - (1 : Nat) ∧
                                                      fFree (fSeen l.snd.snd.snd (fOcc v) v.fst.length) (fOcc v) v.snd.fst (v.fst.length - (1 : Nat)) (v.fst.length - (1 : Nat) - l.snd.fst.toNat) l.snd.fst.toNat =
                                                        fFree (fSeen l.snd.snd.snd (fOcc v) v.fst.length) (fOcc v) v.snd.fst (v.fst.length - (1 : Nat)) (v.fst.length - (1 : Nat) - s0) s0) ∧
                                                  (↑v.fst.length : Int) = (↑v.fst.length : Int) ∧
                                                    ((bif
                                                            !(List.drop l.snd.fst.toNat
                                                                    (bif v.snd.fst then (List.replicate (0 : Nat) false ++ v.fst).set ((↑v.fst.length : Int) - (1 : Int)).toNat false
                                                                    else List.replicate (0 : Nat) false ++ v.fst)).contains
                                                                true then
                                                          bif !v.snd.snd.snd.snd.fst then true else v.snd.snd.snd.snd.snd.fst
                                                        else false) =
                                                        bif
                                                            !(List.drop l.snd.fst.toNat
                                                                    (bif v.snd.fst then (List.replicate (0 : Nat) false ++ v.fst).set ((↑v.fst.length : Int) - (1 : Int)).toNat false
                                                                    else List.replicate (0 : Nat) false ++ v.fst)).contains
                                                                true then
                                                          bif !v.snd.snd.snd.snd.fst then true else v.snd.snd.snd.snd.snd.fst
                                                        else false) ∧
                                                      ((bif bif bif !bif l.snd.snd.fst then true else v.snd.snd.snd.snd.snd.snd then v.snd.snd.fst else false then v.snd.snd.snd.fst else false then (2 : Int) else (1 : Int)) =
                                                          bif bif bif !bif l.snd.snd.fst then true else v.snd.snd.snd.snd.snd.snd then v.snd.snd.fst else false then v.snd.snd.snd.fst else false then (2 : Int) else (1 : Int)) ∧
                                                        ((↑s0 : Int) =
                                                            bif bif bif !bif l.snd.snd.fst then true else v.snd.snd.snd.snd.snd.snd then v.snd.snd.fst else false then v.snd.snd.snd.fst else false then l.snd.fst else l.snd.fst) ∧
                                                          ((bif bif bif !bif l.snd.snd.fst then true else v.snd.snd.snd.snd.snd.snd then v.snd.snd.fst else false then v.snd.snd.snd.fst else false then
                                                                bif l.snd.snd.fst then true else v.snd.snd.snd.snd.snd.snd
                                                              else bif l.snd.snd.fst then true else v.snd.snd.snd.snd.snd.snd) =
                                                              bif bif bif !bif l.snd.snd.fst then true else v.snd.snd.snd.snd.snd.snd then v.snd.snd.fst else false then v.snd.snd.snd.fst else false then
                                                                bif l.snd.snd.fst then true else v.snd.snd.snd.snd.snd.snd
                                                              else bif l.snd.snd.fst then true else v.snd.snd.snd.snd.snd.snd) ∧
                                                            l.fst = l.fst ∧
                                                              l.snd.fst = l.snd.fst ∧
                                                                l.snd.snd.fst = l.snd.snd.fst ∧
                                                                  l.snd.snd.snd = l.snd.snd.snd ∧
                                                                    v.fst = v.fst ∧
                                                                      v.snd.fst = v.snd.fst ∧
                                                                        v.snd.snd.fst = v.snd.snd.fst ∧
                                                                          v.snd.snd.snd.fst = v.snd.snd.snd.fst ∧
                                                                            v.snd.snd.snd.snd.fst = v.snd.snd.snd.snd.fst ∧
                                                                              v.snd.snd.snd.snd.snd.fst = v.snd.snd.snd.snd.snd.fst ∧
                                                                                v.snd.snd.snd.snd.snd.snd = v.snd.snd.snd.snd.snd.snd ∧
                                                                                  (0 : Int) = (0 : Int) ∧
                                                                                    (0 : Int) = (0 : Int) ∧
                                                                                      false = false ∧
                                                                                        List.zipWith (fun (a b : Bool) => a || b) (List.take s l.snd.snd.snd) (List.take s (fOcc v)) =
                                                                                            List.zipWith (fun (a b : Bool) => a || b) (List.take s l.snd.snd.snd) (List.take s (fOcc v)) ∧
                                                                                          ((bif v.snd.fst then (List.replicate (0 : Nat) false ++ v.fst).set ((↑v.fst.length : Int) - (1 : Int)).toNat false
                                                                                              else List.replicate (0 : Nat) false ++ v.fst) =
                                                                                              bif v.snd.fst then (List.replicate (0 : Nat) false ++ v.fst).set ((↑v.fst.length : Int) - (1 : Int)).toNat false
                                                                                              else List.replicate (0 : Nat) false ++ v.fst) ∧
                                                                                            True) ∧
                                              ∀ (s_1 : Nat),
                                                l.snd.fst.toNat ≤ s_1 ∧
                                                    s_1 ≤ v.fst.length - (1 : Nat) ∧
                                                      fFree (fSeen l.snd.snd.snd (fOcc v) v.fst.length) (fOcc v) v.snd.fst (v.fst.length - (1 : Nat)) (v.fst.length - (1 : Nat) - l.snd.fst.toNat) l.snd.fst.toNat =
                                                        fFree (fSeen l.snd.snd.snd (fOcc v) v.fst.length) (fOcc v) v.snd.fst (v.fst.length - (1 : Nat)) (v.fst.length - (1 : Nat) - s_1) s_1 →
                                                  InR IntKind.i64 ((↑v.fst.length : Int) - (1 : Int)) ∧
                                                    (decide ((↑s_1 : Int) < (↑v.fst.length : Int) - (1 : Int)) = true →
                                                        InB (↑s_1 : Int) (List.zipWith (fun (a b : Bool) => a || b) (List.take s l.snd.snd.snd) (List.take s (fOcc v))).length) ∧
                                                      ((bif decide ((↑s_1 : Int) < (↑v.fst.length : Int) - (1 : Int)) then
                                                              (List.zipWith (fun (a b : Bool) => a || b) (List.take s l.snd.snd.snd) (List.take s (fOcc v))).getD (↑s_1 : Int).toNat false
                                                            else false) =
                                                            true →
                                                          InB (↑s_1 : Int)
                                                            (bif v.snd.fst then (List.replicate (0 : Nat) false ++ v.fst).set ((↑v.fst.length : Int) - (1 : Int)).toNat false else List.replicate (0 : Nat) false ++ v.fst).length) ∧
                                                        ((bif
                                                                  bif decide ((↑s_1 : Int) < (↑v.fst.length : Int) - (1 : Int)) then
                                                                    (List.zipWith (fun (a b : Bool) => a || b) (List.take s l.snd.snd.snd) (List.take s (fOcc v))).getD (↑s_1 : Int).toNat false
                                                                  else false then
                                                                !(bif v.snd.fst then (List.replicate (0 : Nat) false ++ v.fst).set ((↑v.fst.length : Int) - (1 : Int)).toNat false else List.replicate (0 : Nat) false ++ v.fst).getD
                                                                    (↑s_1 : Int).toNat false
                                                              else false) =
                                                              true →
                                                            InR IntKind.i64 ((↑s_1 : Int) + (1 : Int))) ∧
                                                          ((bif
                                                                    bif decide ((↑s_1 : Int) < (↑v.fst.length : Int) - (1 : Int)) then
                                                                      (List.zipWith (fun (a b : Bool) => a || b) (List.take s l.snd.snd.snd) (List.take s (fOcc v))).getD (↑s_1 : Int).toNat false
                                                                    else false then
                                                                  !(bif v.snd.fst then (List.replicate (0 : Nat) false ++ v.fst).set ((↑v.fst.length : Int) - (1 : Int)).toNat false
                                                                        else List.replicate (0 : Nat) false ++ v.fst).getD
                                                                      (↑s_1 : Int).toNat false
                                                                else false) =
                                                                true →
                                                              InB ((↑s_1 : Int) + (1 : Int))
                                                                (bif v.snd.fst then (List.replicate (0 : Nat) false ++ v.fst).set ((↑v.fst.length : Int) - (1 : Int)).toNat false
                                                                  else List.replicate (0 : Nat) false ++ v.fst).length) ∧
                                                            ((bif
                                                                      bif decide ((↑s_1 : Int) < (↑v.fst.length : Int) - (1 : Int)) then
                                                                        (List.zipWith (fun (a b : Bool) => a || b) (List.take s l.snd.snd.snd) (List.take s (fOcc v))).getD (↑s_1 : Int).toNat false
                                                                      else false then
                                                                    !(bif v.snd.fst then (List.replicate (0 : Nat) false ++ v.fst).set ((↑v.fst.length : Int) - (1 : Int)).toNat false
                                                                          else List.replicate (0 : Nat) false ++ v.fst).getD
                                                                        (↑s_1 : Int).toNat false
                                                                  else false) =
                                                                  true →
                                                                (bif v.snd.fst then (List.replicate (0 : Nat) false ++ v.fst).set ((↑v.fst.length : Int) - (1 : Int)).toNat false else List.replicate (0 : Nat) false ++ v.fst).getD
                                                                      ((↑s_1 : Int) + (1 : Int)).toNat false =
                                                                    false →
                                                                  v.snd.fst = true → InR IntKind.i64 ((↑s_1 : Int) + (1 : Int))) ∧
                                                              ((bif
                                                                        bif decide ((↑s_1 : Int) < (↑v.fst.length : Int) - (1 : Int)) then
                                                                          (List.zipWith (fun (a b : Bool) => a || b) (List.take s l.snd.snd.snd) (List.take s (fOcc v))).getD (↑s_1 : Int).toNat false
                                                                        else false then
                                                                      !(bif v.snd.fst then (List.replicate (0 : Nat) false ++ v.fst).set ((↑v.fst.length : Int) - (1 : Int)).toNat false
                                                                            else List.replicate (0 : Nat) false ++ v.fst).getD
                                                                          (↑s_1 : Int).toNat false
                                                                    else false) =
                                                                    true →
                                                                  (bif v.snd.fst then (List.replicate (0 : Nat) false ++ v.fst).set ((↑v.fst.length : Int) - (1 : Int)).toNat false else List.replicate (0 : Nat) false ++ v.fst).getD
                                                                        ((↑s_1 : Int) + (1 : Int)).toNat false =
                                                                      false →
                                                                    v.snd.fst = true → InR IntKind.i64 ((↑v.fst.length : Int) - (1 : Int))) ∧
                                                                ((bif
                                                                          bif
                                                                              bif decide ((↑s_1 : Int) < (↑v.fst.length : Int) - (1 : Int)) then
                                                                                (List.zipWith (fun (a b : Bool) => a || b) (List.take s l.snd.snd.snd) (List.take s (fOcc v))).getD (↑s_1 : Int).toNat false
                                                                              else false then
                                                                            !(bif v.snd.fst then (List.replicate (0 : Nat) false ++ v.fst).set ((↑v.fst.length : Int) - (1 : Int)).toNat false
                                                                                  else List.replicate (0 : Nat) false ++ v.fst).getD
                                                                                (↑s_1 : Int).toNat false
                                                                          else false then
                                                                        bif
                                                                            (bif v.snd.fst then (List.replicate (0 : Nat) false ++ v.fst).set ((↑v.fst.length : Int) - (1 : Int)).toNat false
                                                                                else List.replicate (0 : Nat) false ++ v.fst).getD
                                                                              ((↑s_1 : Int) + (1 : Int)).toNat false then
                                                                          true
                                                                        else bif v.snd.fst then (↑s_1 : Int) + (1 : Int) == (↑v.fst.length : Int) - (1 : Int) else false
                                                                      else false) =
                                                                      true →
                                                                    InR IntKind.i64 ((↑s_1 : Int) + (1 : Int)) ∧
                                                                      ∃ (s' : Nat),
                                                                        (l.snd.fst.toNat ≤ s' ∧
                                                                            s' ≤ v.fst.length - (1 : Nat) ∧
                                                                              fFree (fSeen l.snd.snd.snd (fOcc v) v.fst.length) (fOcc v) v.snd.fst (v.fst.length - (1 : Nat)) (v.fst.length - (1 : Nat) - l.snd.fst.toNat)
                                                                                  l.snd.fst.toNat =
                                                                                fFree (fSeen l.snd.snd.snd (fOcc v) v.fst.length) (fOcc v) v.snd.fst (v.fst.length - (1 : Nat)) (v.fst.length - (1 : Nat) - s') s') ∧
                                                                          v.fst.length - s' < v.fst.length - s_1 ∧
                                                                            (↑v.fst.length : Int) = (↑v.fst.length : Int) ∧
                                                                              ((bif
                                                                                      !(List.drop l.snd.fst.toNat
                                                                                              (bif v.snd.fst then (List.replicate (0 : Nat) false ++ v.fst).set ((↑v.fst.length : Int) - (1 : Int)).toNat false
                                                                                              else List.replicate (0 : Nat) false ++ v.fst)).contains
                                                                                          true then
                                                                                    bif !v.snd.snd.snd.snd.fst then true else v.snd.snd.snd.snd.snd.fst
                                                                                  else false) =
                                                                                  bif
                                                                                      !(List.drop l.snd.fst.toNat
                                                                                              (bif v.snd.fst then (List.replicate (0 : Nat) false ++ v.fst).set ((↑v.fst.length : Int) - (1 : Int)).toNat false
                                                                                              else List.replicate (0 : Nat) false ++ v.fst)).contains
                                                                                          true then
                                                                                    bif !v.snd.snd.snd.snd.fst then true else v.snd.snd.snd.snd.snd.fst
                                                                                  else false) ∧
                                                                                ((bif bif bif !bif l.snd.snd.fst then true else v.snd.snd.snd.snd.snd.snd then v.snd.snd.fst else false then v.snd.snd.snd.fst else false then
                                                                                      (2 : Int)
                                                                                    else (1 : Int)) =
                                                                                    bif bif bif !bif l.snd.snd.fst then true else v.snd.snd.snd.snd.snd.snd then v.snd.snd.fst else false then v.snd.snd.snd.fst else false then
                                                                                      (2 : Int)
                                                                                    else (1 : Int)) ∧
                                                                                  (↑s' : Int) = (↑s_1 : Int) + (1 : Int) ∧
                                                                                    ((bif bif bif !bif l.snd.snd.fst then true else v.snd.snd.snd.snd.snd.snd then v.snd.snd.fst else false then v.snd.snd.snd.fst else false then
                                                                                          bif l.snd.snd.fst then true else v.snd.snd.snd.snd.snd.snd
                                                                                        else bif l.snd.snd.fst then true else v.snd.snd.snd.snd.snd.snd) =
                                                                                        bif bif bif !bif l.snd.snd.fst then true else v.snd.snd.snd.snd.snd.snd then v.snd.snd.fst else false then v.snd.snd.snd.fst else false then
                                                                                          bif l.snd.snd.fst then true else v.snd.snd.snd.snd.snd.snd
                                                                                        else bif l.snd.snd.fst then true else v.snd.snd.snd.snd.snd.snd) ∧
                                                                                      l.fst = l.fst ∧
                                                                                        l.snd.fst = l.snd.fst ∧
                                                                                          l.snd.snd.fst = l.snd.snd.fst ∧
                                                                                            l.snd.snd.snd = l.snd.snd.snd ∧
                                                                                              v.fst = v.fst ∧
                                                                                                v.snd.fst = v.snd.fst ∧
                                                                                                  v.snd.snd.fst = v.snd.snd.fst ∧
                                                                                                    v.snd.snd.snd.fst = v.snd.snd.snd.fst ∧
                                                                                                      v.snd.snd.snd.snd.fst = v.snd.snd.snd.snd.fst ∧
                                                                                                        v.snd.snd.snd.snd.snd.fst = v.snd.snd.snd.snd.snd.fst ∧
                                                                                                          v.snd.snd.snd.snd.snd.snd = v.snd.snd.snd.snd.snd.snd ∧
                                                                                                            (0 : Int) = (0 : Int) ∧
                                                                                                              (0 : Int) = (0 : Int) ∧
                                                                                                                false = false ∧
                                                                                                                  List.zipWith (fun (a b : Bool) => a || b) (List.take s l.snd.snd.snd) (List.take s (fOcc v)) =
                                                                                                                      List.zipWith (fun (a b : Bool) => a || b) (List.take s l.snd.snd.snd) (List.take s (fOcc v)) ∧
                                                                                                                    ((bif v.snd.fst then (List.replicate (0 : Nat) false ++ v.fst).set ((↑v.fst.length : Int) - (1 : Int)).toNat false
                                                                                                                        else List.replicate (0 : Nat) false ++ v.fst) =
                                                                                                                        bif v.snd.fst then
                                                                                                                          (List.replicate (0 : Nat) false ++ v.fst).set ((↑v.fst.length : Int) - (1 : Int)).toNat false
                                                                                                                        else List.replicate (0 : Nat) false ++ v.fst) ∧
                                                                                                                      True) ∧
                                                                  ((bif
                                                                          bif
                                                                              bif decide ((↑s_1 : Int) < (↑v.fst.length : Int) - (1 : Int)) then
                                                                                (List.zipWith (fun (a b : Bool) => a || b) (List.take s l.snd.snd.snd) (List.take s (fOcc v))).getD (↑s_1 : Int).toNat false
                                                                              else false then
                                                                            !(bif v.snd.fst then (List.replicate (0 : Nat) false ++ v.fst).set ((↑v.fst.length : Int) - (1 : Int)).toNat false
                                                                                  else List.replicate (0 : Nat) false ++ v.fst).getD
                                                                                (↑s_1 : Int).toNat false
                                                                          else false then
                                                                        bif
                                                                            (bif v.snd.fst then (List.replicate (0 : Nat) false ++ v.fst).set ((↑v.fst.length : Int) - (1 : Int)).toNat false
                                                                                else List.replicate (0 : Nat) false ++ v.fst).getD
                                                                              ((↑s_1 : Int) + (1 : Int)).toNat false then
                                                                          true
                                                                        else bif v.snd.fst then (↑s_1 : Int) + (1 : Int) == (↑v.fst.length : Int) - (1 : Int) else false
                                                                      else false) =
                                                                      false →
                                                                    ((bif v.snd.fst then (List.replicate (0 : Nat) false ++ v.fst).set ((↑v.fst.length : Int) - (1 : Int)).toNat false
                                                                            else List.replicate (0 : Nat) false ++ v.fst).length ≤
                                                                          (1000000 : Nat) ∧
                                                                        (0 : Int) ≤ (↑s_1 : Int) ∧ (↑s_1 : Int) ≤ (1000000 : Int)) ∧
                                                                      InR IntKind.i64 ((↑v.fst.length : Int) - (1 : Int)) ∧
                                                                        (((↑s_1 : Int) == (↑v.fst.length : Int) - (1 : Int)) = true → v.snd.fst = false → InR IntKind.i64 ((↑v.fst.length : Int) - (1 : Int))) ∧
                                                                          (((↑s_1 : Int) == (↑v.fst.length : Int) - (1 : Int)) = true →
                                                                              v.snd.fst = false →
                                                                                InB ((↑v.fst.length : Int) - (1 : Int))
                                                                                  (bif v.snd.fst then (List.replicate (0 : Nat) false ++ v.fst).set ((↑v.fst.length : Int) - (1 : Int)).toNat false
                                                                                    else List.replicate (0 : Nat) false ++ v.fst).length) ∧
                                                                            ((bif
                                                                                      bif (↑s_1 : Int) == (↑v.fst.length : Int) - (1 : Int) then
                                                                                        bif v.snd.fst then true
                                                                                        else
                                                                                          (bif v.snd.fst then (List.replicate (0 : Nat) false ++ v.fst).set ((↑v.fst.length : Int) - (1 : Int)).toNat false
                                                                                              else List.replicate (0 : Nat) false ++ v.fst).getD
                                                                                            ((↑v.fst.length : Int) - (1 : Int)).toNat false
                                                                                      else false then
                                                                                    true
                                                                                  else
                                                                                    bif
                                                                                        bif bif bif !bif l.snd.snd.fst then true else v.snd.snd.snd.snd.snd.snd then v.snd.snd.fst else false then v.snd.snd.snd.fst else false then
                                                                                          bif l.snd.snd.fst then true else v.snd.snd.snd.snd.snd.snd
                                                                                        else bif l.snd.snd.fst then true else v.snd.snd.snd.snd.snd.snd then
                                                                                      bif
                                                                                          !(List.drop (↑s_1 : Int).toNat
                                                                                                  (bif v.snd.fst then (List.replicate (0 : Nat) false ++ v.fst).set ((↑v.fst.length : Int) - (1 : Int)).toNat false
                                                                                                  else List.replicate (0 : Nat) false ++ v.fst)).contains
                                                                                              true then
                                                                                        bif !v.snd.snd.snd.snd.fst then true else v.snd.snd.snd.snd.snd.fst
                                                                                      else false
                                                                                    else false) =
                                                                                  true →
                                                                                ((0 : Int) ≤ l.snd.fst ∧ (↑v.fst.length : Int) ≤ (1000000 : Int)) ∧
                                                                                  ((0 : Int), (0 : Int), false, []) = (fNext l v).fst ∧ fRest l.snd.fst (↑v.fst.length : Int) = (fNext l v).snd ∧ True) ∧
                                                                              ((bif
                                                                                      bif (↑s_1 : Int) == (↑v.fst.length : Int) - (1 : Int) then
                                                                                        bif v.snd.fst then true
                                                                                        else
                                                                                          (bif v.snd.fst then (List.replicate (0 : Nat) false ++ v.fst).set ((↑v.fst.length : Int) - (1 : Int)).toNat false
                                                                                              else List.replicate (0 : Nat) false ++ v.fst).getD
                                                                                            ((↑v.fst.length : Int) - (1 : Int)).toNat false
                                                                                      else false then
                                                                                    true
                                                                                  else
                                                                                    bif
                                                                                        bif bif bif !bif l.snd.snd.fst then true else v.snd.snd.snd.snd.snd.snd then v.snd.snd.fst else false then v.snd.snd.snd.fst else false then
                                                                                          bif l.snd.snd.fst then true else v.snd.snd.snd.snd.snd.snd
                                                                                        else bif l.snd.snd.fst then true else v.snd.snd.snd.snd.snd.snd then
                                                                                      bif
                                                                                          !(List.drop (↑s_1 : Int).toNat
                                                                                                  (bif v.snd.fst then (List.replicate (0 : Nat) false ++ v.fst).set ((↑v.fst.length : Int) - (1 : Int)).toNat false
                                                                                                  else List.replicate (0 : Nat) false ++ v.fst)).contains
                                                                                              true then
                                                                                        bif !v.snd.snd.snd.snd.fst then true else v.snd.snd.snd.snd.snd.fst
                                                                                      else false
                                                                                    else false) =
                                                                                  false →
                                                                                ((0 : Int) ≤ l.snd.fst ∧ (↑s_1 : Int) ≤ (1000000 : Int)) ∧
                                                                                  (bif bif bif !bif l.snd.snd.fst then true else v.snd.snd.snd.snd.snd.snd then v.snd.snd.fst else false then v.snd.snd.snd.fst else false then
                                                                                          (2 : Int)
                                                                                        else (1 : Int),
                                                                                        (↑s_1 : Int),
                                                                                        bif bif bif !bif l.snd.snd.fst then true else v.snd.snd.snd.snd.snd.snd then v.snd.snd.fst else false then v.snd.snd.snd.fst else false then
                                                                                          bif l.snd.snd.fst then true else v.snd.snd.snd.snd.snd.snd
                                                                                        else bif l.snd.snd.fst then true else v.snd.snd.snd.snd.snd.snd,
                                                                                        List.zipWith (fun (a b : Bool) => a || b) (List.take s l.snd.snd.snd) (List.take s (fOcc v))) =
                                                                                      (fNext l v).fst ∧
                                                                                    fRest l.snd.fst (↑s_1 : Int) = (fNext l v).snd ∧ True)))))) ∧
                            ((l.fst != (3 : Int)) = false →
                              ((l.fst != (3 : Int)) = true →
                                  (l.fst, l.snd.fst, bif l.snd.snd.fst then true else v.snd.snd.snd.snd.snd.snd, List.zipWith (fun (a b : Bool) => a || b) (List.take s l.snd.snd.snd) (List.take s (fOcc v))) = (fNext l v).fst ∧
                                    [] = (fNext l v).snd ∧ True) ∧
                                ((l.fst != (3 : Int)) = false →
                                  (∃ (s0 : Nat),
                                      (l.snd.fst.toNat ≤ s0 ∧
                                          s0 ≤ v.fst.length - (1 : Nat) ∧
                                            fFree (fSeen l.snd.snd.snd (fOcc v) v.fst.length) (fOcc v) v.snd.fst (v.fst.length - (1 : Nat)) (v.fst.length - (1 : Nat) - l.snd.fst.toNat) l.snd.fst.toNat =
                                              fFree (fSeen l.snd.snd.snd (fOcc v) v.fst.length) (fOcc v) v.snd.fst (v.fst.length - (1 : Nat)) (v.fst.length - (1 : Nat) - s0) s0) ∧
                                        (↑v.fst.length : Int) = (↑v.fst.length : Int) ∧
                                          ((bif
                                                  !(List.drop l.snd.fst.toNat
                                                          (bif v.snd.fst then (List.replicate (0 : Nat) false ++ v.fst).set ((↑v.fst.length : Int) - (1 : Int)).toNat false else List.replicate (0 : Nat) false ++ v.fst)).contains
                                                      true then
                                                bif !v.snd.snd.snd.snd.fst then true else v.snd.snd.snd.snd.snd.fst
                                              else false) =
                                              bif
                                                  !(List.drop l.snd.fst.toNat
                                                          (bif v.snd.fst then (List.replicate (0 : Nat) false ++ v.fst).set ((↑v.fst.length : Int) - (1 : Int)).toNat false else List.replicate (0 : Nat) false ++ v.fst)).contains
                                                      true then
                                                bif !v.snd.snd.snd.snd.fst then true else v.snd.snd.snd.snd.snd.fst
                                              else false) ∧
                                            l.fst = l.fst ∧
                                              (↑s0 : Int) = l.snd.fst ∧
                                                ((bif l.snd.snd.fst then true else v.snd.snd.snd.snd.snd.snd) = bif l.snd.snd.fst then true else v.snd.snd.snd.snd.snd.snd) ∧
                                                  l.fst = l.fst ∧
                                                    l.snd.fst = l.snd.fst ∧
                                                      l.snd.snd.fst = l.snd.snd.fst ∧
                                                        l.snd.snd.snd = l.snd.snd.snd ∧
                                                          v.fst = v.fst ∧
                                                            v.snd.fst = v.snd.fst ∧
                                                              v.snd.snd.fst = v.snd.snd.fst ∧
                                                                v.snd.snd.snd.fst = v.snd.snd.snd.fst ∧
                                                                  v.snd.snd.snd.snd.fst = v.snd.snd.snd.snd.fst ∧
                                                                    v.snd.snd.snd.snd.snd.fst = v.snd.snd.snd.snd.snd.fst ∧
                                                                      v.snd.snd.snd.snd.snd.snd = v.snd.snd.snd.snd.snd.snd ∧
                                                                        (0 : Int) = (0 : Int) ∧
                                                                          (0 : Int) = (0 : Int) ∧
                                                                            false = false ∧
                                                                              List.zipWith (fun (a b : Bool) => a || b) (List.take s l.snd.snd.snd) (List.take s (fOcc v)) =
                                                                                  List.zipWith (fun (a b : Bool) => a || b) (List.take s l.snd.snd.snd) (List.take s (fOcc v)) ∧
                                                                                ((bif v.snd.fst then (List.replicate (0 : Nat) false ++ v.fst).set ((↑v.fst.length : Int) - (1 : Int)).toNat false
                                                                                    else List.replicate (0 : Nat) false ++ v.fst) =
                                                                                    bif v.snd.fst then (List.replicate (0 : Nat) false ++ v.fst).set ((↑v.fst.length : Int) - (1 : Int)).toNat false
                                                                                    else List.replicate (0 : Nat) false ++ v.fst) ∧
                                                                                  True) ∧
                                    ∀ (s_1 : Nat),
                                      l.snd.fst.toNat ≤ s_1 ∧
                                          s_1 ≤ v.fst.length - (1 : Nat) ∧
                                            fFree (fSeen l.snd.snd.snd (fOcc v) v.fst.length) (fOcc v) v.snd.fst (v.fst.length - (1 : Nat)) (v.fst.length - (1 : Nat) - l.snd.fst.toNat) l.snd.fst.toNat =
                                              fFree (fSeen l.snd.snd.snd (fOcc v) v.fst.length) (fOcc v) v.snd.fst (v.fst.length - (1 : Nat)) (v.fst.length - (1 : Nat) - s_1) s_1 →
                                        InR IntKind.i64 ((↑v.fst.length : Int) - (1 : Int)) ∧
                                          (decide ((↑s_1 : Int) < (↑v.fst.length : Int) - (1 : Int)) = true →
                                              InB (↑s_1 : Int) (List.zipWith (fun (a b : Bool) => a || b) (List.take s l.snd.snd.snd) (List.take s (fOcc v))).length) ∧
                                            ((bif decide ((↑s_1 : Int) < (↑v.fst.length : Int) - (1 : Int)) then
                                                    (List.zipWith (fun (a b : Bool) => a || b) (List.take s l.snd.snd.snd) (List.take s (fOcc v))).getD (↑s_1 : Int).toNat false
                                                  else false) =
                                                  true →
                                                InB (↑s_1 : Int)
                                                  (bif v.snd.fst then (List.replicate (0 : Nat) false ++ v.fst).set ((↑v.fst.length : Int) - (1 : Int)).toNat false else List.replicate (0 : Nat) false ++ v.fst).length) ∧
                                              ((bif
                                                        bif decide ((↑s_1 : Int) < (↑v.fst.length : Int) - (1 : Int)) then
                                                          (List.zipWith (fun (a b : Bool) => a || b) (List.take s l.snd.snd.snd) (List.take s (fOcc v))).getD (↑s_1 : Int).toNat false
                                                        else false then
                                                      !(bif v.snd.fst then (List.replicate (0 : Nat) false ++ v.fst).set ((↑v.fst.length : Int) - (1 : Int)).toNat false else List.replicate (0 : Nat) false ++ v.fst).getD
                                                          (↑s_1 : Int).toNat false
                                                    else false) =
                                                    true →
                                                  InR IntKind.i64 ((↑s_1 : Int) + (1 : Int))) ∧
                                                ((bif
                                                          bif decide ((↑s_1 : Int) < (↑v.fst.length : Int) - (1 : Int)) then
                                                            (List.zipWith (fun (a b : Bool) => a || b) (List.take s l.snd.snd.snd) (List.take s (fOcc v))).getD (↑s_1 : Int).toNat false
                                                          else false then
                                                        !(bif v.snd.fst then (List.replicate (0 : Nat) false ++ v.fst).set ((↑v.fst.length : Int) - (1 : Int)).toNat false else List.replicate (0 : Nat) false ++ v.fst).getD
                                                            (↑s_1 : Int).toNat false
                                                      else false) =
                                                      true →
                                                    InB ((↑s_1 : Int) + (1 : Int))
                                                      (bif v.snd.fst then (List.replicate (0 : Nat) false ++ v.fst).set ((↑v.fst.length : Int) - (1 : Int)).toNat false else List.replicate (0 : Nat) false ++ v.fst).length) ∧
                                                  ((bif
                                                            bif decide ((↑s_1 : Int) < (↑v.fst.length : Int) - (1 : Int)) then
                                                              (List.zipWith (fun (a b : Bool) => a || b) (List.take s l.snd.snd.snd) (List.take s (fOcc v))).getD (↑s_1 : Int).toNat false
                                                            else false then
                                                          !(bif v.snd.fst then (List.replicate (0 : Nat) false ++ v.fst).set ((↑v.fst.length : Int) - (1 : Int)).toNat false else List.replicate (0 : Nat) false ++ v.fst).getD
                                                              (↑s_1 : Int).toNat false
                                                        else false) =
                                                        true →
                                                      (bif v.snd.fst then (List.replicate (0 : Nat) false ++ v.fst).set ((↑v.fst.length : Int) - (1 : Int)).toNat false else List.replicate (0 : Nat) false ++ v.fst).getD
                                                            ((↑s_1 : Int) + (1 : Int)).toNat false =
                                                          false →
                                                        v.snd.fst = true → InR IntKind.i64 ((↑s_1 : Int) + (1 : Int))) ∧
                                                    ((bif
                                                              bif decide ((↑s_1 : Int) < (↑v.fst.length : Int) - (1 : Int)) then
                                                                (List.zipWith (fun (a b : Bool) => a || b) (List.take s l.snd.snd.snd) (List.take s (fOcc v))).getD (↑s_1 : Int).toNat false
                                                              else false then
                                                            !(bif v.snd.fst then (List.replicate (0 : Nat) false ++ v.fst).set ((↑v.fst.length : Int) - (1 : Int)).toNat false else List.replicate (0 : Nat) false ++ v.fst).getD
                                                                (↑s_1 : Int).toNat false
                                                          else false) =
                                                          true →
                                                        (bif v.snd.fst then (List.replicate (0 : Nat) false ++ v.fst).set ((↑v.fst.length : Int) - (1 : Int)).toNat false else List.replicate (0 : Nat) false ++ v.fst).getD
                                                              ((↑s_1 : Int) + (1 : Int)).toNat false =
                                                            false →
                                                          v.snd.fst = true → InR IntKind.i64 ((↑v.fst.length : Int) - (1 : Int))) ∧
                                                      ((bif
                                                                bif
                                                                    bif decide ((↑s_1 : Int) < (↑v.fst.length : Int) - (1 : Int)) then
                                                                      (List.zipWith (fun (a b : Bool) => a || b) (List.take s l.snd.snd.snd) (List.take s (fOcc v))).getD (↑s_1 : Int).toNat false
                                                                    else false then
                                                                  !(bif v.snd.fst then (List.replicate (0 : Nat) false ++ v.fst).set ((↑v.fst.length : Int) - (1 : Int)).toNat false
                                                                        else List.replicate (0 : Nat) false ++ v.fst).getD
                                                                      (↑s_1 : Int).toNat false
                                                                else false then
                                                              bif
                                                                  (bif v.snd.fst then (List.replicate (0 : Nat) false ++ v.fst).set ((↑v.fst.length : Int) - (1 : Int)).toNat false else List.replicate (0 : Nat) false ++ v.fst).getD
                                                                    ((↑s_1 : Int) + (1 : Int)).toNat false then
                                                                true
                                                              else bif v.snd.fst then (↑s_1 : Int) + (1 : Int) == (↑v.fst.length : Int) - (1 : Int) else false
                                                            else false) =
                                                            true →
                                                          InR IntKind.i64 ((↑s_1 : Int) + (1 : Int)) ∧
                                                            ∃ (s' : Nat),
                                                              (l.snd.fst.toNat ≤ s' ∧
                                                                  s' ≤ v.fst.length - (1 : Nat) ∧
                                                                    fFree (fSeen l.snd.snd.snd (fOcc v) v.fst.length) (fOcc v) v.snd.fst (v.fst.length - (1 : Nat)) (v.fst.length - (1 : Nat) - l.snd.fst.toNat) l.snd.fst.toNat =
                                                                      fFree (fSeen l.snd.snd.snd (fOcc v) v.fst.length) (fOcc v) v.snd.fst (v.fst.length - (1 : Nat)) (v.fst.length - (1 : Nat) - s') s') ∧
                                                                v.fst.length - s' < v.fst.length - s_1 ∧
                                                                  (↑v.fst.length : Int) = (↑v.fst.length : Int) ∧
                                                                    ((bif
                                                                            !(List.drop l.snd.fst.toNat
                                                                                    (bif v.snd.fst then (List.replicate (0 : Nat) false ++ v.fst).set ((↑v.fst.length : Int) - (1 : Int)).toNat false
                                                                                    else List.replicate (0 : Nat) false ++ v.fst)).contains
                                                                                true then
                                                                          bif !v.snd.snd.snd.snd.fst then true else v.snd.snd.snd.snd.snd.fst
                                                                        else false) =
                                                                        bif
                                                                            !(List.drop l.snd.fst.toNat
                                                                                    (bif v.snd.fst then (List.replicate (0 : Nat) false ++ v.fst).set ((↑v.fst.length : Int) - (1 : Int)).toNat false
                                                                                    else List.replicate (0 : Nat) false ++ v.fst)).contains
                                                                                true then
                                                                          bif !v.snd.snd.snd.snd.fst then true else v.snd.snd.snd.snd.snd.fst
                                                                        else false) ∧
                                                                      l.fst = l.fst ∧
                                                                        (↑s' : Int) = (↑s_1 : Int) + (1 : Int) ∧
                                                                          ((bif l.snd.snd.fst then true else v.snd.snd.snd.snd.snd.snd) = bif l.snd.snd.fst then true else v.snd.snd.snd.snd.snd.snd) ∧
                                                                            l.fst = l.fst ∧
                                                                              l.snd.fst = l.snd.fst ∧
                                                                                l.snd.snd.fst = l.snd.snd.fst ∧
                                                                                  l.snd.snd.snd = l.snd.snd.snd ∧
                                                                                    v.fst = v.fst ∧
                                                                                      v.snd.fst = v.snd.fst ∧
                                                                                        v.snd.snd.fst = v.snd.snd.fst ∧
                                                                                          v.snd.snd.snd.fst = v.snd.snd.snd.fst ∧
                                                                                            v.snd.snd.snd.snd.fst = v.snd.snd.snd.snd.fst ∧
                                                                                              v.snd.snd.snd.snd.snd.fst = v.snd.snd.snd.snd.snd.fst ∧
                                                                                                v.snd.snd.snd.snd.snd.snd = v.snd.snd.snd.snd.snd.snd ∧
                                                                                                  (0 : Int) = (0 : Int) ∧
                                                                                                    (0 : Int) = (0 : Int) ∧
                                                                                                      false = false ∧
                                                                                                        List.zipWith (fun (a b : Bool) => a || b) (List.take s l.snd.snd.snd) (List.take s (fOcc v)) =
                                                                                                            List.zipWith (fun (a b : Bool) => a || b) (List.take s l.snd.snd.snd) (List.take s (fOcc v)) ∧
                                                                                                          ((bif v.snd.fst then (List.replicate (0 : Nat) false ++ v.fst).set ((↑v.fst.length : Int) - (1 : Int)).toNat false
                                                                                                              else List.replicate (0 : Nat) false ++ v.fst) =
                                                                                                              bif v.snd.fst then (List.replicate (0 : Nat) false ++ v.fst).set ((↑v.fst.length : Int) - (1 : Int)).toNat false
                                                                                                              else List.replicate (0 : Nat) false ++ v.fst) ∧
                                                                                                            True) ∧
                                                        ((bif
                                                                bif
                                                                    bif decide ((↑s_1 : Int) < (↑v.fst.length : Int) - (1 : Int)) then
                                                                      (List.zipWith (fun (a b : Bool) => a || b) (List.take s l.snd.snd.snd) (List.take s (fOcc v))).getD (↑s_1 : Int).toNat false
                                                                    else false then
                                                                  !(bif v.snd.fst then (List.replicate (0 : Nat) false ++ v.fst).set ((↑v.fst.length : Int) - (1 : Int)).toNat false
                                                                        else List.replicate (0 : Nat) false ++ v.fst).getD
                                                                      (↑s_1 : Int).toNat false
                                                                else false then
                                                              bif
                                                                  (bif v.snd.fst then (List.replicate (0 : Nat) false ++ v.fst).set ((↑v.fst.length : Int) - (1 : Int)).toNat false else List.replicate (0 : Nat) false ++ v.fst).getD
                                                                    ((↑s_1 : Int) + (1 : Int)).toNat false then
                                                                true
                                                              else bif v.snd.fst then (↑s_1 : Int) + (1 : Int) == (↑v.fst.length : Int) - (1 : Int) else false
                                                            else false) =
                                                            false →
                                                          ((bif v.snd.fst then (List.replicate (0 : Nat) false ++ v.fst).set ((↑v.fst.length : Int) - (1 : Int)).toNat false else List.replicate (0 : Nat) false ++ v.fst).length ≤
                                                                (1000000 : Nat) ∧
                                                              (0 : Int) ≤ (↑s_1 : Int) ∧ (↑s_1 : Int) ≤ (1000000 : Int)) ∧
                                                            InR IntKind.i64 ((↑v.fst.length : Int) - (1 : Int)) ∧
                                                              (((↑s_1 : Int) == (↑v.fst.length : Int) - (1 : Int)) = true → v.snd.fst = false → InR IntKind.i64 ((↑v.fst.length : Int) - (1 : Int))) ∧
                                                                (((↑s_1 : Int) == (↑v.fst.length : Int) - (1 : Int)) = true →
                                                                    v.snd.fst = false →
                                                                      InB ((↑v.fst.length : Int) - (1 : Int))
                                                                        (bif v.snd.fst then (List.replicate (0 : Nat) false ++ v.fst).set ((↑v.fst.length : Int) - (1 : Int)).toNat false
                                                                          else List.replicate (0 : Nat) false ++ v.fst).length) ∧
                                                                  ((bif
                                                                            bif (↑s_1 : Int) == (↑v.fst.length : Int) - (1 : Int) then
                                                                              bif v.snd.fst then true
                                                                              else
                                                                                (bif v.snd.fst then (List.replicate (0 : Nat) false ++ v.fst).set ((↑v.fst.length : Int) - (1 : Int)).toNat false
                                                                                    else List.replicate (0 : Nat) false ++ v.fst).getD
                                                                                  ((↑v.fst.length : Int) - (1 : Int)).toNat false
                                                                            else false then
                                                                          true
                                                                        else
                                                                          bif bif l.snd.snd.fst then true else v.snd.snd.snd.snd.snd.snd then
                                                                            bif
                                                                                !(List.drop (↑s_1 : Int).toNat
                                                                                        (bif v.snd.fst then (List.replicate (0 : Nat) false ++ v.fst).set ((↑v.fst.length : Int) - (1 : Int)).toNat false
                                                                                        else List.replicate (0 : Nat) false ++ v.fst)).contains
                                                                                    true then
                                                                              bif !v.snd.snd.snd.snd.fst then true else v.snd.snd.snd.snd.snd.fst
                                                                            else false
                                                                          else false) =
                                                                        true →
                                                                      ((0 : Int) ≤ l.snd.fst ∧ (↑v.fst.length : Int) ≤ (1000000 : Int)) ∧
                                                                        ((0 : Int), (0 : Int), false, []) = (fNext l v).fst ∧ fRest l.snd.fst (↑v.fst.length : Int) = (fNext l v).snd ∧ True) ∧
                                                                    ((bif
                                                                            bif (↑s_1 : Int) == (↑v.fst.length : Int) - (1 : Int) then
                                                                              bif v.snd.fst then true
                                                                              else
                                                                                (bif v.snd.fst then (List.replicate (0 : Nat) false ++ v.fst).set ((↑v.fst.length : Int) - (1 : Int)).toNat false
                                                                                    else List.replicate (0 : Nat) false ++ v.fst).getD
                                                                                  ((↑v.fst.length : Int) - (1 : Int)).toNat false
                                                                            else false then
                                                                          true
                                                                        else
                                                                          bif bif l.snd.snd.fst then true else v.snd.snd.snd.snd.snd.snd then
                                                                            bif
                                                                                !(List.drop (↑s_1 : Int).toNat
                                                                                        (bif v.snd.fst then (List.replicate (0 : Nat) false ++ v.fst).set ((↑v.fst.length : Int) - (1 : Int)).toNat false
                                                                                        else List.replicate (0 : Nat) false ++ v.fst)).contains
                                                                                    true then
                                                                              bif !v.snd.snd.snd.snd.fst then true else v.snd.snd.snd.snd.snd.fst
                                                                            else false
                                                                          else false) =
                                                                        false →
                                                                      ((0 : Int) ≤ l.snd.fst ∧ (↑s_1 : Int) ≤ (1000000 : Int)) ∧
                                                                        (l.fst, (↑s_1 : Int), bif l.snd.snd.fst then true else v.snd.snd.snd.snd.snd.snd,
                                                                              List.zipWith (fun (a b : Bool) => a || b) (List.take s l.snd.snd.snd) (List.take s (fOcc v))) =
                                                                            (fNext l v).fst ∧
                                                                          fRest l.snd.fst (↑s_1 : Int) = (fNext l v).snd ∧ True)))))))) := by kernel_rfl

end Ytpjgggcaamigdaa
end Go.Proofs
