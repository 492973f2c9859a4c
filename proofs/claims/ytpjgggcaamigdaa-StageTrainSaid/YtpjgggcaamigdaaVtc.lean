/-
  The functions' verification conditions, written out.
-/
import Derived.Test.YtpjgggcaamigdaaVtb
set_option maxRecDepth 100000
set_option linter.unusedVariables false
namespace Go.Proofs
open Go Go.Vc
namespace Ytpjgggcaamigdaa

theorem v12 (v : List Bool × Bool × Bool × Bool × Bool × Bool × Bool) : bodyVC (ctxOf tab []) Try.f12 c12 noAnn (v, ()) = (
(v.fst, v.snd.fst, v.snd.snd.fst, v.snd.snd.snd.fst, v.snd.snd.snd.snd.fst, v.snd.snd.snd.snd.snd.fst, v.snd.snd.snd.snd.snd.snd) = v ∧ True) := by kernel_rfl
theorem v20 (xs : List Bool) : bodyVC (ctxOf tab []) Try.f20 c20 noAnn (xs, ()) = (
∀ (b : Bool), (b = true → xs = []) → (b = true → [] = xs ∧ True) ∧ (b = false → roomFor ((List.replicate 0 false).length + xs.length) 1 ∧ List.replicate 0 false ++ xs = xs ∧ True)) := by kernel_rfl
theorem v29 (xs : List Bool) (v : Bool) : bodyVC (ctxOf tab []) Try.f29 c29 (a29 (xs, v, ())) (xs, v, ()) = (
(∃ (s0 : Nat), (s0 ≤ xs.length ∧ fIndex xs v xs.length = fIndex xs v (xs.length - s0)) ∧ (↑s0 : Int) = 0 ∧ xs = xs ∧ v = v ∧ (↑xs.length : Int) = (↑xs.length : Int) ∧ True) ∧
  ∀ (s : Nat),
    s ≤ xs.length ∧ fIndex xs v xs.length = fIndex xs v (xs.length - s) →
      (decide ((↑s : Int) < (↑xs.length : Int)) = true →
          InB (↑s : Int) xs.length ∧
            ((v == xs.getD (↑s : Int).toNat false) = true → (↑s : Int) = fIndex xs v xs.length ∧ True) ∧
              ((v == xs.getD (↑s : Int).toNat false) = false →
                InR IntKind.i64 ((↑s : Int) + 1) ∧
                  ∃ (s' : Nat),
                    (s' ≤ xs.length ∧ fIndex xs v xs.length = fIndex xs v (xs.length - s')) ∧ xs.length - s' < xs.length - s ∧ (↑s' : Int) = (↑s : Int) + 1 ∧ xs = xs ∧ v = v ∧ (↑xs.length : Int) = (↑xs.length : Int) ∧ True)) ∧
        (decide ((↑s : Int) < (↑xs.length : Int)) = false → -1 = fIndex xs v xs.length ∧ True)) := by kernel_rfl
theorem v28 (xs : List Bool) (v : Bool) : bodyVC (ctxOf tab [(29, c29)]) Try.f28 c28 noAnn (xs, v, ()) = (
xs.length ≤ 1000000 ∧ decide (fIndex xs v xs.length ≥ 0) = xs.contains v ∧ True) := by kernel_rfl
theorem v27 (xs : List Bool) (ys : List Bool) : bodyVC (ctxOf tab []) Try.f27 c27 (a27 (xs, ys, ())) (xs, ys, ()) = (
(((↑xs.length : Int) != (↑ys.length : Int)) = true → false = (xs == ys) ∧ True) ∧
  (((↑xs.length : Int) != (↑ys.length : Int)) = false →
    (∃ (s0 : Nat), (s0 ≤ xs.length ∧ xs.length = ys.length ∧ List.take s0 xs = List.take s0 ys) ∧ (↑s0 : Int) = 0 ∧ xs = xs ∧ ys = ys ∧ (↑xs.length : Int) = (↑xs.length : Int) ∧ True) ∧
      ∀ (s : Nat),
        s ≤ xs.length ∧ xs.length = ys.length ∧ List.take s xs = List.take s ys →
          (decide ((↑s : Int) < (↑xs.length : Int)) = true →
              InB (↑s : Int) xs.length ∧
                InB (↑s : Int) ys.length ∧
                  ((!xs.getD (↑s : Int).toNat false == ys.getD (↑s : Int).toNat false) = true → false = (xs == ys) ∧ True) ∧
                    ((!xs.getD (↑s : Int).toNat false == ys.getD (↑s : Int).toNat false) = false →
                      InR IntKind.i64 ((↑s : Int) + 1) ∧
                        ∃ (s' : Nat),
                          (s' ≤ xs.length ∧ xs.length = ys.length ∧ List.take s' xs = List.take s' ys) ∧
                            xs.length - s' < xs.length - s ∧ (↑s' : Int) = (↑s : Int) + 1 ∧ xs = xs ∧ ys = ys ∧ (↑xs.length : Int) = (↑xs.length : Int) ∧ True)) ∧
            (decide ((↑s : Int) < (↑xs.length : Int)) = false → true = (xs == ys) ∧ True))) := by kernel_rfl
theorem v25 (xs : List Bool) (ys : List Bool) : bodyVC (ctxOf tab []) Try.f25 c25 (a25 (xs, ys, ())) (xs, ys, ()) = (
(((↑xs.length : Int) != (↑ys.length : Int)) = true → false = (xs == ys) ∧ True) ∧
  (((↑xs.length : Int) != (↑ys.length : Int)) = false →
    (∃ (s0 : Nat), (s0 ≤ xs.length ∧ xs.length = ys.length ∧ List.take s0 xs = List.take s0 ys) ∧ (↑s0 : Int) = 0 ∧ xs = xs ∧ ys = ys ∧ True) ∧
      ∀ (s : Nat),
        s ≤ xs.length ∧ xs.length = ys.length ∧ List.take s xs = List.take s ys →
          (decide ((↑s : Int) < (↑xs.length : Int)) = true →
              InB (↑s : Int) xs.length ∧
                InB (↑s : Int) ys.length ∧
                  ((!xs.getD (↑s : Int).toNat false == ys.getD (↑s : Int).toNat false) = true → false = (xs == ys) ∧ True) ∧
                    ((!xs.getD (↑s : Int).toNat false == ys.getD (↑s : Int).toNat false) = false →
                      InR IntKind.i64 ((↑s : Int) + 1) ∧
                        ∃ (s' : Nat), (s' ≤ xs.length ∧ xs.length = ys.length ∧ List.take s' xs = List.take s' ys) ∧ xs.length - s' < xs.length - s ∧ (↑s' : Int) = (↑s : Int) + 1 ∧ xs = xs ∧ ys = ys ∧ True)) ∧
            (decide ((↑s : Int) < (↑xs.length : Int)) = false → true = (xs == ys) ∧ True))) := by kernel_rfl
theorem v14 (xs : List Int) (ys : List Int) : bodyVC (ctxOf tab []) Try.f14 c14 (a14 (xs, ys, ())) (xs, ys, ()) = (
(((↑xs.length : Int) != (↑ys.length : Int)) = true → false = (xs == ys) ∧ True) ∧
  (((↑xs.length : Int) != (↑ys.length : Int)) = false →
    (∃ (s0 : Nat), (s0 ≤ xs.length ∧ xs.length = ys.length ∧ List.take s0 xs = List.take s0 ys) ∧ (↑s0 : Int) = 0 ∧ xs = xs ∧ ys = ys ∧ True) ∧
      ∀ (s : Nat),
        s ≤ xs.length ∧ xs.length = ys.length ∧ List.take s xs = List.take s ys →
          (decide ((↑s : Int) < (↑xs.length : Int)) = true →
              InB (↑s : Int) xs.length ∧
                InB (↑s : Int) ys.length ∧
                  ((xs.getD (↑s : Int).toNat (Int.ofNat 0) != ys.getD (↑s : Int).toNat (Int.ofNat 0)) = true → false = (xs == ys) ∧ True) ∧
                    ((xs.getD (↑s : Int).toNat (Int.ofNat 0) != ys.getD (↑s : Int).toNat (Int.ofNat 0)) = false →
                      InR IntKind.i64 ((↑s : Int) + 1) ∧
                        ∃ (s' : Nat), (s' ≤ xs.length ∧ xs.length = ys.length ∧ List.take s' xs = List.take s' ys) ∧ xs.length - s' < xs.length - s ∧ (↑s' : Int) = (↑s : Int) + 1 ∧ xs = xs ∧ ys = ys ∧ True)) ∧
            (decide ((↑s : Int) < (↑xs.length : Int)) = false → true = (xs == ys) ∧ True))) := by kernel_rfl
theorem v18 (xs : List Bool) : bodyVC (ctxOf tab []) Try.f18 c18 (a18 (xs, ())) (xs, ()) = (
(∃ (s0 : Nat), (s0 ≤ xs.length ∧ (List.take s0 xs).contains true = false) ∧ (↑s0 : Int) = 0 ∧ xs = xs ∧ True) ∧
  ∀ (s : Nat),
    s ≤ xs.length ∧ (List.take s xs).contains true = false →
      (decide ((↑s : Int) < (↑xs.length : Int)) = true →
          InB (↑s : Int) xs.length ∧
            (xs.getD (↑s : Int).toNat false = true → true = xs.contains true ∧ True) ∧
              (xs.getD (↑s : Int).toNat false = false →
                InR IntKind.i64 ((↑s : Int) + 1) ∧ ∃ (s' : Nat), (s' ≤ xs.length ∧ (List.take s' xs).contains true = false) ∧ xs.length - s' < xs.length - s ∧ (↑s' : Int) = (↑s : Int) + 1 ∧ xs = xs ∧ True)) ∧
        (decide ((↑s : Int) < (↑xs.length : Int)) = false → false = xs.contains true ∧ True)) := by kernel_rfl
theorem v23 (xs : List Bool) (a : Int) : bodyVC (ctxOf tab []) Try.f23 c23 (a23 (xs, a, ())) (xs, a, ()) = (
(∃ (s0 : Nat), (a.toNat ≤ s0 ∧ (s0 ≤ xs.length ∨ s0 = a.toNat) ∧ (List.drop a.toNat xs).contains true = (List.drop s0 xs).contains true) ∧ (↑s0 : Int) = a ∧ xs = xs ∧ True) ∧
  ∀ (s : Nat),
    a.toNat ≤ s ∧ (s ≤ xs.length ∨ s = a.toNat) ∧ (List.drop a.toNat xs).contains true = (List.drop s xs).contains true →
      (decide ((↑s : Int) < (↑xs.length : Int)) = true →
          InB (↑s : Int) xs.length ∧
            (xs.getD (↑s : Int).toNat false = true → true = (List.drop a.toNat xs).contains true ∧ True) ∧
              (xs.getD (↑s : Int).toNat false = false →
                InR IntKind.i64 ((↑s : Int) + 1) ∧
                  ∃ (s' : Nat),
                    (a.toNat ≤ s' ∧ (s' ≤ xs.length ∨ s' = a.toNat) ∧ (List.drop a.toNat xs).contains true = (List.drop s' xs).contains true) ∧ xs.length - s' < xs.length - s ∧ (↑s' : Int) = (↑s : Int) + 1 ∧ xs = xs ∧ True)) ∧
        (decide ((↑s : Int) < (↑xs.length : Int)) = false → false = (List.drop a.toNat xs).contains true ∧ True)) := by kernel_rfl
theorem v17 (l : List (List Bool × Bool × Bool × Bool × Bool × Bool × Bool)) (n : Int) : bodyVC (ctxOf tab []) Try.f17 c17 (a17 (l, n, ())) (l, n, ()) = (
(decide ((↑l.length : Int) > 60) = true → false = fFew l n ∧ True) ∧
  (decide ((↑l.length : Int) > 60) = false →
    (∃ (s0 : Nat), (s0 ≤ l.length ∧ ((List.take s0 l).all fun (v : ViewD) => (↑v.fst.length : Int) == n) = true) ∧ (↑s0 : Int) = 0 ∧ l = l ∧ n = n ∧ True) ∧
      ∀ (s : Nat),
        s ≤ l.length ∧ ((List.take s l).all fun (v : ViewD) => (↑v.fst.length : Int) == n) = true →
          (decide ((↑s : Int) < (↑l.length : Int)) = true →
              InB (↑s : Int) l.length ∧
                (((↑(l.getD (↑s : Int).toNat
                                  (Ty.dflt._f Ty.bool.list ⟨Ty.dflt._f Ty.bool PUnit.unit, PUnit.unit⟩,
                                    Ty.dflt._f (Ty.bool.pair (Ty.bool.pair (Ty.bool.pair (Ty.bool.pair (Ty.bool.pair Ty.bool)))))
                                      ⟨⟨Ty.dflt._f Ty.bool PUnit.unit, PUnit.unit⟩,
                                        Ty.dflt._f (Ty.bool.pair (Ty.bool.pair (Ty.bool.pair (Ty.bool.pair Ty.bool))))
                                          ⟨⟨Ty.dflt._f Ty.bool PUnit.unit, PUnit.unit⟩,
                                            Ty.dflt._f (Ty.bool.pair (Ty.bool.pair (Ty.bool.pair Ty.bool)))
                                              ⟨⟨Ty.dflt._f Ty.bool PUnit.unit, PUnit.unit⟩,
                                                Ty.dflt._f (Ty.bool.pair (Ty.bool.pair Ty.bool))
                                                  ⟨⟨Ty.dflt._f Ty.bool PUnit.unit, PUnit.unit⟩, Ty.dflt._f (Ty.bool.pair Ty.bool) ⟨⟨Ty.dflt._f Ty.bool PUnit.unit, PUnit.unit⟩, Ty.dflt._f Ty.bool PUnit.unit, PUnit.unit⟩,
                                                    ⟨Ty.dflt._f Ty.bool PUnit.unit, PUnit.unit⟩, Ty.dflt._f Ty.bool PUnit.unit, PUnit.unit⟩,
                                                ⟨Ty.dflt._f Ty.bool PUnit.unit, PUnit.unit⟩, Ty.dflt._f (Ty.bool.pair Ty.bool) ⟨⟨Ty.dflt._f Ty.bool PUnit.unit, PUnit.unit⟩, Ty.dflt._f Ty.bool PUnit.unit, PUnit.unit⟩,
                                                ⟨Ty.dflt._f Ty.bool PUnit.unit, PUnit.unit⟩, Ty.dflt._f Ty.bool PUnit.unit, PUnit.unit⟩,
                                            ⟨Ty.dflt._f Ty.bool PUnit.unit, PUnit.unit⟩,
                                            Ty.dflt._f (Ty.bool.pair (Ty.bool.pair Ty.bool))
                                              ⟨⟨Ty.dflt._f Ty.bool PUnit.unit, PUnit.unit⟩, Ty.dflt._f (Ty.bool.pair Ty.bool) ⟨⟨Ty.dflt._f Ty.bool PUnit.unit, PUnit.unit⟩, Ty.dflt._f Ty.bool PUnit.unit, PUnit.unit⟩,
                                                ⟨Ty.dflt._f Ty.bool PUnit.unit, PUnit.unit⟩, Ty.dflt._f Ty.bool PUnit.unit, PUnit.unit⟩,
                                            ⟨Ty.dflt._f Ty.bool PUnit.unit, PUnit.unit⟩, Ty.dflt._f (Ty.bool.pair Ty.bool) ⟨⟨Ty.dflt._f Ty.bool PUnit.unit, PUnit.unit⟩, Ty.dflt._f Ty.bool PUnit.unit, PUnit.unit⟩,
                                            ⟨Ty.dflt._f Ty.bool PUnit.unit, PUnit.unit⟩, Ty.dflt._f Ty.bool PUnit.unit, PUnit.unit⟩,
                                        ⟨Ty.dflt._f Ty.bool PUnit.unit, PUnit.unit⟩,
                                        Ty.dflt._f (Ty.bool.pair (Ty.bool.pair (Ty.bool.pair Ty.bool)))
                                          ⟨⟨Ty.dflt._f Ty.bool PUnit.unit, PUnit.unit⟩,
                                            Ty.dflt._f (Ty.bool.pair (Ty.bool.pair Ty.bool))
                                              ⟨⟨Ty.dflt._f Ty.bool PUnit.unit, PUnit.unit⟩, Ty.dflt._f (Ty.bool.pair Ty.bool) ⟨⟨Ty.dflt._f Ty.bool PUnit.unit, PUnit.unit⟩, Ty.dflt._f Ty.bool PUnit.unit, PUnit.unit⟩,
                                                ⟨Ty.dflt._f Ty.bool PUnit.unit, PUnit.unit⟩, Ty.dflt._f Ty.bool PUnit.unit, PUnit.unit⟩,
                                            ⟨Ty.dflt._f Ty.bool PUnit.unit, PUnit.unit⟩, Ty.dflt._f (Ty.bool.pair Ty.bool) ⟨⟨Ty.dflt._f Ty.bool PUnit.unit, PUnit.unit⟩, Ty.dflt._f Ty.bool PUnit.unit, PUnit.unit⟩,
                                            ⟨Ty.dflt._f Ty.bool PUnit.unit, PUnit.unit⟩, Ty.dflt._f Ty.bool PUnit.unit, PUnit.unit⟩,
                                        ⟨Ty.dflt._f Ty.bool PUnit.unit, PUnit.unit⟩,
                                        Ty.dflt._f (Ty.bool.pair (Ty.bool.pair Ty.bool))
                                          ⟨⟨Ty.dflt._f Ty.bool PUnit.unit, PUnit.unit⟩, Ty.dflt._f (Ty.bool.pair Ty.bool) ⟨⟨Ty.dflt._f Ty.bool PUnit.unit, PUnit.unit⟩, Ty.dflt._f Ty.bool PUnit.unit, PUnit.unit⟩,
                                            ⟨Ty.dflt._f Ty.bool PUnit.unit, PUnit.unit⟩, Ty.dflt._f Ty.bool PUnit.unit, PUnit.unit⟩,
                                        ⟨Ty.dflt._f Ty.bool PUnit.unit, PUnit.unit⟩, Ty.dflt._f (Ty.bool.pair Ty.bool) ⟨⟨Ty.dflt._f Ty.bool PUnit.unit, PUnit.unit⟩, Ty.dflt._f Ty.bool PUnit.unit, PUnit.unit⟩,
                                        ⟨Ty.dflt._f Ty.bool PUnit.unit, PUnit.unit⟩, Ty.dflt._f Ty.bool PUnit.unit, PUnit.unit⟩)).fst.length :
                          Int) !=
                        n) =
                      true →
                    false = fFew l n ∧ True) ∧
                  (((↑(l.getD (↑s : Int).toNat
                                  (Ty.dflt._f Ty.bool.list ⟨Ty.dflt._f Ty.bool PUnit.unit, PUnit.unit⟩,
                                    Ty.dflt._f (Ty.bool.pair (Ty.bool.pair (Ty.bool.pair (Ty.bool.pair (Ty.bool.pair Ty.bool)))))
                                      ⟨⟨Ty.dflt._f Ty.bool PUnit.unit, PUnit.unit⟩,
                                        Ty.dflt._f (Ty.bool.pair (Ty.bool.pair (Ty.bool.pair (Ty.bool.pair Ty.bool))))
                                          ⟨⟨Ty.dflt._f Ty.bool PUnit.unit, PUnit.unit⟩,
                                            Ty.dflt._f (Ty.bool.pair (Ty.bool.pair (Ty.bool.pair Ty.bool)))
                                              ⟨⟨Ty.dflt._f Ty.bool PUnit.unit, PUnit.unit⟩,
                                                Ty.dflt._f (Ty.bool.pair (Ty.bool.pair Ty.bool))
                                                  ⟨⟨Ty.dflt._f Ty.bool PUnit.unit, PUnit.unit⟩, Ty.dflt._f (Ty.bool.pair Ty.bool) ⟨⟨Ty.dflt._f Ty.bool PUnit.unit, PUnit.unit⟩, Ty.dflt._f Ty.bool PUnit.unit, PUnit.unit⟩,
                                                    ⟨Ty.dflt._f Ty.bool PUnit.unit, PUnit.unit⟩, Ty.dflt._f Ty.bool PUnit.unit, PUnit.unit⟩,
                                                ⟨Ty.dflt._f Ty.bool PUnit.unit, PUnit.unit⟩, Ty.dflt._f (Ty.bool.pair Ty.bool) ⟨⟨Ty.dflt._f Ty.bool PUnit.unit, PUnit.unit⟩, Ty.dflt._f Ty.bool PUnit.unit, PUnit.unit⟩,
                                                ⟨Ty.dflt._f Ty.bool PUnit.unit, PUnit.unit⟩, Ty.dflt._f Ty.bool PUnit.unit, PUnit.unit⟩,
                                            ⟨Ty.dflt._f Ty.bool PUnit.unit, PUnit.unit⟩,
                                            Ty.dflt._f (Ty.bool.pair (Ty.bool.pair Ty.bool))
                                              ⟨⟨Ty.dflt._f Ty.bool PUnit.unit, PUnit.unit⟩, Ty.dflt._f (Ty.bool.pair Ty.bool) ⟨⟨Ty.dflt._f Ty.bool PUnit.unit, PUnit.unit⟩, Ty.dflt._f Ty.bool PUnit.unit, PUnit.unit⟩,
                                                ⟨Ty.dflt._f Ty.bool PUnit.unit, PUnit.unit⟩, Ty.dflt._f Ty.bool PUnit.unit, PUnit.unit⟩,
                                            ⟨Ty.dflt._f Ty.bool PUnit.unit, PUnit.unit⟩, Ty.dflt._f (Ty.bool.pair Ty.bool) ⟨⟨Ty.dflt._f Ty.bool PUnit.unit, PUnit.unit⟩, Ty.dflt._f Ty.bool PUnit.unit, PUnit.unit⟩,
                                            ⟨Ty.dflt._f Ty.bool PUnit.unit, PUnit.unit⟩, Ty.dflt._f Ty.bool PUnit.unit, PUnit.unit⟩,
                                        ⟨Ty.dflt._f Ty.bool PUnit.unit, PUnit.unit⟩,
                                        Ty.dflt._f (Ty.bool.pair (Ty.bool.pair (Ty.bool.pair Ty.bool)))
                                          ⟨⟨Ty.dflt._f Ty.bool PUnit.unit, PUnit.unit⟩,
                                            Ty.dflt._f (Ty.bool.pair (Ty.bool.pair Ty.bool))
                                              ⟨⟨Ty.dflt._f Ty.bool PUnit.unit, PUnit.unit⟩, Ty.dflt._f (Ty.bool.pair Ty.bool) ⟨⟨Ty.dflt._f Ty.bool PUnit.unit, PUnit.unit⟩, Ty.dflt._f Ty.bool PUnit.unit, PUnit.unit⟩,
                                                ⟨Ty.dflt._f Ty.bool PUnit.unit, PUnit.unit⟩, Ty.dflt._f Ty.bool PUnit.unit, PUnit.unit⟩,
                                            ⟨Ty.dflt._f Ty.bool PUnit.unit, PUnit.unit⟩, Ty.dflt._f (Ty.bool.pair Ty.bool) ⟨⟨Ty.dflt._f Ty.bool PUnit.unit, PUnit.unit⟩, Ty.dflt._f Ty.bool PUnit.unit, PUnit.unit⟩,
                                            ⟨Ty.dflt._f Ty.bool PUnit.unit, PUnit.unit⟩, Ty.dflt._f Ty.bool PUnit.unit, PUnit.unit⟩,
                                        ⟨Ty.dflt._f Ty.bool PUnit.unit, PUnit.unit⟩,
                                        Ty.dflt._f (Ty.bool.pair (Ty.bool.pair Ty.bool))
                                          ⟨⟨Ty.dflt._f Ty.bool PUnit.unit, PUnit.unit⟩, Ty.dflt._f (Ty.bool.pair Ty.bool) ⟨⟨Ty.dflt._f Ty.bool PUnit.unit, PUnit.unit⟩, Ty.dflt._f Ty.bool PUnit.unit, PUnit.unit⟩,
                                            ⟨Ty.dflt._f Ty.bool PUnit.unit, PUnit.unit⟩, Ty.dflt._f Ty.bool PUnit.unit, PUnit.unit⟩,
                                        ⟨Ty.dflt._f Ty.bool PUnit.unit, PUnit.unit⟩, Ty.dflt._f (Ty.bool.pair Ty.bool) ⟨⟨Ty.dflt._f Ty.bool PUnit.unit, PUnit.unit⟩, Ty.dflt._f Ty.bool PUnit.unit, PUnit.unit⟩,
                                        ⟨Ty.dflt._f Ty.bool PUnit.unit, PUnit.unit⟩, Ty.dflt._f Ty.bool PUnit.unit, PUnit.unit⟩)).fst.length :
                          Int) !=
                        n) =
                      false →
                    InR IntKind.i64 ((↑s : Int) + 1) ∧
                      ∃ (s' : Nat), (s' ≤ l.length ∧ ((List.take s' l).all fun (v : ViewD) => (↑v.fst.length : Int) == n) = true) ∧ l.length - s' < l.length - s ∧ (↑s' : Int) = (↑s : Int) + 1 ∧ l = l ∧ n = n ∧ True)) ∧
            (decide ((↑s : Int) < (↑l.length : Int)) = false → true = fFew l n ∧ True))) := by kernel_rfl
theorem v24 (a : Int) (b : Int) : bodyVC (ctxOf tab []) Try.f24 c24 (a24 (a, b, ())) (a, b, ()) = (
(∃ (s0 : Nat), (a + (↑s0 : Int) ≤ b ∨ s0 = 0) ∧ a + (↑s0 : Int) = a ∧ b = b ∧ fRest a (a + (↑s0 : Int)) = [] ∧ True) ∧
  ∀ (s : Nat),
    a + (↑s : Int) ≤ b ∨ s = 0 →
      (decide (a + (↑s : Int) < b) = true →
          roomFor ((fRest a (a + (↑s : Int))).length + ((List.replicate 1 0).set 0 (a + (↑s : Int))).length) 8 ∧
            InR IntKind.i64 (a + (↑s : Int) + 1) ∧
              ∃ (s' : Nat),
                (a + (↑s' : Int) ≤ b ∨ s' = 0) ∧
                  (b - a).toNat - s' < (b - a).toNat - s ∧ a + (↑s' : Int) = a + (↑s : Int) + 1 ∧ b = b ∧ fRest a (a + (↑s' : Int)) = fRest a (a + (↑s : Int)) ++ (List.replicate 1 0).set 0 (a + (↑s : Int)) ∧ True) ∧
        (decide (a + (↑s : Int) < b) = false → fRest a (a + (↑s : Int)) = fRest a b ∧ True)) := by kernel_rfl
theorem v22 (a : Int) (b : Int) : bodyVC (ctxOf tab []) Try.f22 c22 (a22 (a, b, ())) (a, b, ()) = (
(∃ (s0 : Nat), (a + (↑s0 : Int) ≤ b ∨ s0 = 0) ∧ a + (↑s0 : Int) = a ∧ b = b ∧ fRest a (a + (↑s0 : Int)) = [] ∧ True) ∧
  ∀ (s : Nat),
    a + (↑s : Int) ≤ b ∨ s = 0 →
      (decide (a + (↑s : Int) < b) = true →
          roomFor ((fRest a (a + (↑s : Int))).length + ((List.replicate 1 0).set 0 (a + (↑s : Int))).length) 8 ∧
            InR IntKind.i64 (a + (↑s : Int) + 1) ∧
              ∃ (s' : Nat),
                (a + (↑s' : Int) ≤ b ∨ s' = 0) ∧
                  (b - a).toNat - s' < (b - a).toNat - s ∧ a + (↑s' : Int) = a + (↑s : Int) + 1 ∧ b = b ∧ fRest a (a + (↑s' : Int)) = fRest a (a + (↑s : Int)) ++ (List.replicate 1 0).set 0 (a + (↑s : Int)) ∧ True) ∧
        (decide (a + (↑s : Int) < b) = false → fRest a (a + (↑s : Int)) = fRest a b ∧ True)) := by kernel_rfl
theorem v26 (l : Int × Int × Bool × List Bool) : bodyVC (ctxOf tab []) Try.f26 c26 noAnn (l, ()) = (
(l.fst, l.snd.fst, l.snd.snd.fst) = (l.fst, l.snd.fst, l.snd.snd.fst) ∧ True) := by kernel_rfl
theorem v19 (l : Int × Int × Bool × List Bool) (m : Int × Int × Bool × List Bool) : bodyVC (ctxOf tab [(26, c26), (27, c27)]) Try.f19 c19 noAnn (l, m, ()) = (
True ∧
  True ∧
    ((l.fst == m.fst && (l.snd.fst == m.snd.fst && (l.snd.snd.fst == m.snd.snd.fst && true))) = true → l.snd.snd.snd.length ≤ 1000000) ∧
      (bif l.fst == m.fst && (l.snd.fst == m.snd.fst && (l.snd.snd.fst == m.snd.snd.fst && true)) then l.snd.snd.snd == m.snd.snd.snd else false) = fSame l m ∧ True) := by kernel_rfl
theorem v13 (l : Int × Int × Bool × List Bool) (m : Int × Int × Bool × List Bool) : bodyVC (ctxOf tab [(25, c25)]) Try.f13 c13 noAnn (l, m, ()) = (
((bif bif l.fst == m.fst then l.snd.fst == m.snd.fst else false then l.snd.snd.fst == m.snd.snd.fst else false) = true → l.snd.snd.snd.length ≤ 1000000) ∧
  (bif bif bif l.fst == m.fst then l.snd.fst == m.snd.fst else false then l.snd.snd.fst == m.snd.snd.fst else false then l.snd.snd.snd == m.snd.snd.snd else false) = fSame l m ∧ True) := by kernel_rfl
theorem v15 (n : Int) : bodyVC (ctxOf tab []) Try.f15 c15 noAnn (n, ()) = (
((bif decide (n < 1) then true else decide (n > 12)) = true → (0, 0, false, []) = fBegin n ∧ True) ∧
  ((bif decide (n < 1) then true else decide (n > 12)) = false → (0 ≤ n ∧ n ≤ n) ∧ (roomFor n.toNat 1 ∧ n ≤ (↑maxLenI : Int)) ∧ (1, 0, false, List.replicate n.toNat false) = fBegin n ∧ True)) := by kernel_rfl
theorem v16 (n : Int) : bodyVC (ctxOf tab []) Try.f16 c16 noAnn (n, ()) = (
((bif decide (n < 1) then true else decide (n > 12)) = true → (0, 0, false, []) = fBegin n ∧ True) ∧
  ((bif decide (n < 1) then true else decide (n > 12)) = false → (0 ≤ n ∧ n ≤ n) ∧ (roomFor n.toNat 1 ∧ n ≤ (↑maxLenI : Int)) ∧ (1, 0, false, List.replicate n.toNat false) = fBegin n ∧ True)) := by kernel_rfl
theorem v21 (occ : List Bool) (v : List Bool × Bool × Bool × Bool × Bool × Bool × Bool) : bodyVC (ctxOf tab [(28, c28)]) Try.f21 c21 noAnn (occ, v, ()) = (
occ.length ≤ 1000000 ∧ (bif !occ.contains true then bif !v.snd.snd.snd.snd.fst then true else v.snd.snd.snd.snd.snd.fst else false) = fOver occ v ∧ True) := by kernel_rfl

end Ytpjgggcaamigdaa
end Go.Proofs
