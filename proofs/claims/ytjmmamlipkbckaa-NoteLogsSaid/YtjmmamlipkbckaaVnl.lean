/-
  The log and the reference's log: written out and proved.
-/
import Derived.Test.YtjmmamlipkbckaaVno
import Derived.Test.YtjmmamlipkbckaaVnj
set_option maxRecDepth 100000
set_option linter.unusedVariables false
set_option linter.unusedSimpArgs false
set_option maxHeartbeats 2000000
namespace Go.Proofs
open Go Go.Vc
namespace Ytjmmamlipkbckaa

theorem v9 (l : List (List Int × List Int × List (Int × List (Int × Int) × Int × Int × Int))) : bodyVC (ctxOf tab [(10, c10), (16, c16), (17, c17)] [] [] [16]) Try.f9 c9 (a9 (l, ())) (l, ()) = (
lett (decide ((↑l.length : Int) > (0 : Int))) fun (y1 : Bool) =>
lett (l.getD (Int.toNat (0 : Int)) ([], [], [])) fun (y2 : List Int × List Int × List (Int × List (Int × Int) × Int × Int × Int)) =>
lett ((((List.replicate (3 : Nat) (0 : Int)).set (0 : Nat) (↑y2.fst.length : Int)).set (1 : Nat) (↑y2.snd.fst.length : Int)).set (2 : Nat) (↑y2.snd.snd.length : Int)) fun (y3 : List Int) =>
lett ((((List.replicate (3 : Nat) (0 : Int)).set (0 : Nat) (83 : Int)).set (1 : Nat) (69 : Int)).set (2 : Nat) (77 : Int)) fun (y4 : List Int) =>
lett ((List.replicate (1 : Nat) (0 : Int)).set (0 : Nat) (↑l.length : Int)) fun (y5 : List Int) =>
lett (y4 ++ List.flatMap (fBytes (Int.toNat (1 : Int))) y3) fun (y6 : List Int) =>
lett ((0 : Int), [], (0 : Int), (0 : Int), (0 : Int)) fun (y7 : Int × List (Int × Int) × Int × Int × Int) =>
lett ((((List.replicate (3 : Nat) (0 : Int)).set (0 : Nat) (0 : Int)).set (1 : Nat) (0 : Int)).set (2 : Nat) (0 : Int)) fun (y8 : List Int) =>
lett (y4 ++ List.flatMap (fBytes (Int.toNat (1 : Int))) y8) fun (y9 : List Int) =>
shortL l ∧
((!fMay l) = true → [] = fLog l ∧ True) ∧
((!fMay l) = false →
(y1 = true →
InB (0 : Int) l.length ∧
InB (0 : Int) l.length ∧
InB (0 : Int) l.length ∧
((0 : Int) ≤ (1 : Int) ∧ (1 : Int) ≤ (4 : Int) ∧ y3.length ≤ (1000000 : Nat) ∧ y4.length ≤ (1000000000 : Nat)) ∧
((0 : Int) ≤ (2 : Int) ∧ (2 : Int) ≤ (4 : Int) ∧ y5.length ≤ (1000000 : Nat) ∧ y6.length ≤ (1000000000 : Nat)) ∧
(∃ (s010 : Nat),
s010 ≤ l.length ∧
(↑s010 : Int) = (0 : Int) ∧
l = l ∧
l = l ∧
(↑l.length : Int) = (↑l.length : Int) ∧
fHead l ++ List.flatMap fNoteLog (List.take s010 l) = y6 ++ List.flatMap (fBytes (Int.toNat (2 : Int))) y5 ∧ True) ∧
∀ (s10 : Nat),
lett (decide ((↑s10 : Int) < (↑l.length : Int))) fun (y11 : Bool) =>
lett (l.getD (↑s10 : Int).toNat ([], [], [])) fun (y12 : List Int × List Int × List (Int × List (Int × Int) × Int × Int × Int)) =>
lett (fHead l ++ List.flatMap fNoteLog (List.take s10 l)) fun (y13 : List Int) =>
lett (y13 ++ List.flatMap (fBytes (Int.toNat (1 : Int))) y12.fst) fun (y14 : List Int) =>
lett (y14 ++ List.flatMap (fBytes (Int.toNat (1 : Int))) y12.snd.fst) fun (y15 : List Int) =>
lett ((List.replicate (1 : Nat) (0 : Int)).set (0 : Nat) (fSum y13)) fun (y16 : List Int) =>
s10 ≤ l.length →
(y11 = true →
InB (↑s10 : Int) l.length ∧
((0 : Int) ≤ (1 : Int) ∧ (1 : Int) ≤ (4 : Int) ∧ y12.fst.length ≤ (1000000 : Nat) ∧ y13.length ≤ (1000000000 : Nat)) ∧
((0 : Int) ≤ (1 : Int) ∧ (1 : Int) ≤ (4 : Int) ∧ y12.snd.fst.length ≤ (1000000 : Nat) ∧ y14.length ≤ (1000000000 : Nat)) ∧
(∃ (s017 : Nat),
s017 ≤ y12.snd.snd.length ∧
(↑s017 : Int) = (0 : Int) ∧
l = l ∧
l = l ∧
(↑l.length : Int) = (↑l.length : Int) ∧
(↑s10 : Int) = (↑s10 : Int) ∧
y12.snd.snd = y12.snd.snd ∧
(↑y12.snd.snd.length : Int) = (↑y12.snd.snd.length : Int) ∧
y15 ++ List.flatMap fBodyLog (List.take s017 y12.snd.snd) = y15 ∧ True) ∧
∀ (s17 : Nat),
lett (decide ((↑s17 : Int) < (↑y12.snd.snd.length : Int))) fun (y18 : Bool) =>
lett (y12.snd.snd.getD (↑s17 : Int).toNat y7) fun (y19 : Int × List (Int × Int) × Int × Int × Int) =>
lett ((List.replicate (1 : Nat) (0 : Int)).set (0 : Nat) y19.fst) fun (y20 : List Int) =>
lett (y15 ++ List.flatMap fBodyLog (List.take s17 y12.snd.snd)) fun (y21 : List Int) =>
lett ((List.replicate (1 : Nat) (0 : Int)).set (0 : Nat) (↑y19.snd.fst.length : Int)) fun (y22 : List Int) =>
lett (y21 ++ List.flatMap (fBytes (Int.toNat (1 : Int))) y20) fun (y23 : List Int) =>
lett (y23 ++ List.flatMap (fBytes (Int.toNat (2 : Int))) y22) fun (y24 : List Int) =>
lett (((List.replicate (2 : Nat) (0 : Int)).set (0 : Nat) y19.snd.snd.fst).set (1 : Nat) y19.snd.snd.snd.fst)
fun (y25 : List Int) =>
lett ((List.replicate (1 : Nat) (0 : Int)).set (0 : Nat) y19.snd.snd.snd.snd) fun (y26 : List Int) =>
s17 ≤ y12.snd.snd.length →
(y18 = true →
InB (↑s17 : Int) y12.snd.snd.length ∧
((0 : Int) ≤ (1 : Int) ∧
(1 : Int) ≤ (4 : Int) ∧ y20.length ≤ (1000000 : Nat) ∧ y21.length ≤ (1000000000 : Nat)) ∧
((0 : Int) ≤ (2 : Int) ∧
(2 : Int) ≤ (4 : Int) ∧ y22.length ≤ (1000000 : Nat) ∧ y23.length ≤ (1000000000 : Nat)) ∧
(∃ (s027 : Nat),
s027 ≤ y19.snd.fst.length ∧
(↑s027 : Int) = (0 : Int) ∧
l = l ∧
l = l ∧
(↑l.length : Int) = (↑l.length : Int) ∧
(↑s10 : Int) = (↑s10 : Int) ∧
y12.snd.snd = y12.snd.snd ∧
(↑y12.snd.snd.length : Int) = (↑y12.snd.snd.length : Int) ∧
(↑s17 : Int) = (↑s17 : Int) ∧
y19.snd.fst = y19.snd.fst ∧
(↑y19.snd.fst.length : Int) = (↑y19.snd.fst.length : Int) ∧
y24 ++ fPorts (List.take s027 y19.snd.fst) = y24 ∧
y19.fst = y19.fst ∧
y19.snd.fst = y19.snd.fst ∧
y19.snd.snd.fst = y19.snd.snd.fst ∧
y19.snd.snd.snd.fst = y19.snd.snd.snd.fst ∧
y19.snd.snd.snd.snd = y19.snd.snd.snd.snd ∧ True) ∧
∀ (s27 : Nat),
lett (decide ((↑s27 : Int) < (↑y19.snd.fst.length : Int))) fun (y28 : Bool) =>
lett (y19.snd.fst.getD (↑s27 : Int).toNat ((0 : Int), (0 : Int))) fun (y29 : Int × Int) =>
lett (((List.replicate (2 : Nat) (0 : Int)).set (0 : Nat) y29.fst).set (1 : Nat) y29.snd)
fun (y30 : List Int) =>
lett (y24 ++ fPorts (List.take s27 y19.snd.fst)) fun (y31 : List Int) =>
lett (y31 ++ List.flatMap (fBytes (Int.toNat (2 : Int))) y25) fun (y32 : List Int) =>
s27 ≤ y19.snd.fst.length →
(y28 = true →
InB (↑s27 : Int) y19.snd.fst.length ∧
((0 : Int) ≤ (1 : Int) ∧
(1 : Int) ≤ (4 : Int) ∧
y30.length ≤ (1000000 : Nat) ∧ y31.length ≤ (1000000000 : Nat)) ∧
InR IntKind.i64 ((↑s27 : Int) + (1 : Int)) ∧
∃ (s'33 : Nat),
s'33 ≤ y19.snd.fst.length ∧
y19.snd.fst.length - s'33 < y19.snd.fst.length - s27 ∧
(↑s'33 : Int) = (↑s27 : Int) + (1 : Int) ∧
l = l ∧
l = l ∧
(↑l.length : Int) = (↑l.length : Int) ∧
(↑s10 : Int) = (↑s10 : Int) ∧
y12.snd.snd = y12.snd.snd ∧
(↑y12.snd.snd.length : Int) =
(↑y12.snd.snd.length : Int) ∧
(↑s17 : Int) = (↑s17 : Int) ∧
y19.snd.fst = y19.snd.fst ∧
(↑y19.snd.fst.length : Int) =
(↑y19.snd.fst.length : Int) ∧
y24 ++ fPorts (List.take s'33 y19.snd.fst) =
y31 ++
List.flatMap
(fBytes (Int.toNat (1 : Int))) y30 ∧
y19.fst = y19.fst ∧
y19.snd.fst = y19.snd.fst ∧
y19.snd.snd.fst = y19.snd.snd.fst ∧
y19.snd.snd.snd.fst =
y19.snd.snd.snd.fst ∧
y19.snd.snd.snd.snd =
y19.snd.snd.snd.snd ∧
True) ∧
(y28 = false →
((0 : Int) ≤ (2 : Int) ∧
(2 : Int) ≤ (4 : Int) ∧
y25.length ≤ (1000000 : Nat) ∧ y31.length ≤ (1000000000 : Nat)) ∧
((0 : Int) ≤ (1 : Int) ∧
(1 : Int) ≤ (4 : Int) ∧
y26.length ≤ (1000000 : Nat) ∧ y32.length ≤ (1000000000 : Nat)) ∧
InR IntKind.i64 ((↑s17 : Int) + (1 : Int)) ∧
∃ (s'33 : Nat),
s'33 ≤ y12.snd.snd.length ∧
y12.snd.snd.length - s'33 < y12.snd.snd.length - s17 ∧
(↑s'33 : Int) = (↑s17 : Int) + (1 : Int) ∧
l = l ∧
l = l ∧
(↑l.length : Int) = (↑l.length : Int) ∧
(↑s10 : Int) = (↑s10 : Int) ∧
y12.snd.snd = y12.snd.snd ∧
(↑y12.snd.snd.length : Int) =
(↑y12.snd.snd.length : Int) ∧
y15 ++
List.flatMap fBodyLog
(List.take s'33 y12.snd.snd) =
y32 ++
List.flatMap (fBytes (Int.toNat (1 : Int)))
y26 ∧
True)) ∧
(y18 = false →
InR IntKind.i64 ((↑s10 : Int) + (1 : Int)) ∧
∃ (s'27 : Nat),
s'27 ≤ l.length ∧
l.length - s'27 < l.length - s10 ∧
(↑s'27 : Int) = (↑s10 : Int) + (1 : Int) ∧
l = l ∧
l = l ∧
(↑l.length : Int) = (↑l.length : Int) ∧
fHead l ++ List.flatMap fNoteLog (List.take s'27 l) = y21 ∧ True)) ∧
(y11 = false →
y13.length ≤ (1000000000 : Nat) ∧
((0 : Int) ≤ (4 : Int) ∧ (4 : Int) ≤ (4 : Int) ∧ y16.length ≤ (1000000 : Nat) ∧ y13.length ≤ (1000000000 : Nat)) ∧
y13 ++ List.flatMap (fBytes (Int.toNat (4 : Int))) y16 = fLog l ∧ True)) ∧
(y1 = false →
((0 : Int) ≤ (1 : Int) ∧ (1 : Int) ≤ (4 : Int) ∧ y8.length ≤ (1000000 : Nat) ∧ y4.length ≤ (1000000000 : Nat)) ∧
((0 : Int) ≤ (2 : Int) ∧ (2 : Int) ≤ (4 : Int) ∧ y5.length ≤ (1000000 : Nat) ∧ y9.length ≤ (1000000000 : Nat)) ∧
(∃ (s010 : Nat),
s010 ≤ l.length ∧
(↑s010 : Int) = (0 : Int) ∧
l = l ∧
l = l ∧
(↑l.length : Int) = (↑l.length : Int) ∧ fHead l ++ List.flatMap fNoteLog (List.take s010 l) = y9 ++ List.flatMap (fBytes (Int.toNat (2 : Int))) y5 ∧ True) ∧
∀ (s10 : Nat),
lett (decide ((↑s10 : Int) < (↑l.length : Int))) fun (y11 : Bool) =>
lett (l.getD (↑s10 : Int).toNat ([], [], [])) fun (y12 : List Int × List Int × List (Int × List (Int × Int) × Int × Int × Int)) =>
lett (fHead l ++ List.flatMap fNoteLog (List.take s10 l)) fun (y13 : List Int) =>
lett (y13 ++ List.flatMap (fBytes (Int.toNat (1 : Int))) y12.fst) fun (y14 : List Int) =>
lett (y14 ++ List.flatMap (fBytes (Int.toNat (1 : Int))) y12.snd.fst) fun (y15 : List Int) =>
lett ((List.replicate (1 : Nat) (0 : Int)).set (0 : Nat) (fSum y13)) fun (y16 : List Int) =>
s10 ≤ l.length →
(y11 = true →
InB (↑s10 : Int) l.length ∧
((0 : Int) ≤ (1 : Int) ∧ (1 : Int) ≤ (4 : Int) ∧ y12.fst.length ≤ (1000000 : Nat) ∧ y13.length ≤ (1000000000 : Nat)) ∧
((0 : Int) ≤ (1 : Int) ∧ (1 : Int) ≤ (4 : Int) ∧ y12.snd.fst.length ≤ (1000000 : Nat) ∧ y14.length ≤ (1000000000 : Nat)) ∧
(∃ (s017 : Nat),
s017 ≤ y12.snd.snd.length ∧
(↑s017 : Int) = (0 : Int) ∧
l = l ∧
l = l ∧
(↑l.length : Int) = (↑l.length : Int) ∧
(↑s10 : Int) = (↑s10 : Int) ∧
y12.snd.snd = y12.snd.snd ∧
(↑y12.snd.snd.length : Int) = (↑y12.snd.snd.length : Int) ∧
y15 ++ List.flatMap fBodyLog (List.take s017 y12.snd.snd) = y15 ∧ True) ∧
∀ (s17 : Nat),
lett (decide ((↑s17 : Int) < (↑y12.snd.snd.length : Int))) fun (y18 : Bool) =>
lett (y12.snd.snd.getD (↑s17 : Int).toNat y7) fun (y19 : Int × List (Int × Int) × Int × Int × Int) =>
lett ((List.replicate (1 : Nat) (0 : Int)).set (0 : Nat) y19.fst) fun (y20 : List Int) =>
lett (y15 ++ List.flatMap fBodyLog (List.take s17 y12.snd.snd)) fun (y21 : List Int) =>
lett ((List.replicate (1 : Nat) (0 : Int)).set (0 : Nat) (↑y19.snd.fst.length : Int)) fun (y22 : List Int) =>
lett (y21 ++ List.flatMap (fBytes (Int.toNat (1 : Int))) y20) fun (y23 : List Int) =>
lett (y23 ++ List.flatMap (fBytes (Int.toNat (2 : Int))) y22) fun (y24 : List Int) =>
lett (((List.replicate (2 : Nat) (0 : Int)).set (0 : Nat) y19.snd.snd.fst).set (1 : Nat) y19.snd.snd.snd.fst)
fun (y25 : List Int) =>
lett ((List.replicate (1 : Nat) (0 : Int)).set (0 : Nat) y19.snd.snd.snd.snd) fun (y26 : List Int) =>
s17 ≤ y12.snd.snd.length →
(y18 = true →
InB (↑s17 : Int) y12.snd.snd.length ∧
((0 : Int) ≤ (1 : Int) ∧
(1 : Int) ≤ (4 : Int) ∧ y20.length ≤ (1000000 : Nat) ∧ y21.length ≤ (1000000000 : Nat)) ∧
((0 : Int) ≤ (2 : Int) ∧
(2 : Int) ≤ (4 : Int) ∧ y22.length ≤ (1000000 : Nat) ∧ y23.length ≤ (1000000000 : Nat)) ∧
(∃ (s027 : Nat),
s027 ≤ y19.snd.fst.length ∧
(↑s027 : Int) = (0 : Int) ∧
l = l ∧
l = l ∧
(↑l.length : Int) = (↑l.length : Int) ∧
(↑s10 : Int) = (↑s10 : Int) ∧
y12.snd.snd = y12.snd.snd ∧
(↑y12.snd.snd.length : Int) = (↑y12.snd.snd.length : Int) ∧
(↑s17 : Int) = (↑s17 : Int) ∧
y19.snd.fst = y19.snd.fst ∧
(↑y19.snd.fst.length : Int) = (↑y19.snd.fst.length : Int) ∧
y24 ++ fPorts (List.take s027 y19.snd.fst) = y24 ∧
y19.fst = y19.fst ∧
y19.snd.fst = y19.snd.fst ∧
y19.snd.snd.fst = y19.snd.snd.fst ∧
y19.snd.snd.snd.fst = y19.snd.snd.snd.fst ∧
y19.snd.snd.snd.snd = y19.snd.snd.snd.snd ∧ True) ∧
∀ (s27 : Nat),
lett (decide ((↑s27 : Int) < (↑y19.snd.fst.length : Int))) fun (y28 : Bool) =>
lett (y19.snd.fst.getD (↑s27 : Int).toNat ((0 : Int), (0 : Int))) fun (y29 : Int × Int) =>
lett (((List.replicate (2 : Nat) (0 : Int)).set (0 : Nat) y29.fst).set (1 : Nat) y29.snd)
fun (y30 : List Int) =>
lett (y24 ++ fPorts (List.take s27 y19.snd.fst)) fun (y31 : List Int) =>
lett (y31 ++ List.flatMap (fBytes (Int.toNat (2 : Int))) y25) fun (y32 : List Int) =>
s27 ≤ y19.snd.fst.length →
(y28 = true →
InB (↑s27 : Int) y19.snd.fst.length ∧
((0 : Int) ≤ (1 : Int) ∧
(1 : Int) ≤ (4 : Int) ∧
y30.length ≤ (1000000 : Nat) ∧ y31.length ≤ (1000000000 : Nat)) ∧
InR IntKind.i64 ((↑s27 : Int) + (1 : Int)) ∧
∃ (s'33 : Nat),
s'33 ≤ y19.snd.fst.length ∧
y19.snd.fst.length - s'33 < y19.snd.fst.length - s27 ∧
(↑s'33 : Int) = (↑s27 : Int) + (1 : Int) ∧
l = l ∧
l = l ∧
(↑l.length : Int) = (↑l.length : Int) ∧
(↑s10 : Int) = (↑s10 : Int) ∧
y12.snd.snd = y12.snd.snd ∧
(↑y12.snd.snd.length : Int) = (↑y12.snd.snd.length : Int) ∧
(↑s17 : Int) = (↑s17 : Int) ∧
y19.snd.fst = y19.snd.fst ∧
(↑y19.snd.fst.length : Int) =
(↑y19.snd.fst.length : Int) ∧
y24 ++ fPorts (List.take s'33 y19.snd.fst) =
y31 ++
List.flatMap (fBytes (Int.toNat (1 : Int)))
y30 ∧
y19.fst = y19.fst ∧
y19.snd.fst = y19.snd.fst ∧
y19.snd.snd.fst = y19.snd.snd.fst ∧
y19.snd.snd.snd.fst = y19.snd.snd.snd.fst ∧
y19.snd.snd.snd.snd = y19.snd.snd.snd.snd ∧
True) ∧
(y28 = false →
((0 : Int) ≤ (2 : Int) ∧
(2 : Int) ≤ (4 : Int) ∧
y25.length ≤ (1000000 : Nat) ∧ y31.length ≤ (1000000000 : Nat)) ∧
((0 : Int) ≤ (1 : Int) ∧
(1 : Int) ≤ (4 : Int) ∧
y26.length ≤ (1000000 : Nat) ∧ y32.length ≤ (1000000000 : Nat)) ∧
InR IntKind.i64 ((↑s17 : Int) + (1 : Int)) ∧
∃ (s'33 : Nat),
s'33 ≤ y12.snd.snd.length ∧
y12.snd.snd.length - s'33 < y12.snd.snd.length - s17 ∧
(↑s'33 : Int) = (↑s17 : Int) + (1 : Int) ∧
l = l ∧
l = l ∧
(↑l.length : Int) = (↑l.length : Int) ∧
(↑s10 : Int) = (↑s10 : Int) ∧
y12.snd.snd = y12.snd.snd ∧
(↑y12.snd.snd.length : Int) = (↑y12.snd.snd.length : Int) ∧
y15 ++ List.flatMap fBodyLog (List.take s'33 y12.snd.snd) =
y32 ++ List.flatMap (fBytes (Int.toNat (1 : Int))) y26 ∧
True)) ∧
(y18 = false →
InR IntKind.i64 ((↑s10 : Int) + (1 : Int)) ∧
∃ (s'27 : Nat),
s'27 ≤ l.length ∧
l.length - s'27 < l.length - s10 ∧
(↑s'27 : Int) = (↑s10 : Int) + (1 : Int) ∧
l = l ∧
l = l ∧
(↑l.length : Int) = (↑l.length : Int) ∧
fHead l ++ List.flatMap fNoteLog (List.take s'27 l) = y21 ∧ True)) ∧
(y11 = false →
y13.length ≤ (1000000000 : Nat) ∧
((0 : Int) ≤ (4 : Int) ∧ (4 : Int) ≤ (4 : Int) ∧ y16.length ≤ (1000000 : Nat) ∧ y13.length ≤ (1000000000 : Nat)) ∧
y13 ++ List.flatMap (fBytes (Int.toNat (4 : Int))) y16 = fLog l ∧ True)))) := by kernel_rfl

theorem nil_of_len {α : Type} {l : List α} {y : Bool} (e : y = decide ((l.length : Int) > 0)) (h : y = false) : l = [] := by
  rw [e] at h
  have := of_decide_eq_false h
  exact List.eq_nil_of_length_eq_zero (by omega)

theorem pos_of_len {α : Type} {l : List α} {y : Bool} (e : y = decide ((l.length : Int) > 0)) (h : y = true) : 0 < l.length := by
  rw [e] at h
  have := of_decide_eq_true h
  omega

theorem take_all {α : Type} {l : List α} {s : Nat} {y : Bool} (hs : s ≤ l.length) (e : y = decide ((s : Int) < (l.length : Int))) (h : y = false) : l.take s = l :=
  List.take_of_length_le (le_of_y e h)

theorem le01 : ((0 : Int) ≤ 1) = True := by decide
theorem le02 : ((0 : Int) ≤ 2) = True := by decide
theorem le03 : ((0 : Int) ≤ 3) = True := by decide
theorem le04 : ((0 : Int) ≤ 4) = True := by decide
theorem le14 : ((1 : Int) ≤ 4) = True := by decide
theorem le24 : ((2 : Int) ≤ 4) = True := by decide
theorem le34 : ((3 : Int) ≤ 4) = True := by decide
theorem le44 : ((4 : Int) ≤ 4) = True := by decide
theorem tn1 : Int.toNat (1 : Int) = 1 := rfl
theorem tn2 : Int.toNat (2 : Int) = 2 := rfl
theorem tn3 : Int.toNat (3 : Int) = 3 := rfl
theorem tn4 : Int.toNat (4 : Int) = 4 := rfl

theorem b9 (l : List NoteD) (hp : shortL l) : bodyVC (ctxOf tab [(10, c10), (16, c16), (17, c17)] [] [] [16]) Try.f9 c9 (a9 (l, ())) (l, ()) := by
  rw [v9]
  refine lett.mk fun y1 e1 => lett.mk fun y2 e2 => lett.mk fun y3 e3 => lett.mk fun y4 e4 => lett.mk fun y5 e5 => lett.mk fun y6 e6 => lett.mk fun y7 e7 => lett.mk fun y8 e8 => lett.mk fun y9 e9 => ?_
  simp only [le01, le02, le04, le14, le24, le44, tn1, tn2, tn4, true_and, and_true, Int.toNat_natCast]
  refine ⟨hp, fun hm => ?_, fun hm => ?_⟩
  · simp only [Bool.not_eq_true'] at hm
    exact (log_none hm).symm
  simp only [Bool.not_eq_false'] at hm
  have hup := logUp_len hm
  obtain ⟨hlen, hok⟩ := may_facts hm
  have e4 : y4 = [83, 69, 77] := e4
  have e3 : y3 = [(y2.1.length : Int), (y2.2.1.length : Int), (y2.2.2.length : Int)] := e3
  have e5 : y5 = [(l.length : Int)] := e5
  have e8 : y8 = [0, 0, 0] := e8
  have e2 : y2 = l.getD 0 zeroN := e2
  have e6 : y6 = y4 ++ List.flatMap (fBytes 1) y3 := e6
  have e9 : y9 = y4 ++ List.flatMap (fBytes 1) y8 := e9
  have l6 : y6.length ≤ 1000000000 := by rw [e6, e4, e3]; simp [bytes_len]
  have l9 : y9.length ≤ 1000000000 := by rw [e9, e4, e8]; simp [bytes_len]
  have l5 : y5.length ≤ 1000000 := by rw [e5]; simp
  refine ⟨fun h1 => ?_, fun h1 => ?_⟩
  · have hl0 := pos_of_len e1 h1
    have hh : fHead l = y6 ++ List.flatMap (fBytes 2) y5 := by
      rw [e6, e5, e4, e3, e2]
      unfold fHead
      simp
    refine ⟨⟨by omega, by omega⟩, ⟨by omega, by omega⟩, ⟨by omega, by omega⟩, ⟨by rw [e3]; simp, by rw [e4]; simp⟩, ⟨l5, l6⟩, ⟨0, by omega, rfl, by rw [← hh]; simp⟩, fun s => lett.mk fun y11 e11 => lett.mk fun y12 e12 => lett.mk fun y13 e13 => lett.mk fun y14 e14 => lett.mk fun y15 e15 => lett.mk fun y16 e16 => ?_⟩
    have l13 : y13.length ≤ 161000000 := by rw [e13]; exact hup s
    intro hs
    refine ⟨fun h11 => ?_, fun h11 => ?_⟩
    · have hlt := lt_of_y e11 h11
      have e12 : y12 = l.getD s zeroN := e12
      obtain ⟨_, ⟨q1, q2, q3⟩, _, _, q4⟩ := hok y12 (by rw [e12]; exact mem_getD _ hlt)
      have l14 : y14.length ≤ 162000000 := by rw [e14, List.length_append, flat_len]; omega
      have l15 : y15.length ≤ 163000000 := by rw [e15, List.length_append, flat_len]; omega
      refine ⟨⟨by omega, by omega⟩, ⟨by omega, by omega⟩, ⟨by omega, by omega⟩, ⟨0, by omega, rfl, by simp⟩, fun t => lett.mk fun y18 e18 => lett.mk fun y19 e19 => lett.mk fun y20 e20 => lett.mk fun y21 e21 => lett.mk fun y22 e22 => lett.mk fun y23 e23 => lett.mk fun y24 e24 => lett.mk fun y25 e25 => lett.mk fun y26 e26 => ?_⟩
      intro ht
      have l21 : y21.length ≤ 164000000 := by
        have hb := flatMap_len fBodyLog 10008 (y12.2.2.take t) fun b hb => by rw [bodyLog_len]; have := (q4 b (List.mem_of_mem_take hb)).1; omega
        have : (y12.2.2.take t).length * 10008 ≤ 8 * 10008 := Nat.mul_le_mul_right _ (by rw [List.length_take]; omega)
        rw [e21, List.length_append]
        omega
      refine ⟨fun h18 => ?_, fun h18 => ?_⟩
      · have htl := lt_of_y e18 h18
        have hq := q4 y19 (by rw [e19]; exact mem_getD _ htl)
        have q5 := hq.1
        have e20 : y20 = [y19.1] := e20
        have e22 : y22 = [(y19.2.1.length : Int)] := e22
        have e25 : y25 = [y19.2.2.1, y19.2.2.2.1] := e25
        have e26 : y26 = [y19.2.2.2.2] := e26
        have l23 : y23.length ≤ 164000010 := by rw [e23, e20, List.length_append, flat_len]; simp; omega
        have l24 : y24.length ≤ 164000020 := by rw [e24, e22, List.length_append, flat_len]; simp; omega
        refine ⟨⟨by omega, by omega⟩, ⟨by rw [e20]; simp, by omega⟩, ⟨by rw [e22]; simp, by omega⟩, ⟨0, by omega, rfl, by simp [ports_nil]⟩, fun u => lett.mk fun y28 e28 => lett.mk fun y29 e29 => lett.mk fun y30 e30 => lett.mk fun y31 e31 => lett.mk fun y32 e32 => ?_⟩
        intro hu
        have e30 : y30 = [y29.1, y29.2] := e30
        have l31 : y31.length ≤ 165000000 := by rw [e31, List.length_append, ports_len, List.length_take]; omega
        have l32 : y32.length ≤ 165000010 := by rw [e32, e25, List.length_append, flat_len]; simp; omega
        refine ⟨fun h28 => ?_, fun h28 => ?_⟩
        · have hul := lt_of_y e28 h28
          refine ⟨⟨by omega, by omega⟩, ⟨by rw [e30]; simp, by omega⟩, inRB (by omega) (by omega), u + 1, by omega, by omega, by omega, ?_⟩
          rw [ports_succ ((0 : Int), (0 : Int)) hul, ← e29, ← List.append_assoc, ← e31, e30]
          simp
        · have hall := take_all hu e28 h28
          refine ⟨⟨by rw [e25]; simp, by omega⟩, ⟨by rw [e26]; simp, by omega⟩, inRB (by omega) (by omega), t + 1, by omega, by omega, by omega, ?_⟩
          rw [flat_succ fBodyLog y7 htl, ← List.append_assoc, ← e21, ← e19, e32, e31, hall, e24, e23, e20, e22, e25, e26]
          unfold fBodyLog
          simp [List.append_assoc]
      · have hall := take_all ht e18 h18
        refine ⟨inRB (by omega) (by omega), s + 1, by omega, by omega, by omega, ?_⟩
        rw [flat_succ fNoteLog zeroN hlt, ← List.append_assoc, ← e13, ← e12, e21, hall, e15, e14]
        unfold fNoteLog
        simp [List.append_assoc]
    · have hall := take_all hs e11 h11
      have e16 : y16 = [fSum y13] := e16
      have hb : y13 = fLogBody l := by
        rw [e13, hall]
        unfold fLogBody
        rfl
      refine ⟨by omega, ⟨by rw [e16]; simp, by omega⟩, ?_⟩
      rw [log_eq hm, e16, hb]
      simp
  · have hl0 := nil_of_len e1 h1
    subst hl0
    have hh : fHead [] = y9 ++ List.flatMap (fBytes 2) y5 := by
      rw [head_nil, e9, e5, e4, e8]
      simp [one_byte, two_bytes, fTwo]
    refine ⟨⟨by rw [e8]; simp, by rw [e4]; simp⟩, ⟨l5, l9⟩, ⟨0, by omega, rfl, by rw [← hh]; simp⟩, fun s => lett.mk fun y11 e11 => lett.mk fun y12 e12 => lett.mk fun y13 e13 => lett.mk fun y14 e14 => lett.mk fun y15 e15 => lett.mk fun y16 e16 => ?_⟩
    intro hs
    have hs : s ≤ 0 := hs
    refine ⟨fun h11 => ?_, fun h11 => ?_⟩
    · have hlt : s < 0 := lt_of_y e11 h11
      omega
    · have l13 : y13.length ≤ 161000000 := by rw [e13]; exact hup s
      have e16 : y16 = [fSum y13] := e16
      have hb : y13 = fLogBody [] := by
        rw [e13]
        unfold fLogBody
        simp
      refine ⟨by omega, ⟨by rw [e16]; simp, by omega⟩, ?_⟩
      rw [log_eq hm, e16, hb]
      simp

theorem ok9 : DOk Try.prog 9 c9 :=
  DOk.of' (l := [(10, c10), (16, c16), (17, c17)]) (mclos := [16]) (A := a9) tabOk ⟨ok10, ok16, ok17, trivial⟩ Try.func9 (by kernel_rfl) (by kernel_rfl) fun x _ hp => b9 x.1 hp

theorem v12 (l : List (List Int × List Int × List (Int × List (Int × Int) × Int × Int × Int))) : bodyVC (ctxOf tab [(11, c11), (24, c24), (25, c25)]) Try.f12 c12 (a12 (l, ())) (l, ()) = (
lett (decide ((↑l.length : Int) > (0 : Int))) fun (y1 : Bool) =>
lett ((((List.replicate (6 : Nat) (0 : Int)).set (0 : Nat) (83 : Int)).set (1 : Nat) (69 : Int)).set (2 : Nat) (77 : Int)) fun (y2 : List Int) =>
lett (l.getD (Int.toNat (0 : Int)) ([], [], [])) fun (y3 : List Int × List Int × List (Int × List (Int × Int) × Int × Int × Int)) =>
lett (((y2.set (3 : Nat) (IntKind.u8.wrap (↑y3.fst.length : Int))).set (4 : Nat) (IntKind.u8.wrap (↑y3.snd.fst.length : Int))).set (5 : Nat) (IntKind.u8.wrap (↑y3.snd.snd.length : Int)))
fun (y4 : List Int) =>
lett ((0 : Int), [], (0 : Int), (0 : Int), (0 : Int)) fun (y5 : Int × List (Int × Int) × Int × Int × Int) =>
lett (((y2.set (3 : Nat) (0 : Int)).set (4 : Nat) (0 : Int)).set (5 : Nat) (0 : Int)) fun (y6 : List Int) =>
shortL l ∧
((!fMay l) = true → [] = fLog l ∧ True) ∧
((!fMay l) = false →
(y1 = true →
InB (0 : Int) l.length ∧
InB (0 : Int) l.length ∧
InB (0 : Int) l.length ∧
(y4.length ≤ (1000000000 : Nat) ∧ (0 : Int) ≤ (↑l.length : Int)) ∧
(∃ (s07 : Nat),
s07 ≤ l.length ∧
(↑s07 : Int) = (0 : Int) ∧
l = l ∧ l = l ∧ (↑l.length : Int) = (↑l.length : Int) ∧ fHead l ++ List.flatMap fNoteLog (List.take s07 l) = y4 ++ fTwo (↑l.length : Int) ∧ True) ∧
∀ (s7 : Nat),
lett (decide ((↑s7 : Int) < (↑l.length : Int))) fun (y8 : Bool) =>
lett (l.getD (↑s7 : Int).toNat ([], [], [])) fun (y9 : List Int × List Int × List (Int × List (Int × Int) × Int × Int × Int)) =>
lett (fHead l ++ List.flatMap fNoteLog (List.take s7 l)) fun (y10 : List Int) =>
s7 ≤ l.length →
(y8 = true →
InB (↑s7 : Int) l.length ∧
(∃ (s011 : Nat),
s011 ≤ y9.fst.length ∧
(↑s011 : Int) = (0 : Int) ∧
l = l ∧
l = l ∧
(↑l.length : Int) = (↑l.length : Int) ∧
(↑s7 : Int) = (↑s7 : Int) ∧
y9.fst = y9.fst ∧
(↑y9.fst.length : Int) = (↑y9.fst.length : Int) ∧
y10 ++ List.flatMap (fBytes (1 : Nat)) (List.take s011 y9.fst) = y10 ∧
y9.fst = y9.fst ∧ y9.snd.fst = y9.snd.fst ∧ y9.snd.snd = y9.snd.snd ∧ True) ∧
∀ (s11 : Nat),
lett (decide ((↑s11 : Int) < (↑y9.fst.length : Int))) fun (y12 : Bool) =>
lett (y10 ++ List.flatMap (fBytes (1 : Nat)) (List.take s11 y9.fst)) fun (y13 : List Int) =>
lett ((List.replicate (1 : Nat) (0 : Int)).set (0 : Nat) (IntKind.u8.wrap (y9.fst.getD (↑s11 : Int).toNat (0 : Int)))) fun (y14 : List Int) =>
s11 ≤ y9.fst.length →
(y12 = true →
InB (↑s11 : Int) y9.fst.length ∧
roomFor (y13.length + y14.length) (1 : Nat) ∧
InR IntKind.i64 ((↑s11 : Int) + (1 : Int)) ∧
∃ (s'15 : Nat),
s'15 ≤ y9.fst.length ∧
y9.fst.length - s'15 < y9.fst.length - s11 ∧
(↑s'15 : Int) = (↑s11 : Int) + (1 : Int) ∧
l = l ∧
l = l ∧
(↑l.length : Int) = (↑l.length : Int) ∧
(↑s7 : Int) = (↑s7 : Int) ∧
y9.fst = y9.fst ∧
(↑y9.fst.length : Int) = (↑y9.fst.length : Int) ∧
y10 ++ List.flatMap (fBytes (1 : Nat)) (List.take s'15 y9.fst) = y13 ++ y14 ∧
y9.fst = y9.fst ∧ y9.snd.fst = y9.snd.fst ∧ y9.snd.snd = y9.snd.snd ∧ True) ∧
(y12 = false →
(∃ (s015 : Nat),
s015 ≤ y9.snd.fst.length ∧
(↑s015 : Int) = (0 : Int) ∧
l = l ∧
l = l ∧
(↑l.length : Int) = (↑l.length : Int) ∧
(↑s7 : Int) = (↑s7 : Int) ∧
y9.snd.fst = y9.snd.fst ∧
(↑y9.snd.fst.length : Int) = (↑y9.snd.fst.length : Int) ∧
y13 ++ List.flatMap (fBytes (1 : Nat)) (List.take s015 y9.snd.fst) = y13 ∧
y9.fst = y9.fst ∧ y9.snd.fst = y9.snd.fst ∧ y9.snd.snd = y9.snd.snd ∧ True) ∧
∀ (s15 : Nat),
lett (decide ((↑s15 : Int) < (↑y9.snd.fst.length : Int))) fun (y16 : Bool) =>
lett (y13 ++ List.flatMap (fBytes (1 : Nat)) (List.take s15 y9.snd.fst)) fun (y17 : List Int) =>
lett ((List.replicate (1 : Nat) (0 : Int)).set (0 : Nat) (IntKind.u8.wrap (y9.snd.fst.getD (↑s15 : Int).toNat (0 : Int))))
fun (y18 : List Int) =>
s15 ≤ y9.snd.fst.length →
(y16 = true →
InB (↑s15 : Int) y9.snd.fst.length ∧
roomFor (y17.length + y18.length) (1 : Nat) ∧
InR IntKind.i64 ((↑s15 : Int) + (1 : Int)) ∧
∃ (s'19 : Nat),
s'19 ≤ y9.snd.fst.length ∧
y9.snd.fst.length - s'19 < y9.snd.fst.length - s15 ∧
(↑s'19 : Int) = (↑s15 : Int) + (1 : Int) ∧
l = l ∧
l = l ∧
(↑l.length : Int) = (↑l.length : Int) ∧
(↑s7 : Int) = (↑s7 : Int) ∧
y9.snd.fst = y9.snd.fst ∧
(↑y9.snd.fst.length : Int) = (↑y9.snd.fst.length : Int) ∧
y13 ++ List.flatMap (fBytes (1 : Nat)) (List.take s'19 y9.snd.fst) = y17 ++ y18 ∧
y9.fst = y9.fst ∧ y9.snd.fst = y9.snd.fst ∧ y9.snd.snd = y9.snd.snd ∧ True) ∧
(y16 = false →
(∃ (s019 : Nat),
s019 ≤ y9.snd.snd.length ∧
(↑s019 : Int) = (0 : Int) ∧
l = l ∧
l = l ∧
(↑l.length : Int) = (↑l.length : Int) ∧
(↑s7 : Int) = (↑s7 : Int) ∧
y9.snd.snd = y9.snd.snd ∧
(↑y9.snd.snd.length : Int) = (↑y9.snd.snd.length : Int) ∧
y17 ++ List.flatMap fBodyLog (List.take s019 y9.snd.snd) = y17 ∧ True) ∧
∀ (s19 : Nat),
lett (decide ((↑s19 : Int) < (↑y9.snd.snd.length : Int))) fun (y20 : Bool) =>
lett (y17 ++ List.flatMap fBodyLog (List.take s19 y9.snd.snd)) fun (y21 : List Int) =>
lett (y9.snd.snd.getD (↑s19 : Int).toNat y5) fun (y22 : Int × List (Int × Int) × Int × Int × Int) =>
lett ((List.replicate (1 : Nat) (0 : Int)).set (0 : Nat) (IntKind.u8.wrap y22.fst)) fun (y23 : List Int) =>
lett (y21 ++ y23 ++ fTwo (↑y22.snd.fst.length : Int)) fun (y24 : List Int) =>
lett (fTwo y22.snd.snd.snd.fst) fun (y25 : List Int) =>
lett ((List.replicate (1 : Nat) (0 : Int)).set (0 : Nat) (IntKind.u8.wrap y22.snd.snd.snd.snd))
fun (y26 : List Int) =>
s19 ≤ y9.snd.snd.length →
(y20 = true →
InB (↑s19 : Int) y9.snd.snd.length ∧
roomFor (y21.length + y23.length) (1 : Nat) ∧
((y21 ++ y23).length ≤ (1000000000 : Nat) ∧ (0 : Int) ≤ (↑y22.snd.fst.length : Int)) ∧
(∃ (s027 : Nat),
s027 ≤ y22.snd.fst.length ∧
(↑s027 : Int) = (0 : Int) ∧
l = l ∧
l = l ∧
(↑l.length : Int) = (↑l.length : Int) ∧
(↑s7 : Int) = (↑s7 : Int) ∧
y9.snd.snd = y9.snd.snd ∧
(↑y9.snd.snd.length : Int) = (↑y9.snd.snd.length : Int) ∧
(↑s19 : Int) = (↑s19 : Int) ∧
y22.snd.fst = y22.snd.fst ∧
(↑y22.snd.fst.length : Int) = (↑y22.snd.fst.length : Int) ∧
y24 ++ fPorts (List.take s027 y22.snd.fst) = y24 ∧
y22.fst = y22.fst ∧
y22.snd.fst = y22.snd.fst ∧
y22.snd.snd.fst = y22.snd.snd.fst ∧
y22.snd.snd.snd.fst = y22.snd.snd.snd.fst ∧
y22.snd.snd.snd.snd = y22.snd.snd.snd.snd ∧ True) ∧
∀ (s27 : Nat),
lett (decide ((↑s27 : Int) < (↑y22.snd.fst.length : Int))) fun (y28 : Bool) =>
lett (y24 ++ fPorts (List.take s27 y22.snd.fst)) fun (y29 : List Int) =>
lett (y22.snd.fst.getD (↑s27 : Int).toNat ((0 : Int), (0 : Int)))
fun (y30 : Int × Int) =>
lett
(((List.replicate (2 : Nat) (0 : Int)).set (0 : Nat)
(IntKind.u8.wrap y30.fst)).set
(1 : Nat) (IntKind.u8.wrap y30.snd))
fun (y31 : List Int) =>
lett (y29 ++ fTwo y22.snd.snd.fst) fun (y32 : List Int) =>
s27 ≤ y22.snd.fst.length →
(y28 = true →
InB (↑s27 : Int) y22.snd.fst.length ∧
roomFor (y29.length + y31.length) (1 : Nat) ∧
InR IntKind.i64 ((↑s27 : Int) + (1 : Int)) ∧
∃ (s'33 : Nat),
s'33 ≤ y22.snd.fst.length ∧
y22.snd.fst.length - s'33 < y22.snd.fst.length - s27 ∧
(↑s'33 : Int) = (↑s27 : Int) + (1 : Int) ∧
l = l ∧
l = l ∧
(↑l.length : Int) = (↑l.length : Int) ∧
(↑s7 : Int) = (↑s7 : Int) ∧
y9.snd.snd = y9.snd.snd ∧
(↑y9.snd.snd.length : Int) =
(↑y9.snd.snd.length : Int) ∧
(↑s19 : Int) = (↑s19 : Int) ∧
y22.snd.fst = y22.snd.fst ∧
(↑y22.snd.fst.length : Int) =
(↑y22.snd.fst.length : Int) ∧
y24 ++
fPorts
(List.take s'33 y22.snd.fst) =
y29 ++ y31 ∧
y22.fst = y22.fst ∧
y22.snd.fst = y22.snd.fst ∧
y22.snd.snd.fst =
y22.snd.snd.fst ∧
y22.snd.snd.snd.fst =
y22.snd.snd.snd.fst ∧
y22.snd.snd.snd.snd =
y22.snd.snd.snd.snd ∧
True) ∧
(y28 = false →
(y29.length ≤ (1000000000 : Nat) ∧ (0 : Int) ≤ y22.snd.snd.fst) ∧
(y32.length ≤ (1000000000 : Nat) ∧
(0 : Int) ≤ y22.snd.snd.snd.fst) ∧
roomFor ((y32 ++ y25).length + y26.length) (1 : Nat) ∧
InR IntKind.i64 ((↑s19 : Int) + (1 : Int)) ∧
∃ (s'33 : Nat),
s'33 ≤ y9.snd.snd.length ∧
y9.snd.snd.length - s'33 < y9.snd.snd.length - s19 ∧
(↑s'33 : Int) = (↑s19 : Int) + (1 : Int) ∧
l = l ∧
l = l ∧
(↑l.length : Int) = (↑l.length : Int) ∧
(↑s7 : Int) = (↑s7 : Int) ∧
y9.snd.snd = y9.snd.snd ∧
(↑y9.snd.snd.length : Int) =
(↑y9.snd.snd.length : Int) ∧
y17 ++
List.flatMap fBodyLog
(List.take s'33 y9.snd.snd) =
y32 ++ y25 ++ y26 ∧
True)) ∧
(y20 = false →
InR IntKind.i64 ((↑s7 : Int) + (1 : Int)) ∧
∃ (s'27 : Nat),
s'27 ≤ l.length ∧
l.length - s'27 < l.length - s7 ∧
(↑s'27 : Int) = (↑s7 : Int) + (1 : Int) ∧
l = l ∧
l = l ∧
(↑l.length : Int) = (↑l.length : Int) ∧
fHead l ++ List.flatMap fNoteLog (List.take s'27 l) = y21 ∧ True)))) ∧
(y8 = false → y10.length ≤ (1000000000 : Nat) ∧ y10 ++ fFour (fSum y10) = fLog l ∧ True)) ∧
(y1 = false →
(y6.length ≤ (1000000000 : Nat) ∧ (0 : Int) ≤ (↑l.length : Int)) ∧
(∃ (s07 : Nat),
s07 ≤ l.length ∧
(↑s07 : Int) = (0 : Int) ∧
l = l ∧ l = l ∧ (↑l.length : Int) = (↑l.length : Int) ∧ fHead l ++ List.flatMap fNoteLog (List.take s07 l) = y6 ++ fTwo (↑l.length : Int) ∧ True) ∧
∀ (s7 : Nat),
lett (decide ((↑s7 : Int) < (↑l.length : Int))) fun (y8 : Bool) =>
lett (l.getD (↑s7 : Int).toNat ([], [], [])) fun (y9 : List Int × List Int × List (Int × List (Int × Int) × Int × Int × Int)) =>
lett (fHead l ++ List.flatMap fNoteLog (List.take s7 l)) fun (y10 : List Int) =>
s7 ≤ l.length →
(y8 = true →
InB (↑s7 : Int) l.length ∧
(∃ (s011 : Nat),
s011 ≤ y9.fst.length ∧
(↑s011 : Int) = (0 : Int) ∧
l = l ∧
l = l ∧
(↑l.length : Int) = (↑l.length : Int) ∧
(↑s7 : Int) = (↑s7 : Int) ∧
y9.fst = y9.fst ∧
(↑y9.fst.length : Int) = (↑y9.fst.length : Int) ∧
y10 ++ List.flatMap (fBytes (1 : Nat)) (List.take s011 y9.fst) = y10 ∧
y9.fst = y9.fst ∧ y9.snd.fst = y9.snd.fst ∧ y9.snd.snd = y9.snd.snd ∧ True) ∧
∀ (s11 : Nat),
lett (decide ((↑s11 : Int) < (↑y9.fst.length : Int))) fun (y12 : Bool) =>
lett (y10 ++ List.flatMap (fBytes (1 : Nat)) (List.take s11 y9.fst)) fun (y13 : List Int) =>
lett ((List.replicate (1 : Nat) (0 : Int)).set (0 : Nat) (IntKind.u8.wrap (y9.fst.getD (↑s11 : Int).toNat (0 : Int)))) fun (y14 : List Int) =>
s11 ≤ y9.fst.length →
(y12 = true →
InB (↑s11 : Int) y9.fst.length ∧
roomFor (y13.length + y14.length) (1 : Nat) ∧
InR IntKind.i64 ((↑s11 : Int) + (1 : Int)) ∧
∃ (s'15 : Nat),
s'15 ≤ y9.fst.length ∧
y9.fst.length - s'15 < y9.fst.length - s11 ∧
(↑s'15 : Int) = (↑s11 : Int) + (1 : Int) ∧
l = l ∧
l = l ∧
(↑l.length : Int) = (↑l.length : Int) ∧
(↑s7 : Int) = (↑s7 : Int) ∧
y9.fst = y9.fst ∧
(↑y9.fst.length : Int) = (↑y9.fst.length : Int) ∧
y10 ++ List.flatMap (fBytes (1 : Nat)) (List.take s'15 y9.fst) = y13 ++ y14 ∧
y9.fst = y9.fst ∧ y9.snd.fst = y9.snd.fst ∧ y9.snd.snd = y9.snd.snd ∧ True) ∧
(y12 = false →
(∃ (s015 : Nat),
s015 ≤ y9.snd.fst.length ∧
(↑s015 : Int) = (0 : Int) ∧
l = l ∧
l = l ∧
(↑l.length : Int) = (↑l.length : Int) ∧
(↑s7 : Int) = (↑s7 : Int) ∧
y9.snd.fst = y9.snd.fst ∧
(↑y9.snd.fst.length : Int) = (↑y9.snd.fst.length : Int) ∧
y13 ++ List.flatMap (fBytes (1 : Nat)) (List.take s015 y9.snd.fst) = y13 ∧
y9.fst = y9.fst ∧ y9.snd.fst = y9.snd.fst ∧ y9.snd.snd = y9.snd.snd ∧ True) ∧
∀ (s15 : Nat),
lett (decide ((↑s15 : Int) < (↑y9.snd.fst.length : Int))) fun (y16 : Bool) =>
lett (y13 ++ List.flatMap (fBytes (1 : Nat)) (List.take s15 y9.snd.fst)) fun (y17 : List Int) =>
lett ((List.replicate (1 : Nat) (0 : Int)).set (0 : Nat) (IntKind.u8.wrap (y9.snd.fst.getD (↑s15 : Int).toNat (0 : Int))))
fun (y18 : List Int) =>
s15 ≤ y9.snd.fst.length →
(y16 = true →
InB (↑s15 : Int) y9.snd.fst.length ∧
roomFor (y17.length + y18.length) (1 : Nat) ∧
InR IntKind.i64 ((↑s15 : Int) + (1 : Int)) ∧
∃ (s'19 : Nat),
s'19 ≤ y9.snd.fst.length ∧
y9.snd.fst.length - s'19 < y9.snd.fst.length - s15 ∧
(↑s'19 : Int) = (↑s15 : Int) + (1 : Int) ∧
l = l ∧
l = l ∧
(↑l.length : Int) = (↑l.length : Int) ∧
(↑s7 : Int) = (↑s7 : Int) ∧
y9.snd.fst = y9.snd.fst ∧
(↑y9.snd.fst.length : Int) = (↑y9.snd.fst.length : Int) ∧
y13 ++ List.flatMap (fBytes (1 : Nat)) (List.take s'19 y9.snd.fst) = y17 ++ y18 ∧
y9.fst = y9.fst ∧ y9.snd.fst = y9.snd.fst ∧ y9.snd.snd = y9.snd.snd ∧ True) ∧
(y16 = false →
(∃ (s019 : Nat),
s019 ≤ y9.snd.snd.length ∧
(↑s019 : Int) = (0 : Int) ∧
l = l ∧
l = l ∧
(↑l.length : Int) = (↑l.length : Int) ∧
(↑s7 : Int) = (↑s7 : Int) ∧
y9.snd.snd = y9.snd.snd ∧
(↑y9.snd.snd.length : Int) = (↑y9.snd.snd.length : Int) ∧
y17 ++ List.flatMap fBodyLog (List.take s019 y9.snd.snd) = y17 ∧ True) ∧
∀ (s19 : Nat),
lett (decide ((↑s19 : Int) < (↑y9.snd.snd.length : Int))) fun (y20 : Bool) =>
lett (y17 ++ List.flatMap fBodyLog (List.take s19 y9.snd.snd)) fun (y21 : List Int) =>
lett (y9.snd.snd.getD (↑s19 : Int).toNat y5) fun (y22 : Int × List (Int × Int) × Int × Int × Int) =>
lett ((List.replicate (1 : Nat) (0 : Int)).set (0 : Nat) (IntKind.u8.wrap y22.fst)) fun (y23 : List Int) =>
lett (y21 ++ y23 ++ fTwo (↑y22.snd.fst.length : Int)) fun (y24 : List Int) =>
lett (fTwo y22.snd.snd.snd.fst) fun (y25 : List Int) =>
lett ((List.replicate (1 : Nat) (0 : Int)).set (0 : Nat) (IntKind.u8.wrap y22.snd.snd.snd.snd))
fun (y26 : List Int) =>
s19 ≤ y9.snd.snd.length →
(y20 = true →
InB (↑s19 : Int) y9.snd.snd.length ∧
roomFor (y21.length + y23.length) (1 : Nat) ∧
((y21 ++ y23).length ≤ (1000000000 : Nat) ∧ (0 : Int) ≤ (↑y22.snd.fst.length : Int)) ∧
(∃ (s027 : Nat),
s027 ≤ y22.snd.fst.length ∧
(↑s027 : Int) = (0 : Int) ∧
l = l ∧
l = l ∧
(↑l.length : Int) = (↑l.length : Int) ∧
(↑s7 : Int) = (↑s7 : Int) ∧
y9.snd.snd = y9.snd.snd ∧
(↑y9.snd.snd.length : Int) = (↑y9.snd.snd.length : Int) ∧
(↑s19 : Int) = (↑s19 : Int) ∧
y22.snd.fst = y22.snd.fst ∧
(↑y22.snd.fst.length : Int) = (↑y22.snd.fst.length : Int) ∧
y24 ++ fPorts (List.take s027 y22.snd.fst) = y24 ∧
y22.fst = y22.fst ∧
y22.snd.fst = y22.snd.fst ∧
y22.snd.snd.fst = y22.snd.snd.fst ∧
y22.snd.snd.snd.fst = y22.snd.snd.snd.fst ∧
y22.snd.snd.snd.snd = y22.snd.snd.snd.snd ∧ True) ∧
∀ (s27 : Nat),
lett (decide ((↑s27 : Int) < (↑y22.snd.fst.length : Int))) fun (y28 : Bool) =>
lett (y24 ++ fPorts (List.take s27 y22.snd.fst)) fun (y29 : List Int) =>
lett (y22.snd.fst.getD (↑s27 : Int).toNat ((0 : Int), (0 : Int)))
fun (y30 : Int × Int) =>
lett
(((List.replicate (2 : Nat) (0 : Int)).set (0 : Nat) (IntKind.u8.wrap y30.fst)).set
(1 : Nat) (IntKind.u8.wrap y30.snd))
fun (y31 : List Int) =>
lett (y29 ++ fTwo y22.snd.snd.fst) fun (y32 : List Int) =>
s27 ≤ y22.snd.fst.length →
(y28 = true →
InB (↑s27 : Int) y22.snd.fst.length ∧
roomFor (y29.length + y31.length) (1 : Nat) ∧
InR IntKind.i64 ((↑s27 : Int) + (1 : Int)) ∧
∃ (s'33 : Nat),
s'33 ≤ y22.snd.fst.length ∧
y22.snd.fst.length - s'33 < y22.snd.fst.length - s27 ∧
(↑s'33 : Int) = (↑s27 : Int) + (1 : Int) ∧
l = l ∧
l = l ∧
(↑l.length : Int) = (↑l.length : Int) ∧
(↑s7 : Int) = (↑s7 : Int) ∧
y9.snd.snd = y9.snd.snd ∧
(↑y9.snd.snd.length : Int) =
(↑y9.snd.snd.length : Int) ∧
(↑s19 : Int) = (↑s19 : Int) ∧
y22.snd.fst = y22.snd.fst ∧
(↑y22.snd.fst.length : Int) =
(↑y22.snd.fst.length : Int) ∧
y24 ++ fPorts (List.take s'33 y22.snd.fst) =
y29 ++ y31 ∧
y22.fst = y22.fst ∧
y22.snd.fst = y22.snd.fst ∧
y22.snd.snd.fst = y22.snd.snd.fst ∧
y22.snd.snd.snd.fst =
y22.snd.snd.snd.fst ∧
y22.snd.snd.snd.snd =
y22.snd.snd.snd.snd ∧
True) ∧
(y28 = false →
(y29.length ≤ (1000000000 : Nat) ∧ (0 : Int) ≤ y22.snd.snd.fst) ∧
(y32.length ≤ (1000000000 : Nat) ∧ (0 : Int) ≤ y22.snd.snd.snd.fst) ∧
roomFor ((y32 ++ y25).length + y26.length) (1 : Nat) ∧
InR IntKind.i64 ((↑s19 : Int) + (1 : Int)) ∧
∃ (s'33 : Nat),
s'33 ≤ y9.snd.snd.length ∧
y9.snd.snd.length - s'33 < y9.snd.snd.length - s19 ∧
(↑s'33 : Int) = (↑s19 : Int) + (1 : Int) ∧
l = l ∧
l = l ∧
(↑l.length : Int) = (↑l.length : Int) ∧
(↑s7 : Int) = (↑s7 : Int) ∧
y9.snd.snd = y9.snd.snd ∧
(↑y9.snd.snd.length : Int) =
(↑y9.snd.snd.length : Int) ∧
y17 ++
List.flatMap fBodyLog
(List.take s'33 y9.snd.snd) =
y32 ++ y25 ++ y26 ∧
True)) ∧
(y20 = false →
InR IntKind.i64 ((↑s7 : Int) + (1 : Int)) ∧
∃ (s'27 : Nat),
s'27 ≤ l.length ∧
l.length - s'27 < l.length - s7 ∧
(↑s'27 : Int) = (↑s7 : Int) + (1 : Int) ∧
l = l ∧
l = l ∧
(↑l.length : Int) = (↑l.length : Int) ∧
fHead l ++ List.flatMap fNoteLog (List.take s'27 l) = y21 ∧ True)))) ∧
(y8 = false → y10.length ≤ (1000000000 : Nat) ∧ y10 ++ fFour (fSum y10) = fLog l ∧ True)))) := by kernel_rfl

theorem wrap_byte (n : Int) : (List.replicate (1 : Nat) (0 : Int)).set (0 : Nat) (IntKind.u8.wrap n) = fBytes 1 n := by
  rw [IntKind.wrap_u8, one_byte]
  rfl

theorem b12 (l : List NoteD) (hp : shortL l) : bodyVC (ctxOf tab [(11, c11), (24, c24), (25, c25)]) Try.f12 c12 (a12 (l, ())) (l, ()) := by
  rw [v12]
  refine lett.mk fun y1 e1 => lett.mk fun y2 e2 => lett.mk fun y3 e3 => lett.mk fun y4 e4 => lett.mk fun y5 e5 => lett.mk fun y6 e6 => ?_
  simp only [true_and, and_true, Int.toNat_natCast]
  refine ⟨hp, fun hm => ?_, fun hm => ?_⟩
  · simp only [Bool.not_eq_true'] at hm
    exact (log_none hm).symm
  simp only [Bool.not_eq_false'] at hm
  have hup := logUp_len hm
  obtain ⟨hlen, hok⟩ := may_facts hm
  have e4 : y4 = [83, 69, 77, IntKind.u8.wrap (y3.1.length : Int), IntKind.u8.wrap (y3.2.1.length : Int), IntKind.u8.wrap (y3.2.2.length : Int)] := by rw [e4, e2]; rfl
  have e6 : y6 = [83, 69, 77, 0, 0, 0] := by rw [e6, e2]; rfl
  have e3 : y3 = l.getD 0 zeroN := e3
  have room : ∀ {n : Nat}, n ≤ 1000000000 → roomFor n 1 := fun h => roomB (by omega) (by omega)
  refine ⟨fun h1 => ?_, fun h1 => ?_⟩
  · have hl0 := pos_of_len e1 h1
    have hh : fHead l = y4 ++ fTwo (l.length : Int) := by
      rw [e4, e3]
      unfold fHead
      simp [one_byte, two_bytes, IntKind.wrap_u8]
    refine ⟨⟨by omega, by omega⟩, ⟨by omega, by omega⟩, ⟨by omega, by omega⟩, ⟨by rw [e4]; simp, by omega⟩, ⟨0, by omega, rfl, by rw [← hh]; simp⟩, fun s => lett.mk fun y8 e8 => lett.mk fun y9 e9 => lett.mk fun y10 e10 => ?_⟩
    have l10 : y10.length ≤ 161000000 := by rw [e10]; exact hup s
    intro hs
    refine ⟨fun h8 => ?_, fun h8 => ?_⟩
    · have hlt := lt_of_y e8 h8
      have e9 : y9 = l.getD s zeroN := e9
      obtain ⟨_, ⟨q1, q2, q3⟩, _, _, q4⟩ := hok y9 (by rw [e9]; exact mem_getD _ hlt)
      refine ⟨⟨by omega, by omega⟩, ⟨0, by omega, rfl, by simp⟩, fun i => lett.mk fun y12 e12 => lett.mk fun y13 e13 => lett.mk fun y14 e14 => ?_⟩
      intro hi
      rw [wrap_byte] at e14
      have l14 : y14.length = 1 := by rw [e14, bytes_len]
      have l13 : y13.length ≤ 162000000 := by rw [e13, List.length_append, flat_len, List.length_take]; omega
      refine ⟨fun h12 => ?_, fun h12 => ?_⟩
      · have hil := lt_of_y e12 h12
        refine ⟨⟨by omega, by omega⟩, room (by omega), inRB (by omega) (by omega), i + 1, by omega, by omega, by omega, ?_⟩
        rw [flat_succ (fBytes 1) 0 hil, ← List.append_assoc, ← e13, e14]
      have halli := take_all hi e12 h12
      refine ⟨⟨0, by omega, rfl, by simp⟩, fun j => lett.mk fun y16 e16 => lett.mk fun y17 e17 => lett.mk fun y18 e18 => ?_⟩
      intro hj
      rw [wrap_byte] at e18
      have l18 : y18.length = 1 := by rw [e18, bytes_len]
      have l17 : y17.length ≤ 163000000 := by rw [e17, List.length_append, flat_len, List.length_take]; omega
      refine ⟨fun h16 => ?_, fun h16 => ?_⟩
      · have hjl := lt_of_y e16 h16
        refine ⟨⟨by omega, by omega⟩, room (by omega), inRB (by omega) (by omega), j + 1, by omega, by omega, by omega, ?_⟩
        rw [flat_succ (fBytes 1) 0 hjl, ← List.append_assoc, ← e17, e18]
      have hallj := take_all hj e16 h16
      refine ⟨⟨0, by omega, rfl, by simp⟩, fun t => lett.mk fun y20 e20 => lett.mk fun y21 e21 => lett.mk fun y22 e22 => lett.mk fun y23 e23 => lett.mk fun y24 e24 => lett.mk fun y25 e25 => lett.mk fun y26 e26 => ?_⟩
      intro ht
      have l21 : y21.length ≤ 164000000 := by
        have hb := flatMap_len fBodyLog 10008 (y9.2.2.take t) fun b hb => by rw [bodyLog_len]; have := (q4 b (List.mem_of_mem_take hb)).1; omega
        have : (y9.2.2.take t).length * 10008 ≤ 8 * 10008 := Nat.mul_le_mul_right _ (by rw [List.length_take]; omega)
        rw [e21, List.length_append]
        omega
      refine ⟨fun h20 => ?_, fun h20 => ?_⟩
      · have htl := lt_of_y e20 h20
        have hq := q4 y22 (by rw [e22]; exact mem_getD _ htl)
        have q5 := hq.1
        have q6 := hq.2.2.1.1
        have q7 := hq.2.2.2.1.1
        rw [wrap_byte] at e23 e26
        have l23 : y23.length = 1 := by rw [e23, bytes_len]
        have l26 : y26.length = 1 := by rw [e26, bytes_len]
        have l24 : y24.length ≤ 164000010 := by rw [e24, List.length_append, List.length_append, ← two_bytes, bytes_len]; omega
        refine ⟨⟨by omega, by omega⟩, room (by omega), ⟨by rw [List.length_append]; omega, by omega⟩, ⟨0, by omega, rfl, by simp [ports_nil]⟩, fun u => lett.mk fun y28 e28 => lett.mk fun y29 e29 => lett.mk fun y30 e30 => lett.mk fun y31 e31 => lett.mk fun y32 e32 => ?_⟩
        intro hu
        have e31 : y31 = fBytes 1 y30.1 ++ fBytes 1 y30.2 := by
          rw [e31, IntKind.wrap_u8, IntKind.wrap_u8, one_byte, one_byte]
          rfl
        have l31 : y31.length = 2 := by rw [e31, List.length_append, bytes_len, bytes_len]
        have l29 : y29.length ≤ 165000000 := by rw [e29, List.length_append, ports_len, List.length_take]; omega
        have l32 : y32.length ≤ 165000010 := by rw [e32, List.length_append, ← two_bytes, bytes_len]; omega
        have l25 : y25.length = 2 := by rw [e25, ← two_bytes, bytes_len]
        refine ⟨fun h28 => ?_, fun h28 => ?_⟩
        · have hul := lt_of_y e28 h28
          refine ⟨⟨by omega, by omega⟩, room (by omega), inRB (by omega) (by omega), u + 1, by omega, by omega, by omega, ?_⟩
          rw [ports_succ ((0 : Int), (0 : Int)) hul, ← e30, ← List.append_assoc, ← e29, e31]
        · have hall := take_all hu e28 h28
          refine ⟨⟨by omega, q6⟩, ⟨by omega, q7⟩, room (by rw [List.length_append]; omega), inRB (by omega) (by omega), t + 1, by omega, by omega, by omega, ?_⟩
          rw [flat_succ fBodyLog y5 htl, ← List.append_assoc, ← e21, ← e22, e32, e29, hall, e24, e23, e25, e26]
          unfold fBodyLog
          simp [List.append_assoc, two_bytes]
      · have hall := take_all ht e20 h20
        refine ⟨inRB (by omega) (by omega), s + 1, by omega, by omega, by omega, ?_⟩
        rw [flat_succ fNoteLog zeroN hlt, ← List.append_assoc, ← e10, ← e9, e21, hall, e17, hallj, e13, halli]
        unfold fNoteLog
        simp [List.append_assoc]
    · have hall := take_all hs e8 h8
      have hb : y10 = fLogBody l := by
        rw [e10, hall]
        unfold fLogBody
        rfl
      refine ⟨by omega, ?_⟩
      rw [log_eq hm, ← hb, four_bytes]
  · have hl0 := nil_of_len e1 h1
    subst hl0
    have hh : fHead [] = y6 ++ fTwo (([] : List NoteD).length : Int) := by
      rw [head_nil, e6]
      rfl
    refine ⟨⟨by rw [e6]; simp, by omega⟩, ⟨0, by omega, rfl, by rw [← hh]; simp⟩, fun s => lett.mk fun y8 e8 => lett.mk fun y9 e9 => lett.mk fun y10 e10 => ?_⟩
    intro hs
    have hs : s ≤ 0 := hs
    refine ⟨fun h8 => ?_, fun h8 => ?_⟩
    · have hlt : s < 0 := lt_of_y e8 h8
      omega
    · have l10 : y10.length ≤ 161000000 := by rw [e10]; exact hup s
      have hb : y10 = fLogBody [] := by
        rw [e10]
        unfold fLogBody
        simp
      refine ⟨by omega, ?_⟩
      rw [log_eq hm, ← hb, four_bytes]

theorem ok12 : DOk Try.prog 12 c12 :=
  DOk.of' (l := [(11, c11), (24, c24), (25, c25)]) (A := a12) tabOk ⟨ok11, ok24, ok25, trivial⟩ Try.func12 (by kernel_rfl) (by kernel_rfl) fun x _ hp => b12 x.1 hp

end Ytjmmamlipkbckaa
end Go.Proofs
