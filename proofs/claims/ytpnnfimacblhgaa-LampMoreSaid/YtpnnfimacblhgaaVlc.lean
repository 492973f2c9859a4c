/-
  Annotations of the reference's plans.
-/
import Derived.Test.YtpnnfimacblhgaaVlb
set_option maxRecDepth 100000
set_option linter.unusedVariables false
namespace Go.Proofs
open Go Go.Vc

namespace Ytpnnfimacblhgaa

/-- A loop that counts a slot up. -/
def upLoop (n : Nat) (ok : Nat → Prop) (slot : Nat) (keep keepB : List Nat) : LA where
  σ := Nat
  ok := fun k => k ≤ n ∧ ok k
  mu := fun k => n - k
  sl := fun k => [(slot, .one (.dat I (k : Int)))]
  bl := fun _ => []
  keep := keep
  keepB := keepB

/-- A loop that makes a row. -/
def rowLoop (n : Nat) (slot row id e : Nat) (t : Ty) (xs : Nat → List t.den) (keep keepB : List Nat) : LA where
  σ := Nat
  ok := fun k => k ≤ n
  mu := fun k => n - k
  sl := fun k => [(slot, .one (.dat I (k : Int))), (row, .one (.row t id))]
  bl := fun k => [(id, .row false e t (xs k))]
  keep := keep
  keepB := keepB

def allT {α : Type} (p : α → Bool) (xs : List α) (k : Nat) : Prop := (xs.take k).all p = true
def allOf (p : Nat → Bool) (k : Nat) : Prop := allTo p k = true
def noneOf (p : Nat → Bool) (k : Nat) : Prop := anyTo p k = false
def noneT {α : Type} (p : α → Bool) (xs : List α) (k : Nat) : Prop := (xs.take k).any p = false
def sameT {α : Type} (xs ys : List α) (k : Nat) : Prop := xs.length = ys.length ∧ xs.take k = ys.take k

def slotI (S : St) (n : Nat) : Int :=
  match find S.sl n with
  | some (_, .one (.dat (.int _) x)) => Ty.I x
  | _ => 0

def a9 (x : List Int × List Int × Unit) : Ann := loopAnn [(4, fun _ => upLoop x.1.length (sameT x.1 x.2.1) 5 [0, 1] [])]
def a28 (x : Str × Unit) : Ann := loopAnn [(2, fun _ => upLoop x.1.length (allOf (fNameAt x.1)) 3 [0] [])]
def joinOf (x : PortD) (j : JoinD) : Bool := j.1 == x || j.2 == x
def a31 (x : PlanD × PortD × Unit) : Ann := loopAnn [(2, fun _ => upLoop x.1.2.1.length (noneT (joinOf x.2.1) x.1.2.1) 6 [2, 3, 4] [2, 3, 4])]
def readOf (p : PlanD) (x : PortD) (i : Nat) : Bool := (p.2.2.1.getD i zS).2.1 == x
def a33 (x : PlanD × PortD × Unit) : Ann := loopAnn [(2, fun _ => upLoop x.1.2.2.1.length (noneOf (readOf x.1 x.2.1)) 5 [2, 3] [2, 3])]
def a34 (x : List Int × Int × Unit) : Ann := loopAnn [(2, fun _ => upLoop x.1.length (noneT (fun y => y == x.2.1) x.1) 5 [0, 1] [])]
def stopDone (v b : Int) (k : Nat) : Bool := decide (v - b * ((k : Int) + 1) ≤ 0)
def a36 (x : Int × Int × Unit) : Ann := loopAnn [(5, fun _ => {
  σ := Nat
  ok := fun k => k ≤ 60 ∧ noneOf (stopDone x.1 x.2.1) k
  mu := fun k => 60 - k
  sl := fun k => [(0, .one (.dat I (x.1 - x.2.1 * ((k : Int) + 1)))), (5, .one (.dat I (stopUp x.1 x.2.1 k)))]
  bl := fun _ => []
  keep := [1]
  keepB := [] })]
def wayFits (pos : Int) (w : Int × Int) : Bool := w.2 == 0 || w.2 == pos
def a51 (x : PlanD × Int × Int × Int × Unit) : Ann := loopAnn [(3, fun _ => upLoop (fOuts x.1 x.2.1 x.2.2.1).length (noneT (wayFits x.2.2.2.1) (fOuts x.1 x.2.1 x.2.2.1)) 11 [3, 10] [])]
def fromOf (p : PlanD) (e out pos : Int) (i : Nat) : Bool := (fThrough p e (i : Int) pos).2 && (fThrough p e (i : Int) pos).1 == out
def a47 (x : PlanD × Int × Int × Int × Unit) : Ann := loopAnn [(2, fun _ => upLoop (fEnds (fKind x.1 x.2.1)).toNat (noneOf (fromOf x.1 x.2.1 x.2.2.1 x.2.2.2.1)) 10 [1, 2, 3, 4] [4])]
def sameText (l : List Str) (i k : Nat) : Bool := l.getD i [] == l.getD k []
def a19 (x : List Str × Unit) : Ann := loopAnn [(2, fun _ => upLoop x.1.length (noneOf (fun i => anyTo (sameText x.1 i) i)) 3 [0] []),
  (5, fun S => upLoop (slotI S 3).toNat (noneOf (sameText x.1 (slotI S 3).toNat)) 4 [0, 3] [])]
def a17 (x : PlanD × Unit) : Ann := loopAnn [(3, fun _ => rowLoop x.1.1.length 8 5 1000 9 .str (fun k => (x.1.1.take k).map fun e => e.1) [1, 6, 7] [1]),
  (7, fun _ => rowLoop x.1.2.2.1.length 9 6 1001 9 .str (fun k => (x.1.2.2.1.take k).map fun e => e.1) [1, 5, 7] [1, 1000]),
  (11, fun _ => rowLoop x.1.2.2.2.1.length 10 7 1002 9 .str (fun k => (x.1.2.2.2.1.take k).map fun e => e.1) [1, 5, 6] [1, 1000, 1001])]
def sigName (s : SignalD) : Bool := fName s.1
def lineName (l : LineD) : Bool := fName l.1
def a18 (x : PlanD × Unit) : Ann := loopAnn [(4, fun _ => upLoop x.1.1.length (allT fElemOk x.1.1) 3 [1] [1]),
  (10, fun _ => upLoop x.1.2.2.1.length (allT sigName x.1.2.2.1) 5 [1] [1]),
  (15, fun _ => upLoop x.1.2.2.2.1.length (allT lineName x.1.2.2.2.1) 6 [1] [1])]
def sameEnd (p : PlanD) (i k : Nat) : Bool := (joinEnds p).getD k zP == (joinEnds p).getD i zP
def a20 (x : PlanD × Unit) : Ann := loopAnn [(3, fun _ => rowLoop x.1.2.1.length 4 3 1000 61 PortT (fun k => (x.1.2.1.take k).flatMap fun j => [j.1, j.2]) [1] [1]),
  (7, fun _ => upLoop (joinEnds x.1).length (allOf (endOk x.1)) 5 [1, 3] [1, 1000]),
  (12, fun S => upLoop (slotI S 5).toNat (noneOf (sameEnd x.1 (slotI S 5).toNat)) 6 [1, 3, 5] [1, 1000]),
  (17, fun _ => upLoop x.1.1.length (allOf (gateOk x.1)) 7 [1] [1])]
def a21 (x : PlanD × Unit) : Ann := loopAnn [(2, fun _ => upLoop x.1.2.2.1.length (allOf (sigOk x.1)) 3 [1] [1]),
  (12, fun _ => upLoop x.1.1.length (allOf (gateSig x.1)) 8 [1] [1])]
def isTrack (p : PlanD) (e : Int) : Bool := fKind p e == 1
def outAt (p : PlanD) (l : List Int) : Nat → Int
  | 0 => -1
  | 1 => bif outTo p l 1 then 1 else -1
  | _ => fOut0 p l
def a35 (x : PlanD × List Int × Unit) : Ann := loopAnn [(4, fun _ => upLoop x.2.1.length (allT (isTrack x.1) x.2.1) 6 [1, 2] [2]),
  (12, fun _ => {
    σ := Nat
    ok := fun k => k ≤ 2
    mu := fun k => 2 - k
    sl := fun k => [(8, .one (.dat I (1 - (k : Int)))), (7, .one (.dat I (outAt x.1 x.2.1 k)))]
    bl := fun _ => []
    keep := [1, 2]
    keepB := [2] }),
  (21, fun _ => {
    σ := Nat
    ok := fun k => k < x.2.1.length ∧ (fEnt x.1 x.2.1 (fOut0 x.1 x.2.1) k).2.2 = true
    mu := fun k => x.2.1.length - k
    sl := fun k => [(12, .one (.dat I ((k : Int) + 1))), (7, .one (.dat I (fEnt x.1 x.2.1 (fOut0 x.1 x.2.1) k).2.1)), (11, .one (.row I 1000))]
    bl := fun k => [(1000, .row false 3 I (fEnt x.1 x.2.1 (fOut0 x.1 x.2.1) k).1)]
    keep := [1, 2]
    keepB := [2] })]
def a22 (x : PlanD × Unit) : Ann := loopAnn [(3, fun _ => {
    σ := Nat
    ok := fun k => k ≤ x.1.2.2.2.1.length ∧ allOf (lineOk x.1) k
    mu := fun k => x.1.2.2.2.1.length - k
    sl := fun k => [(4, .one (.dat I (k : Int))), (3, .one (.row I 1000))]
    bl := fun k => [(1000, .row false 3 I (metBy x.1 k))]
    keep := [1]
    keepB := [1] }),
  (7, fun S => {
    σ := Nat
    ok := fun k => k ≤ (x.1.2.2.2.1.getD (slotI S 4).toNat zL).2.length ∧ allOf (lineNew x.1 (slotI S 4).toNat) k
    mu := fun k => (x.1.2.2.2.1.getD (slotI S 4).toNat zL).2.length - k
    sl := fun k => [(6, .one (.dat I (k : Int))), (3, .one (.row I 1001))]
    bl := fun k => [(1001, .row false 3 I (metBy x.1 (slotI S 4).toNat ++ (x.1.2.2.2.1.getD (slotI S 4).toNat zL).2.take k))]
    keep := [1, 4, 5]
    keepB := [1] })]
def a23 (x : PlanD × Unit) : Ann := loopAnn [(4, fun _ => upLoop x.1.2.2.1.length (allT (sigLong x.1) x.1.2.2.1) 3 [1] [1]),
  (10, fun _ => upLoop x.1.1.length (allT (elemLong x.1) x.1.1) 5 [1] [1])]
def fewLine (l : LineD) : Bool := decide (l.2.length ≤ 60) && decide (l.1.length ≤ 100)
def fewElem (e : ElemD) : Bool := decide (e.1.length ≤ 100)
def fewSig (e : SignalD) : Bool := decide (e.1.length ≤ 100)
def a16 (x : PlanD × Unit) : Ann := loopAnn [(4, fun _ => upLoop x.1.2.2.2.1.length (allT fewLine x.1.2.2.2.1) 3 [1] [1]),
  (9, fun _ => upLoop x.1.1.length (allT fewElem x.1.1) 4 [1] [1]),
  (14, fun _ => upLoop x.1.2.2.1.length (allT fewSig x.1.2.2.1) 5 [1] [1])]

end Ytpnnfimacblhgaa
end Go.Proofs
