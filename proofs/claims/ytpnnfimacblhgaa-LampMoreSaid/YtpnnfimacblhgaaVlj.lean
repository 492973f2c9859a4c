/-
  Contracts and annotations of the lamps and of the law.
-/
import Derived.Test.YtpnnfimacblhgaaVlg
set_option maxRecDepth 100000
set_option linter.unusedVariables false
namespace Go.Proofs
open Go Go.Vc

namespace Ytpnnfimacblhgaa
def zLf : LifeD := (0, 0, false, [])

/-! ### What lamps show -/

def fromAt (rs : List RoadD) (i : Nat) : Int := (rs.getD i zR).1
def setCond (rs : List RoadD) (ls : List LifeD) (i : Nat) : Bool := decide (i < ls.length) && ((ls.getD i zLf).1 == 2 && (decide (0 ≤ fromAt rs i) && decide (fromAt rs i < 24)))
/-- Of each signal the first road that is Set; the last ones are looked at first. -/
def setRow (rs : List RoadD) (ls : List LifeD) : Nat → List Int
  | 0 => List.replicate 24 (-1)
  | k + 1 => bif setCond rs ls (rs.length - 1 - k) then (setRow rs ls k).set (fromAt rs (rs.length - 1 - k)).toNat ((rs.length - 1 - k : Nat) : Int) else setRow rs ls k
def clearOf (set : List Int) (r : RoadD) : Bool := r.2.2.1 == 2 || (r.2.2.1 == 1 && (decide (0 ≤ r.2.1) && (decide (r.2.1 < 24) && decide (0 ≤ set.getD r.2.1.toNat 0))))
def fAsp (rs : List RoadD) (set : List Int) (s : Nat) : Int :=
  bif decide (24 ≤ s) || decide (set.getD s 0 < 0) then 0 else bif clearOf set (rs.getD (set.getD s 0).toNat zR) then 2 else 1
@[irreducible] def aspUp (rs : List RoadD) (set : List Int) (n k : Nat) : List Int := (List.range k).map (fun s => fAsp rs set s) ++ List.replicate (n - k) 0
@[irreducible] def fAspects (c : ChartD) (ls : List LifeD) : List Int := aspUp c.2 (setRow c.2 ls c.2.length) c.1.2.2.1.length c.1.2.2.1.length

def c6 : DCon where
  args := [ChartT, .list LifeT]
  out := .row 3 I
  pre := fun (x : ChartD × List LifeD × Unit) => x.1.1.2.2.1.length ≤ 1000
  fn := fun (x : ChartD × List LifeD × Unit) => (fAspects x.1 x.2.1, ())

def fillUp (k : Nat) : List Int := List.replicate k (-1) ++ List.replicate (24 - k) 0

def a6 (x : ChartD × List LifeD × Unit) : Ann := loopAnn [(3, fun _ => {
  σ := Nat
  ok := fun k => k ≤ 24
  mu := fun k => 24 - k
  sl := fun k => [(12, .one (.dat I (k : Int))), (5, .one (.rptr I 1000 0 0))]
  bl := fun k => [(1000, .row false 53 I (fillUp k))]
  keep := [1, 2]
  keepB := [2] }), (8, fun _ => {
  σ := Nat
  ok := fun k => k ≤ x.1.2.length
  mu := fun k => x.1.2.length - k
  sl := fun k => [(7, .one (.dat I ((x.1.2.length : Int) - 1 - (k : Int)))), (5, .one (.rptr I 1001 0 0))]
  bl := fun k => [(1001, .row false 53 I (setRow x.1.2 x.2.1 k))]
  keep := [1, 2]
  keepB := [2] }), (15, fun _ => {
  σ := Nat
  ok := fun k => k ≤ x.1.1.2.2.1.length
  mu := fun k => x.1.1.2.2.1.length - k
  sl := fun k => [(62, .one (.dat I (k : Int))), (9, .one (.row I 1002)), (5, .one (.rptr I 1003 0 0))]
  bl := fun k => [(1002, .row false 3 I (aspUp x.1.2 (setRow x.1.2 x.2.1 x.1.2.length) x.1.1.2.2.1.length k)), (1003, .row false 53 I (setRow x.1.2 x.2.1 x.1.2.length))]
  keep := [2, 61]
  keepB := [2] })]

/-! ### The law's own -/

def c4 : DCon where
  args := []
  out := .data [.bool]
  pre := fun (x : Unit) => True
  fn := fun (x : Unit) => (true, ())

/-- A law: whatever the arguments, it answers 'true'. -/
def lawCon (ts : List Ty) : DCon where
  args := ts
  out := .data [.bool]
  pre _ := True
  fn _ := (true, ())

def c3 : DCon := lawCon [PlanT, .list LifeT, .int .u8]

def mUp (ls : List LifeD) (n : Nat) : Nat → List LifeD
  | 0 => List.replicate n zLf
  | k + 1 => (mUp ls n k).set k ((ls.getD k zLf).1, ((mUp ls n k).getD k zLf).2)

def slotRoads (S : St) (n : Nat) : List RoadD :=
  match find S.sl n with
  | some (_, .one (.dat (.list (.pair (.int _) (.pair (.int _) (.pair (.int _) (.pair (.list (.pair (.int _) (.pair (.int _) (.int _)))) (.pair (.list (.pair (.int _) (.int _))) (.pair (.list (.pair (.int _) (.int _))) (.pair (.list (.int _)) (.pair (.list (.int _)) .bool))))))))) xs)) => xs
  | _ => []
def blkLives (S : St) (n : Nat) : List LifeD :=
  match find S.bl n with
  | some (.row _ _ (.pair (.int _) (.pair (.int _) (.pair .bool (.list .bool)))) xs) => xs
  | _ => []
def blkInts (S : St) (n : Nat) : List Int :=
  match find S.bl n with
  | some (.row _ _ (.int _) xs) => xs
  | _ => []

def sameFrom (rs : List RoadD) (m : List LifeD) (j i : Nat) : Bool := fromAt rs i == fromAt rs j && (m.getD i zLf).1 == 2

def a3 (x : PlanD × List LifeD × Int × Unit) : Ann := loopAnn [(9, fun S => {
  σ := Nat
  ok := fun k => k ≤ (slotRoads S 7).length
  mu := fun k => (slotRoads S 7).length - k
  sl := fun k => [(11, .one (.dat I (k : Int))), (10, .one (.row LifeT 1000))]
  bl := fun k => [(1000, .row false 37 LifeT (mUp x.2.1 (slotRoads S 7).length k))]
  keep := [1, 2, 3, 7, 9]
  keepB := [3, 9] }), (14, fun S => upLoop (slotRoads S 7).length (noneOf (sameFrom (slotRoads S 7) (blkLives S 1000) (slotI S 12).toNat)) 13 [3, 7, 9, 10, 12] [3, 9, 1000]),
  (24, fun S => upLoop (blkInts S 95).length (fun _ => True) 16 [14, 15] [95, 102])]

end Ytpnnfimacblhgaa
end Go.Proofs
