/-
  Annotations of the reference's roads and flanks.
-/
import Derived.Test.YtpnnfimacblhgaaVlf
set_option maxRecDepth 100000
set_option linter.unusedVariables false
namespace Go.Proofs
open Go Go.Vc

namespace Ytpnnfimacblhgaa

def slotSt (S : St) (n : Nat) : StepD :=
  match find S.sl n with
  | some (_, .one (.dat (.pair (.int _) (.pair (.int _) (.int _))) x)) => x
  | _ => zSt

def slotPortsB (S : St) (n : Nat) : List PortD :=
  match find S.sl n with
  | some (_, .one (.row _ b)) => (match find S.bl b with
    | some (.row _ _ (.pair (.int _) (.int _)) xs) => xs
    | _ => [])
  | _ => []

def a49 (x : RoadD × Unit) : Ann := loopAnn [(3, fun _ => rowLoop x.1.2.2.2.1.length 4 3 1000 3 I (fun k => (x.1.2.2.2.1.take k).map fun s => s.1) [1] [1])]
def a45 (x : List PortD × PortD × Unit) : Ann := loopAnn [(2, fun _ => upLoop x.1.length (noneT (fun y => y == x.2.1) x.1) 5 [0, 3] [3])]
def a50 (x : List NeedD × NeedD × Unit) : Ann := loopAnn [(2, fun _ => upLoop x.1.length (noneT (fun y => y == x.2.1) x.1) 5 [0, 3] [3])]
def a13 (x : PlanD × Unit) : Ann := loopAnn [(3, fun _ => {
  σ := Nat
  ok := fun k => k ≤ x.1.2.2.1.length ∧ noneOf (allLong x.1) k
  mu := fun k => x.1.2.2.1.length - k
  sl := fun k => [(5, .one (.dat I (k : Int))), (4, .one (.row RoadT 1000))]
  bl := fun k => [(1000, .row false 42 RoadT (allUp x.1 k))]
  keep := [1]
  keepB := [1] })]
def a25 (x : PlanD × RoadD × Unit) : Ann := loopAnn [(3, fun _ => rowLoop x.2.1.2.2.2.1.length 6 5 1000 61 PortT (fun k => portsUp x.1 x.2.1 k) [2, 3] [2, 3]),
  (16, fun S => {
  σ := Nat
  ok := fun j => j ≤ (portsAt x.1 (x.2.1.2.2.2.1.getD (slotI S 6).toNat zSt)).length
  mu := fun j => (portsAt x.1 (x.2.1.2.2.2.1.getD (slotI S 6).toNat zSt)).length - j
  sl := fun j => [(10, .one (.dat I (j : Int))), (5, .one (.row PortT 1001)), (8, .one (.row PortT 1002))]
  bl := fun j => [(1001, .row false 61 PortT (portsUp x.1 x.2.1 (slotI S 6).toNat ++ portsOn x.1 ((portsAt x.1 (x.2.1.2.2.2.1.getD (slotI S 6).toNat zSt)).take j))), (1002, .row false 61 PortT (portsAt x.1 (x.2.1.2.2.2.1.getD (slotI S 6).toNat zSt)))]
  keep := [2, 3, 6]
  keepB := [2, 3] })] [29, 43, 12, 75]
def a39 (n : Nat) (x : PlanD × RoadD × PortD × List Int × Unit) : Ann := loopAnn [(9, fun _ => {
  σ := Nat
  ok := fun k => k ≤ (fOuts x.1 x.2.2.1.1 x.2.2.1.2).length
  mu := fun k => (fOuts x.1 x.2.2.1.1 x.2.2.1.2).length - k
  sl := fun k => [(11, .one (.dat I (k : Int))), (9, .one (.row RoadT 1000)), (3, .one (.row I 1001))]
  bl := fun k => [(1000, .row false 42 RoadT (onWays x.1 (fOn x.1 n) x.2.1 x.2.2.1 (x.2.2.2.1 ++ [x.2.2.1.1]) k)), (1001, .row true 3 I (x.2.2.2.1 ++ [x.2.2.1.1]))]
  keep := [4, 5, 6, 10]
  keepB := [4, 5, 6] })]
def searchBl (s : SearchD) : List (Nat × Blk) :=
  [(1000, .cells [.dat (.list ElemT) s.1.1, .dat (.list JoinT) s.1.2.1, .dat (.list SignalT) s.1.2.2.1, .dat (.list LineT) s.1.2.2.2.1, .dat I s.1.2.2.2.2.1, .dat I s.1.2.2.2.2.2.1, .dat I s.1.2.2.2.2.2.2.1, .dat I s.1.2.2.2.2.2.2.2.1, .dat .bool s.1.2.2.2.2.2.2.2.2,
    .dat I s.2.1, .dat I s.2.2.1, .dat I s.2.2.2.1, .row StepT 1001, .row NeedT 1002, .row NeedT 1003, .row I 1004, .row I 1005, .dat .bool s.2.2.2.2.2.2.2.2.2.1, .row PortT 1006]),
   (1001, .row false 95 StepT (gSteps s)), (1002, .row false 107 NeedT (gNeeds s)), (1003, .row false 107 NeedT (gGuards s)), (1004, .row false 3 I (gZone s)), (1005, .row false 3 I (gHolds s)), (1006, .row false 61 PortT (gMet s))]
def a14 (x : PlanD × RoadD × Unit) : Ann := loopAnn [(5, fun _ => {
  σ := Nat
  ok := fun k => k ≤ (fPorts x.1 x.2.1).length
  mu := fun k => (fPorts x.1 x.2.1).length - k
  sl := fun k => [(7, .one (.dat I (k : Int))), (5, .one (.ptr 1000 0))]
  bl := fun k => searchBl (flankUp x.1 x.2.1 k)
  keep := [4, 6]
  keepB := [4] })]
def a7 (x : PlanD × Unit) : Ann := loopAnn [(8, fun _ => {
  σ := Nat
  ok := fun k => k ≤ (fAll x.1).1.length
  mu := fun k => (fAll x.1).1.length - k
  sl := fun k => [(7, .one (.dat I (k : Int))), (5, .one (.row RoadT 1000))]
  bl := fun k => [(1000, .row false 42 RoadT (((fAll x.1).1.take k).map (fFlank x.1) ++ (fAll x.1).1.drop k))]
  keep := [1, 2]
  keepB := [1, 2] })]

end Ytpnnfimacblhgaa
end Go.Proofs
