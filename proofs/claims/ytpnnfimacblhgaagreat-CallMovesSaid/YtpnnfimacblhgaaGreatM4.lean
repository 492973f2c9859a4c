/-
  Contracts of the reference's roads and flanks (chapters 7 to 11), as far as they are reached; Annotations of the reference's roads and flanks; The reference's roads: written out and proved; The reference's flanks and charts: written out and proved; Contracts of the program's plans and nets (layers 2 and 4), as far as they are reached; Annotations of the program's plans; Plain facts about maps as lists, and about a plan's joins and signals, for the proofs of the program's plans; The program's plans: small functions, names, numbers, rows, lengths; The program's plans: numbers, joins, signals, rows, lines, lengths; Check; The program's plans: rows, lines, lengths; Check; The program's Check of a plan; Contracts of the program's nets: the copy of a plan, New, and what is asked of a net; The program's nets: the copy of a plan, New, and what is asked of a net; Contracts of the program's Wants and of the reference's lines, with annotations; Sorting turns; the program's Wants; the reference's lines and Wants.
-/
import Derived.Test.YtpnnfimacblhgaaGreatM3

section
set_option maxRecDepth 100000
set_option linter.unusedVariables false
namespace Go.Proofs
open Go Go.Vc
namespace YtpnnfimacblhgaaGreat
abbrev StepT : Ty := .pair I (.pair I I)
abbrev NeedT : Ty := .pair I I
abbrev RoadT : Ty := .pair I (.pair I (.pair I (.pair (.list StepT) (.pair (.list NeedT) (.pair (.list NeedT) (.pair (.list I) (.pair (.list I) .bool)))))))
abbrev ChartT : Ty := .pair PlanT (.list RoadT)
abbrev LifeT : Ty := .pair I (.pair I (.pair .bool (.list .bool)))
abbrev StepD := Int × Int × Int
abbrev NeedD := Int × Int
abbrev RoadD := Int × Int × Int × List StepD × List NeedD × List NeedD × List Int × List Int × Bool
abbrev ChartD := PlanD × List RoadD
abbrev LifeD := Int × Int × Bool × List Bool
def zSt : StepD := (0, 0, 0)
def zR : RoadD := (0, 0, 0, [], [], [], [], [], false)
def zPlan : PlanD := ([], [], [], [], 0, 0, 0, 0, false)
def zC : ChartD := (zPlan, [])
@[irreducible] def fElems (r : RoadD) : List Int := r.2.2.2.1.map fun s => s.1
@[irreducible] def fOwn (r : RoadD) (e : Int) : Bool := fMem (fElems r) e
@[irreducible] def fHasPort (l : List PortD) (x : PortD) : Bool := l.any fun y => y == x
@[irreducible] def fHasNeed (l : List NeedD) (x : NeedD) : Bool := l.any fun y => y == x
@[irreducible] def fWith (r : RoadD) (s : StepD) (pos stop to : Int) : RoadD :=
 (r.1, to, stop, r.2.2.2.1 ++ [s], r.2.2.2.2.1 ++ (bif pos == 0 then [] else [(s.1, pos)]), [], [], [], false)
@[irreducible] def onWay (p : PlanD) (rec : RoadD → PortD → List Int → List RoadD) (r : RoadD) (x : PortD) (met : List Int) (w : Int × Int) : List RoadD :=
 bif decide (0 ≤ fReads p (x.1, w.1)) then [fWith r (x.1, x.2, w.1) w.2 1 (fReads p (x.1, w.1))] else
 bif !(fNext p (x.1, w.1)).2 then [fWith r (x.1, x.2, w.1) w.2 3 (-1)] else
 rec (fWith r (x.1, x.2, w.1) w.2 0 (-1)) (fNext p (x.1, w.1)).1 met
@[irreducible] def onWays (p : PlanD) (rec : RoadD → PortD → List Int → List RoadD) (r : RoadD) (x : PortD) (met : List Int) (k : Nat) : List RoadD :=
 ((fOuts p x.1 x.2).take k).flatMap (onWay p rec r x met)
@[irreducible] def onStep (p : PlanD) (rec : RoadD → PortD → List Int → List RoadD) (r : RoadD) (x : PortD) (met : List Int) : List RoadD :=
 bif fMem met x.1 || decide (r.2.2.2.1.length = 12) then [] else
 bif fKind p x.1 == 4 then [fWith r (x.1, x.2, -1) 0 2 (-1)] else
 onWays p rec r x (met ++ [x.1]) (fOuts p x.1 x.2).length
def fOn (p : PlanD) : Nat → RoadD → PortD → List Int → List RoadD
 | 0, _, _, _ => []
 | n + 1, r, x, met => onStep p (fOn p n) r x met
def onPre (n : Nat) (r : RoadD) (met : List Int) : Prop := (12 < r.2.2.2.1.length + n ∧ r.2.2.2.1.length ≤ 12 ∧ n ≤ 13) ∧ r.2.2.2.2.1.length ≤ r.2.2.2.1.length ∧ met.length ≤ r.2.2.2.1.length + 1
def roadFrom (s : Int) : RoadD := (s, 0, 0, [], [], [], [], [], false)
@[irreducible] def fOf (p : PlanD) (s : Int) : List RoadD :=
 bif !(fAt p s).2 then [] else bif !(fNext p (fAt p s).1).2 then [] else fOn p 13 (roadFrom s) (fNext p (fAt p s).1).1 [(fAt p s).1.1]
@[irreducible] def allUp (p : PlanD) (k : Nat) : List RoadD := (List.range k).flatMap fun (s : Nat) => fOf p (s : Int)
def allLong (p : PlanD) (k : Nat) : Bool := decide (64 < (allUp p (k + 1)).length)
@[irreducible] def fAll (p : PlanD) : List RoadD × Int := bif anyTo (allLong p) p.2.2.1.length then ([], 3) else (allUp p p.2.2.1.length, 0)
def crossOf (s : StepD) : Int := bif decide (2 ≤ s.2.1) then 0 else 2
@[irreducible] def portsAt (p : PlanD) (s : StepD) : List PortD :=
 bif fKind p s.1 == 2 then [(s.1, 3 - max s.2.1 s.2.2)] else bif fKind p s.1 == 3 then [(s.1, crossOf s), (s.1, crossOf s + 1)] else []
@[irreducible] def portsOn (p : PlanD) (l : List PortD) : List PortD := l.filter fun x => (fNext p x).2
@[irreducible] def portsUp (p : PlanD) (r : RoadD) (k : Nat) : List PortD := (r.2.2.2.1.take k).flatMap fun s => portsOn p (portsAt p s)
@[irreducible] def fPorts (p : PlanD) (r : RoadD) : List PortD := portsUp p r r.2.2.2.1.length
def stepOk (s : StepD) : Prop := (-1 ≤ s.2.1 ∧ s.2.1 ≤ 3) ∧ -1 ≤ s.2.2 ∧ s.2.2 ≤ 3
def stepsOk (r : RoadD) : Prop := r.2.2.2.1.length ≤ 1000 ∧ ∀ s ∈ r.2.2.2.1, stepOk s
abbrev SearchD := PlanD × Int × Int × Int × List StepD × List NeedD × List NeedD × List Int × List Int × Bool × List PortD
@[irreducible] def sRoad (s : SearchD) : RoadD := (s.2.1, s.2.2.1, s.2.2.2.1, s.2.2.2.2.1, s.2.2.2.2.2.1, s.2.2.2.2.2.2.1, s.2.2.2.2.2.2.2.1, s.2.2.2.2.2.2.2.2.1, s.2.2.2.2.2.2.2.2.2.1)
def sGuard (s : SearchD) (g : List NeedD) : SearchD := (s.1, s.2.1, s.2.2.1, s.2.2.2.1, s.2.2.2.2.1, s.2.2.2.2.2.1, g, s.2.2.2.2.2.2.2)
def sZone (s : SearchD) (z : List Int) : SearchD := (s.1, s.2.1, s.2.2.1, s.2.2.2.1, s.2.2.2.2.1, s.2.2.2.2.2.1, s.2.2.2.2.2.2.1, z, s.2.2.2.2.2.2.2.2)
def sHold (s : SearchD) (z : List Int) : SearchD := (s.1, s.2.1, s.2.2.1, s.2.2.2.1, s.2.2.2.2.1, s.2.2.2.2.2.1, s.2.2.2.2.2.2.1, s.2.2.2.2.2.2.2.1, z, s.2.2.2.2.2.2.2.2.2)
def sBare (s : SearchD) : SearchD := (s.1, s.2.1, s.2.2.1, s.2.2.2.1, s.2.2.2.2.1, s.2.2.2.2.2.1, s.2.2.2.2.2.2.1, s.2.2.2.2.2.2.2.1, s.2.2.2.2.2.2.2.2.1, true, s.2.2.2.2.2.2.2.2.2.2)
def sMet (s : SearchD) (m : List PortD) : SearchD := (s.1, s.2.1, s.2.2.1, s.2.2.2.1, s.2.2.2.2.1, s.2.2.2.2.2.1, s.2.2.2.2.2.2.1, s.2.2.2.2.2.2.2.1, s.2.2.2.2.2.2.2.2.1, s.2.2.2.2.2.2.2.2.2.1, m)
abbrev gSteps (s : SearchD) : List StepD := s.2.2.2.2.1
abbrev gNeeds (s : SearchD) : List NeedD := s.2.2.2.2.2.1
abbrev gGuards (s : SearchD) : List NeedD := s.2.2.2.2.2.2.1
abbrev gZone (s : SearchD) : List Int := s.2.2.2.2.2.2.2.1
abbrev gHolds (s : SearchD) : List Int := s.2.2.2.2.2.2.2.2.1
abbrev gMet (s : SearchD) : List PortD := s.2.2.2.2.2.2.2.2.2.2
@[irreducible] def fZone (s : SearchD) (e : Int) : Bool × SearchD :=
 bif fMem (gZone s) e then (true, s) else bif decide (12 ≤ (gZone s).length) then (false, sBare s) else (true, sZone s (gZone s ++ [e]))
@[irreducible] def sOn (rec : PortD → SearchD → SearchD) (e stop : Int) (s : SearchD) : SearchD := bif (fNext s.1 (e, stop)).2 then rec (fNext s.1 (e, stop)).1 s else s
@[irreducible] def sPoints (rec : PortD → SearchD → SearchD) (y : PortD) (s : SearchD) : SearchD :=
 bif y.2 == 0 then (bif (fZone s y.1).1 then sOn rec y.1 2 (sOn rec y.1 1 (fZone s y.1).2) else (fZone s y.1).2) else
 bif !fHasNeed (gNeeds s) (y.1, y.2) && !fHasNeed (gGuards s) (y.1, y.2) then (bif fHasNeed (gGuards s) (y.1, 3 - y.2) then s else sGuard s (gGuards s ++ [(y.1, 3 - y.2)])) else
 (bif (fZone s y.1).1 then sOn rec y.1 0 (fZone s y.1).2 else (fZone s y.1).2)
@[irreducible] def sNew (rec : PortD → SearchD → SearchD) (y : PortD) (s : SearchD) : SearchD :=
 bif decide (0 ≤ fReads s.1 y) && !s.1.2.2.2.2.2.2.2.2 then (bif fMem (gHolds s) (fReads s.1 y) then s else sHold s (gHolds s ++ [fReads s.1 y])) else
 bif fKind s.1 y.1 == 4 then sBare s else bif fKind s.1 y.1 == 2 then sPoints rec y s else
 (bif (fZone s y.1).1 then sOn rec y.1 (fFrom s.1 y.1 y.2 0).1 (fZone s y.1).2 else (fZone s y.1).2)
@[irreducible] def sStep (rec : PortD → SearchD → SearchD) (y : PortD) (s : SearchD) : SearchD :=
 bif fOwn (sRoad s) y.1 || fHasPort (gMet s) y then s else sNew rec y (sMet s (gMet s ++ [y]))
def sCome : Nat → PortD → SearchD → SearchD
 | 0, _, s => s
 | n + 1, y, s => sStep (sCome n) y s
structure SInv (s : SearchD) : Prop where
 joined : fJoined s.1 = true
 joins : s.1.2.1.length ≤ 1000
 nodup : (gMet s).Nodup
 sub : ∀ y ∈ gMet s, y ∈ joinEnds s.1
 guards : (gGuards s).length ≤ (gMet s).length
 holds : (gHolds s).length ≤ (gMet s).length
 zone : (gZone s).length ≤ 12
 steps : (gSteps s).length ≤ 1000
def onOk (n : Nat) (s : SearchD) : Prop := SInv s ∧ (joinEnds s.1).length < (gMet s).length + n
def comeOk (n : Nat) (y : PortD) (s : SearchD) : Prop := onOk n s ∧ y ∈ joinEnds s.1
def pointsOk (n : Nat) (y : PortD) (s : SearchD) : Prop := comeOk n y s ∧ (gGuards s).length < (gMet s).length
def s0 (p : PlanD) (r : RoadD) : SearchD := (p, r.1, r.2.1, r.2.2.1, r.2.2.2.1, r.2.2.2.2.1, [], [], [], false, [])
def flankUp (p : PlanD) (r : RoadD) : Nat → SearchD
 | 0 => s0 p r
 | k + 1 => sOn (sCome 161) ((fPorts p r).getD k zP).1 ((fPorts p r).getD k zP).2 (flankUp p r k)
@[irreducible] def fFlank (p : PlanD) (r : RoadD) : RoadD := sRoad (flankUp p r (fPorts p r).length)
def flankPre (p : PlanD) (r : RoadD) : Prop := fCheck p = 0 ∧ stepsOk r ∧ r.2.2.2.2.1.length ≤ 1000
@[irreducible] def fBuild (p : PlanD) : ChartD × Int :=
 bif fCheck p == 0 then (bif (fAll p).2 == 0 then ((p, (fAll p).1.map (fFlank p)), 0) else (zC, (fAll p).2)) else (zC, fCheck p)
@[irreducible] def fRoads (p : PlanD) : List RoadD × Bool := bif fFine p then ((fBuild p).1.2, (fBuild p).2 == 0) else ([], false)
def c33 : DCon where
 args := [RoadT]
 out := .row 3 I
 pre := fun (x : RoadD × Unit) => x.1.2.2.2.1.length ≤ 1000000
 fn := fun (x : RoadD × Unit) => (fElems x.1, ())
def c148 : DCon where
 args := [RoadT, I]
 out := .data [.bool]
 pre := fun (x : RoadD × Int × Unit) => x.1.2.2.2.1.length ≤ 1000000
 fn := fun (x : RoadD × Int × Unit) => (fOwn x.1 x.2.1, ())
def c149 : DCon where
 args := [.list PortT, PortT]
 out := .data [.bool]
 pre := fun (x : List PortD × PortD × Unit) => True
 fn := fun (x : List PortD × PortD × Unit) => (fHasPort x.1 x.2.1, ())
def c157 : DCon where
 args := [.list NeedT, NeedT]
 out := .data [.bool]
 pre := fun (x : List NeedD × NeedD × Unit) => True
 fn := fun (x : List NeedD × NeedD × Unit) => (fHasNeed x.1 x.2.1, ())
def withPre (r : RoadD) : Prop := r.2.2.2.1.length ≤ 1000 ∧ r.2.2.2.2.1.length ≤ 1000
def c146 : DCon where
 args := [RoadT, StepT, I, I, I]
 out := .data [RoadT]
 pre := fun (x : RoadD × StepD × Int × Int × Int × Unit) => withPre x.1
 fn := fun (x : RoadD × StepD × Int × Int × Int × Unit) => (fWith x.1 x.2.1 x.2.2.1 x.2.2.2.1 x.2.2.2.2.1, ())
def c124 (n : Nat) : DCon where
 args := [PlanT, RoadT, PortT, .list I]
 out := .data [.list RoadT]
 pre := fun (x : PlanD × RoadD × PortD × List Int × Unit) => onPre n x.2.1 x.2.2.2.1
 fn := fun (x : PlanD × RoadD × PortD × List Int × Unit) => (fOn x.1 n x.2.1 x.2.2.1 x.2.2.2.1, ())
def c76 : DCon where
 args := [PlanT, I]
 out := .data [.list RoadT]
 pre := fun (x : PlanD × Int × Unit) => True
 fn := fun (x : PlanD × Int × Unit) => (fOf x.1 x.2.1, ())
def c46 : OCon where
 args := [.dat PlanT]
 outs := [.row 40 RoadT, .dat I]
 pre := fun (x : PlanD × Unit) => x.1.2.2.1.length ≤ 1000
 fn := fun (x : PlanD × Unit) => ((fAll x.1).1, (fAll x.1).2, ())
def c77 : DCon where
 args := [PlanT, RoadT]
 out := .data [.list PortT]
 pre := fun (x : PlanD × RoadD × Unit) => stepsOk x.2.1
 fn := fun (x : PlanD × RoadD × Unit) => (fPorts x.1 x.2.1, ())
abbrev SearchO : OTy := .cells true (.pair (.dat PlanT) (.pair (.dat I) (.pair (.dat I) (.pair (.dat I) (.pair (.row 50 StepT) (.pair (.row 62 NeedT) (.pair (.row 62 NeedT) (.pair (.row 3 I) (.pair (.row 3 I) (.pair (.dat .bool) (.row 122 PortT)))))))))))
def c152 : OCon where
 args := [SearchO, .dat I]
 outs := [.dat .bool]
 pre := fun (x : SearchD × Int × Unit) => (gZone x.1).length ≤ 1000
 fn := fun (x : SearchD × Int × Unit) => ((fZone x.1 x.2.1).1, ())
 upd := fun (x : SearchD × Int × Unit) => ((fZone x.1 x.2.1).2, x.2)
def c126 (n : Nat) : OCon where
 args := [SearchO, .dat PortT]
 outs := []
 pre := fun (x : SearchD × PortD × Unit) => comeOk n x.2.1 x.1
 fn := fun _ => ()
 upd := fun (x : SearchD × PortD × Unit) => (sCome n x.2.1 x.1, x.2)
def c78 (n : Nat) : OCon where
 args := [SearchO, .dat I, .dat I]
 outs := []
 pre := fun (x : SearchD × Int × Int × Unit) => onOk n x.1
 fn := fun _ => ()
 upd := fun (x : SearchD × Int × Int × Unit) => (sOn (sCome n) x.2.1 x.2.2.1 x.1, x.2)
def c150 (n : Nat) : OCon where
 args := [SearchO, .dat PortT]
 outs := []
 pre := fun (x : SearchD × PortD × Unit) => pointsOk n x.2.1 x.1
 fn := fun _ => ()
 upd := fun (x : SearchD × PortD × Unit) => (sPoints (sCome n) x.2.1 x.1, x.2)
def smallP : PlanD := (
 [([87], 4, 0), ([65], 1, 20), ([80], 2, 10), ([66], 1, 20), ([67], 1, 30), ([69], 4, 0)],
 [((0, 0), (1, 0)), ((1, 1), (2, 0)), ((2, 1), (3, 0)), ((3, 1), (5, 0)), ((2, 2), (4, 0))],
 [([119], (0, 0), false), ([97], (1, 1), false), ([101], (5, 0), false), ([98], (3, 0), false), ([99], (4, 0), false)],
 [], 10, 5, 15, 2, false)
def c39 : DCon where
 args := []
 out := .data [PlanT]
 pre := fun (x : Unit) => True
 fn := fun (x : Unit) => (smallP, ())
def c47 : DCon where
 args := [PlanT, RoadT]
 out := .data [RoadT]
 pre := fun (x : PlanD × RoadD × Unit) => flankPre x.1 x.2.1
 fn := fun (x : PlanD × RoadD × Unit) => (fFlank x.1 x.2.1, ())
def c19 : DCon where
 args := [PlanT]
 out := .data [ChartT, I]
 pre := fun (x : PlanD × Unit) => shortLines x.1
 fn := fun (x : PlanD × Unit) => ((fBuild x.1).1, (fBuild x.1).2, ())
def c7 : DCon where
 args := [PlanT]
 out := .data [.list RoadT, .bool]
 pre := fun (x : PlanD × Unit) => True
 fn := fun (x : PlanD × Unit) => ((fRoads x.1).1, (fRoads x.1).2, ())
end YtpnnfimacblhgaaGreat
end Go.Proofs
end

section
set_option maxRecDepth 100000
set_option linter.unusedVariables false
namespace Go.Proofs
open Go Go.Vc
namespace YtpnnfimacblhgaaGreat
def a33 (x : RoadD × Unit) : Ann := loopAnn [(3, fun _ => rowLoop x.1.2.2.2.1.length 4 3 1000 3 I (fun k => (x.1.2.2.2.1.take k).map fun s => s.1) [1] [1])]
def a149 (x : List PortD × PortD × Unit) : Ann := loopAnn [(2, fun _ => upLoop x.1.length (noneT (fun y => y == x.2.1) x.1) 5 [0, 3] [3])]
def a157 (x : List NeedD × NeedD × Unit) : Ann := loopAnn [(2, fun _ => upLoop x.1.length (noneT (fun y => y == x.2.1) x.1) 5 [0, 3] [3])]
def a46 (x : PlanD × Unit) : Ann := loopAnn [(3, fun _ => {
 σ := Nat
 ok := fun k => k ≤ x.1.2.2.1.length ∧ noneOf (allLong x.1) k
 mu := fun k => x.1.2.2.1.length - k
 sl := fun k => [(5, .one (.dat I (k : Int))), (4, .one (.row RoadT 1000))]
 bl := fun k => [(1000, .row false 40 RoadT (allUp x.1 k))]
 keep := [1]
 keepB := [1] })]
def a77 (x : PlanD × RoadD × Unit) : Ann := loopAnn [(3, fun _ => rowLoop x.2.1.2.2.2.1.length 6 5 1000 122 PortT (fun k => portsUp x.1 x.2.1 k) [2, 3] [2, 3]),
 (16, fun S => {
 σ := Nat
 ok := fun j => j ≤ (portsAt x.1 (x.2.1.2.2.2.1.getD (slotI S 6).toNat zSt)).length
 mu := fun j => (portsAt x.1 (x.2.1.2.2.2.1.getD (slotI S 6).toNat zSt)).length - j
 sl := fun j => [(10, .one (.dat I (j : Int))), (5, .one (.row PortT 1001)), (8, .one (.row PortT 1002))]
 bl := fun j => [(1001, .row false 122 PortT (portsUp x.1 x.2.1 (slotI S 6).toNat ++ portsOn x.1 ((portsAt x.1 (x.2.1.2.2.2.1.getD (slotI S 6).toNat zSt)).take j))), (1002, .row false 122 PortT (portsAt x.1 (x.2.1.2.2.2.1.getD (slotI S 6).toNat zSt)))]
 keep := [2, 3, 6]
 keepB := [2, 3] })] [29, 43, 12, 75]
def a124 (n : Nat) (x : PlanD × RoadD × PortD × List Int × Unit) : Ann := loopAnn [(9, fun _ => {
 σ := Nat
 ok := fun k => k ≤ (fOuts x.1 x.2.2.1.1 x.2.2.1.2).length
 mu := fun k => (fOuts x.1 x.2.2.1.1 x.2.2.1.2).length - k
 sl := fun k => [(11, .one (.dat I (k : Int))), (9, .one (.row RoadT 1000)), (3, .one (.row I 1001))]
 bl := fun k => [(1000, .row false 40 RoadT (onWays x.1 (fOn x.1 n) x.2.1 x.2.2.1 (x.2.2.2.1 ++ [x.2.2.1.1]) k)), (1001, .row true 3 I (x.2.2.2.1 ++ [x.2.2.1.1]))]
 keep := [4, 5, 6, 10]
 keepB := [4, 5, 6] })]
def searchBl (s : SearchD) : List (Nat × Blk) :=
 [(1000, .cells [.dat (.list ElemT) s.1.1, .dat (.list JoinT) s.1.2.1, .dat (.list SignalT) s.1.2.2.1, .dat (.list LineT) s.1.2.2.2.1, .dat I s.1.2.2.2.2.1, .dat I s.1.2.2.2.2.2.1, .dat I s.1.2.2.2.2.2.2.1, .dat I s.1.2.2.2.2.2.2.2.1, .dat .bool s.1.2.2.2.2.2.2.2.2,
  .dat I s.2.1, .dat I s.2.2.1, .dat I s.2.2.2.1, .row StepT 1001, .row NeedT 1002, .row NeedT 1003, .row I 1004, .row I 1005, .dat .bool s.2.2.2.2.2.2.2.2.2.1, .row PortT 1006]),
  (1001, .row false 50 StepT (gSteps s)), (1002, .row false 62 NeedT (gNeeds s)), (1003, .row false 62 NeedT (gGuards s)), (1004, .row false 3 I (gZone s)), (1005, .row false 3 I (gHolds s)), (1006, .row false 122 PortT (gMet s))]
def a47 (x : PlanD × RoadD × Unit) : Ann := loopAnn [(5, fun _ => {
 σ := Nat
 ok := fun k => k ≤ (fPorts x.1 x.2.1).length
 mu := fun k => (fPorts x.1 x.2.1).length - k
 sl := fun k => [(7, .one (.dat I (k : Int))), (5, .one (.ptr 1000 0))]
 bl := fun k => searchBl (flankUp x.1 x.2.1 k)
 keep := [4, 6]
 keepB := [4] })]
def a19 (x : PlanD × Unit) : Ann := loopAnn [(8, fun _ => {
 σ := Nat
 ok := fun k => k ≤ (fAll x.1).1.length
 mu := fun k => (fAll x.1).1.length - k
 sl := fun k => [(7, .one (.dat I (k : Int))), (5, .one (.row RoadT 1000))]
 bl := fun k => [(1000, .row false 40 RoadT (((fAll x.1).1.take k).map (fFlank x.1) ++ (fAll x.1).1.drop k))]
 keep := [1, 2]
 keepB := [1, 2] })]
end YtpnnfimacblhgaaGreat
end Go.Proofs
end

section
set_option maxRecDepth 100000
set_option linter.unusedVariables false
set_option linter.unusedSimpArgs false
set_option maxHeartbeats 2000000
namespace Go.Proofs
open Go Go.Vc
namespace YtpnnfimacblhgaaGreat
theorem v33 (r : RoadD) : bodyVC (ctxOf tab []) Tryz.f33 c33 (a33 (r, ())) (r, ()) = (
(∃ (s01 : Nat),
s01 ≤ r.2.2.2.1.length ∧
(↑s01 : Int) = (0 : Int) ∧
List.map (fun (s : StepD) => s.1) (List.take s01 r.2.2.2.1) = [] ∧
keepP r (True)) ∧
∀ (s1 : Nat),
lett (decide ((↑s1 : Int) < (↑r.2.2.2.1.length : Int))) fun (y2 : Bool) =>
lett (List.map (fun (s : StepD) => s.1) (List.take s1 r.2.2.2.1)) fun (y3 : List Int) =>
lett ((List.replicate (1 : Nat) (0 : Int)).set (0 : Nat) (r.2.2.2.1.getD (↑s1 : Int).toNat ((0 : Int), (0 : Int), (0 : Int))).1) fun (y4 : List Int) =>
s1 ≤ r.2.2.2.1.length →
(y2 = true →
InB (↑s1 : Int) r.2.2.2.1.length ∧
roomFor (y3.length + y4.length) (8 : Nat) ∧
InR IntKind.i64 ((↑s1 : Int) + (1 : Int)) ∧
∃ (s'5 : Nat),
s'5 ≤ r.2.2.2.1.length ∧
r.2.2.2.1.length - s'5 < r.2.2.2.1.length - s1 ∧
(↑s'5 : Int) = (↑s1 : Int) + (1 : Int) ∧
List.map (fun (s : StepD) => s.1) (List.take s'5 r.2.2.2.1) = y3 ++ y4 ∧
keepP r (True)) ∧
(y2 = false → y3 = fElems r ∧ True)) := by kernel_rfl
theorem b33 (r : RoadD) (hl : r.2.2.2.1.length ≤ 1000000) : bodyVC (ctxOf tab []) Tryz.f33 c33 (a33 (r, ())) (r, ()) := by
 rw [v33]
 simp only [keepP_eq, true_and, and_true, Int.toNat_natCast]
 refine ⟨⟨0, by omega, rfl, rfl⟩, fun s => lett.mk fun y2 e2 => lett.mk fun y3 e3 => lett.mk fun y4 e4 => ?_⟩
 intro hs
 have e4 : y4 = [(r.2.2.2.1.getD s zSt).1] := e4
 refine ⟨fun h => ?_, fun h => ?_⟩
 ·have h := lt_of_y e2 h
  refine ⟨⟨by omega, by omega⟩, roomB (by rw [e3, e4]; simp; omega) (by omega), inR64 (by omega) (by omega), s + 1, by omega, by omega, by omega, ?_⟩
  rw [map_succ _ zSt h, e3, e4]
 ·rw [e3, take_all e2 h]
  unfold fElems
  rfl
theorem ok33 : DOk Tryz.prog 33 c33 :=
 DOk.of' (l := []) (A := a33) tabOk trivial Tryz.func33 (by kernel_rfl) (by kernel_rfl) fun x _ hp => b33 x.1 hp
theorem v148 (r : RoadD) (e : Int) : bodyVC (ctxOf tab [(33, c33), (16, c16)]) Tryz.f148 c148 noAnn (r, e, ()) = (
r.2.2.2.1.length ≤ (1000000 : Nat) ∧ True ∧ fMem (fElems r) e = fOwn r e ∧ True) := by kernel_rfl
theorem ok148 : DOk Tryz.prog 148 c148 :=
 DOk.of' (l := [(33, c33), (16, c16)]) (A := fun _ => noAnn) tabOk ⟨ok33, ok16, trivial⟩ Tryz.func148 (by kernel_rfl) (by kernel_rfl) fun x _ hp => by
  obtain ⟨r, e, ⟨⟩⟩ := x
  rw [v148]
  refine ⟨hp, trivial, ?_, trivial⟩
  unfold fOwn
  rfl
theorem v149 (l : List (Int × Int)) (x : Int × Int) : bodyVC (ctxOf tab []) Tryz.f149 c149 (a149 (l, x, ())) (l, x, ()) = (
(∃ (s02 : Nat), (s02 ≤ l.length ∧ noneT (fun (y : PortD) => y == x) l s02) ∧ (↑s02 : Int) = (0 : Int) ∧ l = l ∧ x.1 = x.1 ∧ x.2 = x.2 ∧ True) ∧
∀ (s2 : Nat),
lett (decide ((↑s2 : Int) < (↑l.length : Int))) fun (y3 : Bool) =>
lett (l.getD (↑s2 : Int).toNat ((0 : Int), (0 : Int))) fun (y4 : Int × Int) =>
lett (y4.1 == x.1 && (y4.2 == x.2 && true)) fun (y5 : Bool) =>
s2 ≤ l.length ∧ noneT (fun (y : PortD) => y == x) l s2 →
(y3 = true →
InB (↑s2 : Int) l.length ∧
(y5 = true → true = fHasPort l x ∧ True) ∧
(y5 = false →
InR IntKind.i64 ((↑s2 : Int) + (1 : Int)) ∧
∃ (s'6 : Nat),
(s'6 ≤ l.length ∧ noneT (fun (y : PortD) => y == x) l s'6) ∧
l.length - s'6 < l.length - s2 ∧ (↑s'6 : Int) = (↑s2 : Int) + (1 : Int) ∧ l = l ∧ x.1 = x.1 ∧ x.2 = x.2 ∧ True)) ∧
(y3 = false → false = fHasPort l x ∧ True)) := by kernel_rfl
theorem b149 (l : List PortD) (x : PortD) (hw : l.length ≤ maxLenI) : bodyVC (ctxOf tab []) Tryz.f149 c149 (a149 (l, x, ())) (l, x, ()) := by
 rw [v149]
 simp only [true_and, and_true, Int.toNat_natCast]
 refine ⟨⟨0, ⟨by omega, rfl⟩, rfl⟩, fun s => lett.mk fun y3 e3 => lett.mk fun y4 e4 => lett.mk fun y5 e5 => ?_⟩
 rintro ⟨h1, h2⟩
 have h2 : (l.take s).any (fun y => y == x) = false := h2
 have e5 : y5 = (y4 == x) := by rw [e5]; exact portBeq _ _
 refine ⟨fun hs => ?_, fun hs => ?_⟩
 ·have hs := lt_of_y e3 hs
  refine ⟨⟨by omega, by omega⟩, fun h => ?_, fun h => ⟨inRlen hs hw, s + 1, ⟨by omega, ?_⟩, by omega, by omega⟩⟩
  ·unfold fHasPort
   exact (any_yes (p := fun y => y == x) (0, 0) hs (by rw [← h, e5, e4])).symm
  ·exact any_succ (p := fun y => y == x) (0, 0) hs h2 (by rw [← h, e5, e4])
 ·unfold fHasPort
  exact (any_full (le_of_y e3 hs) h2).symm
theorem ok149 : DOk Tryz.prog 149 c149 :=
 DOk.of' (l := []) (A := a149) tabOk trivial Tryz.func149 (by kernel_rfl) (by kernel_rfl) fun x hw _ => b149 x.1 x.2.1 hw.1.1
theorem v157 (l : List (Int × Int)) (x : Int × Int) : bodyVC (ctxOf tab []) Tryz.f157 c157 (a157 (l, x, ())) (l, x, ()) = (
(∃ (s02 : Nat), (s02 ≤ l.length ∧ noneT (fun (y : NeedD) => y == x) l s02) ∧ (↑s02 : Int) = (0 : Int) ∧ l = l ∧ x.1 = x.1 ∧ x.2 = x.2 ∧ True) ∧
∀ (s2 : Nat),
lett (decide ((↑s2 : Int) < (↑l.length : Int))) fun (y3 : Bool) =>
lett (l.getD (↑s2 : Int).toNat ((0 : Int), (0 : Int))) fun (y4 : Int × Int) =>
lett (y4.1 == x.1 && (y4.2 == x.2 && true)) fun (y5 : Bool) =>
s2 ≤ l.length ∧ noneT (fun (y : NeedD) => y == x) l s2 →
(y3 = true →
InB (↑s2 : Int) l.length ∧
(y5 = true → true = fHasNeed l x ∧ True) ∧
(y5 = false →
InR IntKind.i64 ((↑s2 : Int) + (1 : Int)) ∧
∃ (s'6 : Nat),
(s'6 ≤ l.length ∧ noneT (fun (y : NeedD) => y == x) l s'6) ∧
l.length - s'6 < l.length - s2 ∧ (↑s'6 : Int) = (↑s2 : Int) + (1 : Int) ∧ l = l ∧ x.1 = x.1 ∧ x.2 = x.2 ∧ True)) ∧
(y3 = false → false = fHasNeed l x ∧ True)) := by kernel_rfl
theorem b157 (l : List NeedD) (x : NeedD) (hw : l.length ≤ maxLenI) : bodyVC (ctxOf tab []) Tryz.f157 c157 (a157 (l, x, ())) (l, x, ()) := by
 rw [v157]
 simp only [true_and, and_true, Int.toNat_natCast]
 refine ⟨⟨0, ⟨by omega, rfl⟩, rfl⟩, fun s => lett.mk fun y3 e3 => lett.mk fun y4 e4 => lett.mk fun y5 e5 => ?_⟩
 rintro ⟨h1, h2⟩
 have h2 : (l.take s).any (fun y => y == x) = false := h2
 have e5 : y5 = (y4 == x) := by rw [e5]; exact portBeq _ _
 refine ⟨fun hs => ?_, fun hs => ?_⟩
 ·have hs := lt_of_y e3 hs
  refine ⟨⟨by omega, by omega⟩, fun h => ?_, fun h => ⟨inRlen hs hw, s + 1, ⟨by omega, ?_⟩, by omega, by omega⟩⟩
  ·unfold fHasNeed
   exact (any_yes (p := fun y => y == x) (0, 0) hs (by rw [← h, e5, e4])).symm
  ·exact any_succ (p := fun y => y == x) (0, 0) hs h2 (by rw [← h, e5, e4])
 ·unfold fHasNeed
  exact (any_full (le_of_y e3 hs) h2).symm
theorem ok157 : DOk Tryz.prog 157 c157 :=
 DOk.of' (l := []) (A := a157) tabOk trivial Tryz.func157 (by kernel_rfl) (by kernel_rfl) fun x hw _ => b157 x.1 x.2.1 hw.1.1
theorem v146 (r : RoadD) (s : Int × Int × Int) (pos : Int) (stop : Int) (to : Int) : bodyVC (ctxOf tab []) Tryz.f146 c146 noAnn (r, s, pos, stop, to, ()) = (
lett (List.replicate (0 : Nat) ((0 : Int), (0 : Int), (0 : Int))) fun (y5 : List (Int × Int × Int)) =>
lett (y5 ++ r.2.2.2.1) fun (y6 : List (Int × Int × Int)) =>
lett ((List.replicate (1 : Nat) ((0 : Int), (0 : Int), (0 : Int))).set (0 : Nat) s) fun (y7 : List (Int × Int × Int)) =>
lett (List.replicate (0 : Nat) ((0 : Int), (0 : Int)) ++ r.2.2.2.2.1) fun (y8 : List (Int × Int)) =>
lett ((List.replicate (1 : Nat) ((0 : Int), (0 : Int))).set (0 : Nat) (s.1, pos)) fun (y9 : List (Int × Int)) =>
lett ([], [], [], false) fun (y10 : List (Int × Int) × List Int × List Int × Bool) =>
lett (fWith r s pos stop to) fun (y11 : RoadD) =>
roomFor (y5.length + r.2.2.2.1.length) (24 : Nat) ∧
roomFor (y6.length + y7.length) (24 : Nat) ∧
roomFor ((List.replicate (0 : Nat) ((0 : Int), (0 : Int))).length + r.2.2.2.2.1.length) (16 : Nat) ∧
((pos != (0 : Int)) = true → roomFor (y8.length + y9.length) (16 : Nat) ∧ (r.1, to, stop, y6 ++ y7, y8 ++ y9, y10) = y11 ∧ True) ∧
((pos != (0 : Int)) = false → (r.1, to, stop, y6 ++ y7, y8, y10) = y11 ∧ True)) := by kernel_rfl
theorem b146 (r : RoadD) (s : StepD) (pos stop to : Int) (hp : withPre r) : bodyVC (ctxOf tab []) Tryz.f146 c146 noAnn (r, s, pos, stop, to, ()) := by
 obtain ⟨h1, h2⟩ := hp
 rw [v146]
 refine lett.mk fun y5 e5 => lett.mk fun y6 e6 => lett.mk fun y7 e7 => lett.mk fun y8 e8 => lett.mk fun y9 e9 => lett.mk fun y10 e10 => lett.mk fun y11 e11 => ?_
 have e5 : y5 = [] := e5
 subst e5
 have e6 : y6 = r.2.2.2.1 := e6
 have e7 : y7 = [s] := e7
 have e8 : y8 = r.2.2.2.2.1 := e8
 have e9 : y9 = [(s.1, pos)] := e9
 have hW : y11 = (r.1, to, stop, r.2.2.2.1 ++ [s], r.2.2.2.2.1 ++ (bif pos == 0 then [] else [(s.1, pos)]), [], [], [], false) := by rw [e11]; unfold fWith; rfl
 refine ⟨roomB (by simp; omega) (by omega), roomB (by rw [e6, e7]; simp; omega) (by omega), roomB (by simp; omega) (by omega), fun h => ⟨roomB (by rw [e8, e9]; simp; omega) (by omega), ?_, trivial⟩, fun h => ⟨?_, trivial⟩⟩
 ·have : (pos == 0) = false := by rw [bneB] at h; simpa using h
  rw [hW, this, e6, e7, e8, e9, e10]
  rfl
 ·have : (pos == 0) = true := by rw [bneB] at h; simpa using h
  rw [hW, this, e6, e7, e8, e10]
  simp
theorem ok146 : DOk Tryz.prog 146 c146 :=
 DOk.of' (l := []) (A := fun _ => noAnn) tabOk trivial Tryz.func146 (by kernel_rfl) (by kernel_rfl) fun x _ hp => b146 x.1 x.2.1 x.2.2.1 x.2.2.2.1 x.2.2.2.2.1 hp
theorem with_steps (r : RoadD) (s : StepD) (pos stop to : Int) : (fWith r s pos stop to).2.2.2.1 = r.2.2.2.1 ++ [s] := by unfold fWith; rfl
theorem with_needs (r : RoadD) (s : StepD) (pos stop to : Int) : (fWith r s pos stop to).2.2.2.2.1.length ≤ r.2.2.2.2.1.length + 1 := by
 unfold fWith
 show (r.2.2.2.2.1 ++ (bif pos == 0 then [] else [(s.1, pos)])).length ≤ _
 cases pos == 0 <;> simp
theorem ways_succ {p : PlanD} {rec : RoadD → PortD → List Int → List RoadD} {r : RoadD} {x : PortD} {met : List Int} {k : Nat} (h : k < (fOuts p x.1 x.2).length) :
  onWays p rec r x met (k + 1) = onWays p rec r x met k ++ onWay p rec r x met ((fOuts p x.1 x.2).getD k (0, 0)) := by
 unfold onWays
 exact flat_succ _ (0, 0) h
theorem ways_zero {p : PlanD} {rec : RoadD → PortD → List Int → List RoadD} {r : RoadD} {x : PortD} {met : List Int} : onWays p rec r x met 0 = [] := by
 unfold onWays
 rfl
theorem way_len {p : PlanD} {rec : RoadD → PortD → List Int → List RoadD} {B : Nat} (hB : 1 ≤ B) (hrec : ∀ r x met, (rec r x met).length ≤ B) (r : RoadD) (x : PortD) (met : List Int) (w : Int × Int) : (onWay p rec r x met w).length ≤ B := by
 unfold onWay
 cases decide (0 ≤ fReads p (x.1, w.1)) <;> cases !(fNext p (x.1, w.1)).2
 ·exact hrec _ _ _
 ·exact hB
 ·exact hB
 ·exact hB
theorem ways_len {p : PlanD} {rec : RoadD → PortD → List Int → List RoadD} {B : Nat} (hB : 1 ≤ B) (hrec : ∀ r x met, (rec r x met).length ≤ B) (r : RoadD) (x : PortD) (met : List Int) : ∀ k, k ≤ (fOuts p x.1 x.2).length → (onWays p rec r x met k).length ≤ k * B
 | 0, _ => by rw [ways_zero]; simp
 | k + 1, h => by
  rw [ways_succ (by omega), List.length_append, Nat.succ_mul]
  have h1 := ways_len (p := p) hB hrec r x met k (by omega)
  have h2 := way_len (p := p) hB hrec r x met ((fOuts p x.1 x.2).getD k (0, 0))
  omega
theorem on_len (p : PlanD) : ∀ (n : Nat) (r : RoadD) (x : PortD) (met : List Int), (fOn p n r x met).length ≤ 2 ^ n
 | 0, _, _, _ => by show 0 ≤ _; omega
 | n + 1, r, x, met => by
  have h1 : 1 ≤ 2 ^ n := Nat.one_le_two_pow
  have hw := ways_len (p := p) h1 (on_len p n) r x (met ++ [x.1]) (fOuts p x.1 x.2).length (Nat.le_refl _)
  have ho := outs_len p x.1 x.2
  have hm : (fOuts p x.1 x.2).length * 2 ^ n ≤ 2 * 2 ^ n := Nat.mul_le_mul_right _ ho
  have hp : 2 ^ (n + 1) = 2 * 2 ^ n := by rw [Nat.pow_succ, Nat.mul_comm]
  show (onStep p (fOn p n) r x met).length ≤ _
  unfold onStep
  cases fMem met x.1 || decide (r.2.2.2.1.length = 12) <;> cases fKind p x.1 == 4
  ·rw [cond_false, cond_false]; omega
  ·rw [cond_false, cond_true]; show 1 ≤ _; omega
  ·rw [cond_true]; show 0 ≤ _; omega
  ·rw [cond_true]; show 0 ≤ _; omega
theorem v124 (n : Nat) (p : PlanD) (r : RoadD) (x : Int × Int) (met : List Int) : bodyVC (ctxOf tab [(16, c16), (125, c125), (146, c146), (147, c147), (120, c120), (107, c107), (124, c124 n)]) Tryz.f124 (c124 (n + 1)) (a124 n (p, r, x, met, ())) (p, r, x, met, ()) = (
lett (bif fMem met x.1 then true else (↑r.2.2.2.1.length : Int) == (12 : Int)) fun (y4 : Bool) =>
lett (fOn p (n + (1 : Nat)) r x met) fun (y5 : List RoadD) =>
lett ((List.replicate (1 : Nat) (0 : Int)).set (0 : Nat) x.1) fun (y6 : List Int) =>
lett (fKind p x.1 == (4 : Int)) fun (y7 : Bool) =>
lett (List.replicate (1 : Nat) ((0 : Int), (0 : Int), (0 : Int), [], [], [], [], [], false))
fun (y8 : List (RoadD)) =>
lett (fOuts p x.1 x.2) fun (y9 : List (Int × Int)) =>
lett (met ++ [x.1]) fun (y10 : List Int) =>
True ∧
(y4 = true → [] = y5 ∧ True) ∧
(y4 = false →
roomFor ((List.replicate (0 : Nat) (0 : Int)).length + met.length) (8 : Nat) ∧
roomFor ((List.replicate (0 : Nat) (0 : Int) ++ met).length + y6.length) (8 : Nat) ∧
True ∧
(y7 = true → withPre r ∧ y8.set (0 : Nat) (fWith r (x.1, x.2, (-1 : Int)) (0 : Int) (2 : Int) (-1 : Int)) = y5 ∧ True) ∧
(y7 = false →
True ∧
(∃ (s011 : Nat),
s011 ≤ y9.length ∧
(↑s011 : Int) = (0 : Int) ∧
y9 = y9 ∧
onWays p (fOn p n) r x y10 s011 = [] ∧
y10 = List.replicate (0 : Nat) (0 : Int) ++ met ++ y6 ∧
keepP p (keepP r (x.1 = x.1 ∧ x.2 = x.2 ∧ True))) ∧
∀ (s11 : Nat),
lett (decide ((↑s11 : Int) < (↑y9.length : Int))) fun (y12 : Bool) =>
lett (y9.getD (↑s11 : Int).toNat ((0 : Int), (0 : Int))) fun (y13 : Int × Int) =>
lett (fReads p (x.1, y13.1)) fun (y14 : Int) =>
lett (onWays p (fOn p n) r x y10 s11) fun (y15 : List RoadD) =>
lett (x.1, x.2, y13.1) fun (y16 : Int × Int × Int) =>
lett (y8.set (0 : Nat) (fWith r y16 y13.2 (1 : Int) y14))
fun (y17 : List (RoadD)) =>
lett (fNext p (x.1, y13.1)) fun (y18 : PortD × Bool) =>
lett (y8.set (0 : Nat) (fWith r y16 y13.2 (3 : Int) (-1 : Int)))
fun (y19 : List (RoadD)) =>
lett (fWith r y16 y13.2 (0 : Int) (-1 : Int)) fun (y20 : RoadD) =>
lett (fOn p n y20 y18.1 y10) fun (y21 : List RoadD) =>
s11 ≤ y9.length →
(y12 = true →
InB (↑s11 : Int) y9.length ∧
InB (↑s11 : Int) y9.length ∧
True ∧
(decide (y14 ≥ (0 : Int)) = true →
InB (↑s11 : Int) y9.length ∧
withPre r ∧
roomFor (y15.length + y17.length) (152 : Nat) ∧
InR IntKind.i64 ((↑s11 : Int) + (1 : Int)) ∧
∃ (s'22 : Nat),
s'22 ≤ y9.length ∧
y9.length - s'22 < y9.length - s11 ∧
(↑s'22 : Int) = (↑s11 : Int) + (1 : Int) ∧
y9 = y9 ∧
onWays p (fOn p n) r x y10 s'22 = y15 ++ y17 ∧
y10 = y10 ∧
keepP p (keepP r (x.1 = x.1 ∧ x.2 = x.2 ∧ True))) ∧
(decide (y14 ≥ (0 : Int)) = false →
True ∧
((!y18.2) = true →
InB (↑s11 : Int) y9.length ∧
withPre r ∧
roomFor (y15.length + y19.length) (152 : Nat) ∧
InR IntKind.i64 ((↑s11 : Int) + (1 : Int)) ∧
∃ (s'22 : Nat),
s'22 ≤ y9.length ∧
y9.length - s'22 < y9.length - s11 ∧
(↑s'22 : Int) = (↑s11 : Int) + (1 : Int) ∧
y9 = y9 ∧
onWays p (fOn p n) r x y10 s'22 = y15 ++ y19 ∧
y10 = y10 ∧
keepP p (r.1 = r.1 ∧
r.2.1 = r.2.1 ∧
r.2.2.1 = r.2.2.1 ∧
r.2.2.2.1 = r.2.2.2.1 ∧
r.2.2.2.2.1 = r.2.2.2.2.1 ∧
r.2.2.2.2.2.1 = r.2.2.2.2.2.1 ∧
r.2.2.2.2.2.2.1 = r.2.2.2.2.2.2.1 ∧
r.2.2.2.2.2.2.2.1 =
r.2.2.2.2.2.2.2.1 ∧
r.2.2.2.2.2.2.2.2 =
r.2.2.2.2.2.2.2.2 ∧
x.1 = x.1 ∧ x.2 = x.2 ∧ True)) ∧
((!y18.2) = false →
InB (↑s11 : Int) y9.length ∧
withPre r ∧
onPre n y20 y10 ∧
roomFor (y15.length + y21.length) (152 : Nat) ∧
InR IntKind.i64 ((↑s11 : Int) + (1 : Int)) ∧
∃ (s'22 : Nat),
s'22 ≤ y9.length ∧
y9.length - s'22 < y9.length - s11 ∧
(↑s'22 : Int) = (↑s11 : Int) + (1 : Int) ∧
y9 = y9 ∧
onWays p (fOn p n) r x y10 s'22 = y15 ++ y21 ∧
y10 = y10 ∧
keepP p (r.1 = r.1 ∧
r.2.1 = r.2.1 ∧
r.2.2.1 = r.2.2.1 ∧
r.2.2.2.1 = r.2.2.2.1 ∧
r.2.2.2.2.1 = r.2.2.2.2.1 ∧
r.2.2.2.2.2.1 = r.2.2.2.2.2.1 ∧
r.2.2.2.2.2.2.1 = r.2.2.2.2.2.2.1 ∧
r.2.2.2.2.2.2.2.1 =
r.2.2.2.2.2.2.2.1 ∧
r.2.2.2.2.2.2.2.2 =
r.2.2.2.2.2.2.2.2 ∧
x.1 = x.1 ∧ x.2 = x.2 ∧ True)))) ∧
(y12 = false → y15 = y5 ∧ True)))) := by kernel_rfl
theorem b124 (n : Nat) (p : PlanD) (r : RoadD) (x : PortD) (met : List Int) (hp : onPre (n + 1) r met) : bodyVC (ctxOf tab [(16, c16), (125, c125), (146, c146), (147, c147), (120, c120), (107, c107), (124, c124 n)]) Tryz.f124 (c124 (n + 1)) (a124 n (p, r, x, met, ())) (p, r, x, met, ()) := by
 obtain ⟨⟨p1, p2, p3⟩, p4, p5⟩ := hp
 have hwp : withPre r := ⟨by omega, by omega⟩
 have h2n : 2 ^ n ≤ 2 ^ 12 := Nat.pow_le_pow_right (by omega) (by omega)
 have h212 : 2 ^ 12 = 4096 := by decide
 have h1n : 1 ≤ 2 ^ n := Nat.one_le_two_pow
 rw [v124]
 refine lett.mk fun y4 e4 => lett.mk fun y5 e5 => lett.mk fun y6 e6 => lett.mk fun y7 e7 => lett.mk fun y8 e8 => lett.mk fun y9 e9 => lett.mk fun y10 e10 => ?_
 have e6 : y6 = [x.1] := e6
 rw [eqN' _ 12 12 rfl] at e4
 have hS : y5 = bif y4 then [] else bif y7 then [fWith r (x.1, x.2, -1) 0 2 (-1)] else onWays p (fOn p n) r x y10 (fOuts p x.1 x.2).length := by
  rw [e5, e4, e7, e10]
  show onStep p (fOn p n) r x met = _
  unfold onStep
  have key : ∀ a b : Bool, (a || b) = (bif a then true else b) := by decide
  rw [key]
 simp only [keepP_eq, true_and, and_true, Int.toNat_natCast]
 refine ⟨fun h => by rw [hS, h]; rfl, fun h4 => ⟨roomB (by simp; omega) (by omega), roomB (by rw [e6]; simp; omega) (by omega), fun h7 => ⟨hwp, by rw [hS, h4, h7, e8]; rfl⟩, fun h7 => ⟨⟨0, by omega, rfl, ways_zero, by rw [e10, e6]; rfl⟩, fun s => lett.mk fun y12 e12 => lett.mk fun y13 e13 => lett.mk fun y14 e14 => lett.mk fun y15 e15 => lett.mk fun y16 e16 => lett.mk fun y17 e17 => lett.mk fun y18 e18 => lett.mk fun y19 e19 => lett.mk fun y20 e20 => lett.mk fun y21 e21 => ?_⟩⟩⟩
 have hol := outs_len p x.1 x.2
 rw [← e9] at hol
 intro hs
 have hwl := ways_len (p := p) h1n (on_len p n) r x y10 s (by rw [← e9]; exact hs)
 rw [← e15] at hwl
 have hsm : s * 2 ^ n ≤ 2 * 4096 := Nat.mul_le_mul (by omega) (by omega)
 have e13 : y13 = (fOuts p x.1 x.2).getD s (0, 0) := by rw [e13, e9]
 have hway : onWay p (fOn p n) r x y10 y13 = bif decide (0 ≤ y14) then [fWith r y16 y13.2 1 y14] else bif !y18.2 then [fWith r y16 y13.2 3 (-1)] else fOn p n y20 y18.1 y10 := by
  rw [e20, e18, e16, e14]
  unfold onWay
  rfl
 rw [e8] at e17 e19
 have e17 : y17 = [fWith r y16 y13.2 1 y14] := e17
 have e19 : y19 = [fWith r y16 y13.2 3 (-1)] := e19
 refine ⟨fun h => ?_, fun h => ?_⟩
 ·have h := lt_of_y e12 h
  have hin : InB (s : Int) y9.length := ⟨by omega, by omega⟩
  have hsucc := ways_succ (rec := fOn p n) (r := r) (met := y10) (k := s) (by rw [← e9]; exact h)
  rw [← e13, hway, ← e15] at hsucc
  refine ⟨hin, hin, fun h14 => ?_, fun h14 => ⟨fun h18 => ?_, fun h18 => ?_⟩⟩
  ·refine ⟨hin, hwp, roomB (by rw [e17]; simp; omega) (by omega), inR64 (by omega) (by omega), s + 1, by omega, by omega, by omega, ?_⟩
   have h14 : decide (0 ≤ y14) = true := h14
   rw [hsucc, h14, e17]
   rfl
  ·refine ⟨hin, hwp, roomB (by rw [e19]; simp; omega) (by omega), inR64 (by omega) (by omega), s + 1, by omega, by omega, by omega, ?_⟩
   have h14 : decide (0 ≤ y14) = false := h14
   rw [hsucc, h14, h18, e19]
   rfl
  ·have hl21 : y21.length ≤ 2 ^ n := by rw [e21]; exact on_len p n _ _ _
   have hst : y20.2.2.2.1.length = r.2.2.2.1.length + 1 := by rw [e20, with_steps]; simp
   have hnd : y20.2.2.2.2.1.length ≤ r.2.2.2.2.1.length + 1 := by rw [e20]; exact with_needs _ _ _ _ _
   have hne : r.2.2.2.1.length ≠ 12 := by
    rw [e4] at h4
    exact of_decide_eq_false (bif_or h4).2
   have h10 : y10.length = met.length + 1 := by rw [e10]; simp
   refine ⟨hin, hwp, ⟨⟨by omega, by omega, by omega⟩, by omega, by omega⟩, roomB (by omega) (by omega), inR64 (by omega) (by omega), s + 1, by omega, by omega, by omega, ?_⟩
   have h14 : decide (0 ≤ y14) = false := h14
   rw [hsucc, h14, h18, e21]
   rfl
 ·have hle := le_of_y e12 h
  have : s = (fOuts p x.1 x.2).length := by rw [← e9]; omega
  rw [hS, h4, h7, e15, this]
  rfl
theorem on_zero {r : RoadD} {met : List Int} : ¬ onPre 0 r met := fun hp => by
 obtain ⟨⟨p1, p2, p3⟩, _⟩ := hp
 omega
theorem ok124 : ∀ n : Nat, DOk Tryz.prog 124 (c124 n)
 | 0 => { fn := ⟨Tryz.f124, _, Tryz.func124, by kernel_rfl, rfl⟩, calls := fun F w x vs hF hx hp => absurd hp on_zero }
 | n + 1 => DOk.of' (l := [(16, c16), (125, c125), (146, c146), (147, c147), (120, c120), (107, c107), (124, c124 n)]) (A := a124 n) tabOk ⟨ok16, ok125, ok146, ok147, ok120, ok107, ok124 n, trivial⟩ Tryz.func124 (by kernel_rfl) (by kernel_rfl) fun x _ hp => b124 n x.1 x.2.1 x.2.2.1 x.2.2.2.1 hp
theorem v76 (p : PlanD) (s : Int) : bodyVC (ctxOf tab [(123, c123), (107, c107), (124, c124 13)]) Tryz.f76 c76 noAnn (p, s, ()) = (
lett (fNext p (fAt p s).1) fun (y2 : PortD × Bool) =>
lett (s, (0 : Int), (0 : Int), [], [], [], [], [], false) fun (y3 : RoadD) =>
lett ((List.replicate (1 : Nat) (0 : Int)).set (0 : Nat) (fAt p s).1.1) fun (y4 : List Int) =>
True ∧
((!(fAt p s).2) = true → [] = fOf p s ∧ True) ∧
((!(fAt p s).2) = false → True ∧ ((!y2.2) = true → [] = fOf p s ∧ True) ∧ ((!y2.2) = false → onPre (13 : Nat) y3 y4 ∧ fOn p (13 : Nat) y3 y2.1 y4 = fOf p s ∧ True))) := by kernel_rfl
theorem of_pre (s e : Int) : onPre 13 (roadFrom s) [e] :=
 ⟨⟨show 12 < 0 + 13 by omega, show 0 ≤ 12 by omega, by omega⟩, show 0 ≤ 0 by omega, show 1 ≤ 0 + 1 by omega⟩
theorem ok76 : DOk Tryz.prog 76 c76 :=
 DOk.of' (l := [(123, c123), (107, c107), (124, c124 13)]) (A := fun _ => noAnn) tabOk ⟨ok123, ok107, ok124 13, trivial⟩ Tryz.func76 (by kernel_rfl) (by kernel_rfl) fun x _ hp => by
  obtain ⟨p, s, ⟨⟩⟩ := x
  rw [v76]
  refine lett.mk fun y2 e2 => lett.mk fun y3 e3 => lett.mk fun y4 e4 => ⟨trivial, fun h => ⟨?_, trivial⟩, fun h => ⟨trivial, fun h2 => ⟨?_, trivial⟩, fun h2 => ⟨by rw [e3, e4]; exact of_pre _ _, ?_, trivial⟩⟩⟩
  ·unfold fOf
   rw [h]
   rfl
  ·unfold fOf
   rw [h, ← e2, h2]
   rfl
  ·unfold fOf
   rw [h, ← e2, h2, e3, e4]
   rfl
theorem of_len (p : PlanD) (s : Int) : (fOf p s).length ≤ 8192 := by
 unfold fOf
 have h := on_len p 13 (roadFrom s) (fNext p (fAt p s).1).1 [(fAt p s).1.1]
 have e : 2 ^ 13 = 8192 := by decide
 rw [e] at h
 cases !(fAt p s).2 <;> cases !(fNext p (fAt p s).1).2
 ·exact h
 ·exact Nat.zero_le _
 ·exact Nat.zero_le _
 ·exact Nat.zero_le _
theorem all_up_succ (p : PlanD) (k : Nat) : allUp p (k + 1) = allUp p k ++ fOf p (k : Int) := by
 unfold allUp
 rw [List.range_succ, List.flatMap_append]
 simp
theorem all_up_len {p : PlanD} {k : Nat} (h : anyTo (allLong p) k = false) : (allUp p k).length ≤ 64 := by
 cases k with
 | zero => unfold allUp; simp
 | succ k =>
  have := anyTo_none.1 h k (by omega)
  have := of_decide_eq_false this
  omega
theorem v46 (p : PlanD) : obodyVC (ctxOf tab [(76, c76)]) Tryz.f46 c46 (a46 (p, ())) (p, ()) = (
(∃ (s01 : Nat),
(s01 ≤ p.2.2.1.length ∧ noneOf (allLong p) s01) ∧
(↑s01 : Int) = (0 : Int) ∧
allUp p s01 = [] ∧
keepP p (True)) ∧
∀ (s1 : Nat),
lett (decide ((↑s1 : Int) < (↑p.2.2.1.length : Int))) fun (y2 : Bool) =>
lett (allUp p s1 ++ fOf p (↑s1 : Int)) fun (y3 : List (RoadD)) =>
lett (decide ((↑y3.length : Int) > (64 : Int))) fun (y4 : Bool) =>
s1 ≤ p.2.2.1.length ∧ noneOf (allLong p) s1 →
(y2 = true →
True ∧
roomFor ((allUp p s1).length + (fOf p (↑s1 : Int)).length) (152 : Nat) ∧
(y4 = true → [] = (fAll p).1 ∧ (3 : Int) = (fAll p).2 ∧ True) ∧
(y4 = false →
InR IntKind.i64 ((↑s1 : Int) + (1 : Int)) ∧
∃ (s'5 : Nat),
(s'5 ≤ p.2.2.1.length ∧ noneOf (allLong p) s'5) ∧
p.2.2.1.length - s'5 < p.2.2.1.length - s1 ∧
(↑s'5 : Int) = (↑s1 : Int) + (1 : Int) ∧
allUp p s'5 = y3 ∧
keepP p (True))) ∧
(y2 = false → allUp p s1 = (fAll p).1 ∧ (0 : Int) = (fAll p).2 ∧ True)) := by kernel_rfl
theorem b46 (p : PlanD) (hl : p.2.2.1.length ≤ 1000) : obodyVC (ctxOf tab [(76, c76)]) Tryz.f46 c46 (a46 (p, ())) (p, ()) := by
 have hA : fAll p = bif anyTo (allLong p) p.2.2.1.length then ([], 3) else (allUp p p.2.2.1.length, 0) := by unfold fAll; rfl
 rw [v46]
 simp only [keepP_eq, true_and, and_true, Int.toNat_natCast]
 refine ⟨⟨0, ⟨by omega, rfl⟩, rfl, by unfold allUp; rfl⟩, fun s => lett.mk fun y2 e2 => lett.mk fun y3 e3 => lett.mk fun y4 e4 => ?_⟩
 rintro ⟨h1, h2⟩
 have h2 : anyTo (allLong p) s = false := h2
 have hl2 := all_up_len h2
 have hol := of_len p s
 have e3 : y3 = allUp p (s + 1) := by rw [all_up_succ]; exact e3
 have e4 : allLong p s = y4 := by
  rw [e4, gtN _ 64 64 rfl, e3]
  unfold allLong
  by_cases h : (allUp p (s + 1)).length ≤ 64
  ·rw [decide_eq_true h, decide_eq_false (by omega)]; rfl
  ·rw [decide_eq_false h, decide_eq_true (by omega)]; rfl
 refine ⟨fun h => ?_, fun h => ?_⟩
 ·have h := lt_of_y e2 h
  refine ⟨roomB (by omega) (by omega), fun h4 => ?_, fun h4 => ⟨inR64 (by omega) (by omega), s + 1, ⟨by omega, ?_⟩, by omega, by omega, e3.symm⟩⟩
  ·rw [hA, anyTo_yes h (by rw [e4, h4])]
   exact ⟨rfl, rfl⟩
  ·exact anyTo_succ h2 (by rw [e4, h4])
 ·have hle := le_of_y e2 h
  have : s = p.2.2.1.length := by omega
  subst this
  rw [hA, h2]
  exact ⟨rfl, rfl⟩
theorem ok46 : OOk Tryz.prog 46 c46 :=
 OOk.of' (l := [(76, c76)]) (A := a46) tabOk ⟨ok76, trivial⟩ Tryz.func46 (by kernel_rfl) (by kernel_rfl) fun x _ hp => b46 x.1 hp
theorem ports_on_succ {p : PlanD} {l : List PortD} {s : Nat} (h : s < l.length) : portsOn p (l.take (s + 1)) = portsOn p (l.take s) ++ (bif (fNext p (l.getD s (0, 0))).2 then [l.getD s (0, 0)] else []) := by
 unfold portsOn
 rw [take_succ' (0, 0) h, List.filter_append]
 congr 1
theorem ports_up_succ {p : PlanD} {r : RoadD} {s : Nat} (h : s < r.2.2.2.1.length) : portsUp p r (s + 1) = portsUp p r s ++ portsOn p (portsAt p (r.2.2.2.1.getD s zSt)) := by
 unfold portsUp
 exact flat_succ _ zSt h
theorem ports_at_len (p : PlanD) (s : StepD) : (portsAt p s).length ≤ 2 := by
 unfold portsAt
 cases fKind p s.1 == 2 <;> cases fKind p s.1 == 3 <;> simp
theorem ports_on_len (p : PlanD) (l : List PortD) : (portsOn p l).length ≤ l.length := by
 unfold portsOn
 exact List.length_filter_le _ _
theorem ports_up_len (p : PlanD) (r : RoadD) : ∀ k, k ≤ r.2.2.2.1.length → (portsUp p r k).length ≤ 2 * k
 | 0, _ => by unfold portsUp; simp
 | k + 1, h => by
  rw [ports_up_succ (by omega), List.length_append]
  have h1 := ports_up_len p r k (by omega)
  have h2 := ports_on_len p (portsAt p (r.2.2.2.1.getD k zSt))
  have h3 := ports_at_len p (r.2.2.2.1.getD k zSt)
  omega
theorem v77 (p : PlanD) (r : RoadD) : bodyVC (ctxOf tab [(125, c125), (107, c107)]) Tryz.f77 c77 (a77 (p, r, ())) (p, r, ()) = (
(∃ (s02 : Nat),
s02 ≤ r.2.2.2.1.length ∧
(↑s02 : Int) = (0 : Int) ∧
portsUp p r s02 = [] ∧
keepP p (keepP r (True))) ∧
∀ (s2 : Nat),
lett (decide ((↑s2 : Int) < (↑r.2.2.2.1.length : Int))) fun (y3 : Bool) =>
lett (r.2.2.2.1.getD (↑s2 : Int).toNat ((0 : Int), (0 : Int), (0 : Int))) fun (y4 : Int × Int × Int) =>
lett (fKind p y4.1 == (2 : Int)) fun (y5 : Bool) =>
lett ((3 : Int) - max y4.2.1 y4.2.2) fun (y6 : Int) =>
lett ((List.replicate (1 : Nat) ((0 : Int), (0 : Int))).set (0 : Nat) (y4.1, y6)) fun (y7 : List (Int × Int)) =>
lett (portsAt p (r.2.2.2.1.getD (↑s2 : Int).toNat zSt)) fun (y8 : List PortD) =>
lett (portsUp p r (↑s2 : Int).toNat) fun (y9 : List PortD) =>
lett (fKind p y4.1 == (3 : Int)) fun (y10 : Bool) =>
lett (bif decide (y4.2.1 ≥ (2 : Int)) then (0 : Int) else (2 : Int)) fun (y11 : Int) =>
lett (((List.replicate (2 : Nat) ((0 : Int), (0 : Int))).set (0 : Nat) (y4.1, y11)).set (1 : Nat) (y4.1, y11 + (1 : Int))) fun (y12 : List (Int × Int)) =>
s2 ≤ r.2.2.2.1.length →
(y3 = true →
InB (↑s2 : Int) r.2.2.2.1.length ∧
True ∧
(y5 = true →
InR IntKind.i64 y6 ∧
roomFor y7.length (16 : Nat) ∧
(∃ (s013 : Nat),
s013 ≤ y8.length ∧
(↑s013 : Int) = (0 : Int) ∧
(↑s2 : Int) = (↑s2 : Int) ∧
y9 ++ portsOn p (List.take s013 y8) = portsUp p r s2 ∧
y8 = y7 ∧
keepP p (keepP r (True))) ∧
∀ (s13 : Nat),
lett (decide ((↑s13 : Int) < (↑y8.length : Int))) fun (y14 : Bool) =>
lett (y8.getD (↑s13 : Int).toNat ((0 : Int), (0 : Int))) fun (y15 : Int × Int) =>
lett (y9 ++ portsOn p (List.take s13 y8)) fun (y16 : List PortD) =>
lett ((List.replicate (1 : Nat) ((0 : Int), (0 : Int))).set (0 : Nat) y15) fun (y17 : List (Int × Int)) =>
s13 ≤ y8.length →
(y14 = true →
InB (↑s13 : Int) y8.length ∧
True ∧
((fNext p y15).2 = true →
InB (↑s13 : Int) y8.length ∧
roomFor (y16.length + y17.length) (16 : Nat) ∧
InR IntKind.i64 ((↑s13 : Int) + (1 : Int)) ∧
∃ (s'18 : Nat),
s'18 ≤ y8.length ∧
y8.length - s'18 < y8.length - s13 ∧
(↑s'18 : Int) = (↑s13 : Int) + (1 : Int) ∧
(↑s2 : Int) = (↑s2 : Int) ∧
y9 ++ portsOn p (List.take s'18 y8) = y16 ++ y17 ∧
y8 = y8 ∧
keepP p (keepP r (True))) ∧
((fNext p y15).2 = false →
InR IntKind.i64 ((↑s13 : Int) + (1 : Int)) ∧
∃ (s'18 : Nat),
s'18 ≤ y8.length ∧
y8.length - s'18 < y8.length - s13 ∧
(↑s'18 : Int) = (↑s13 : Int) + (1 : Int) ∧
(↑s2 : Int) = (↑s2 : Int) ∧
y9 ++ portsOn p (List.take s'18 y8) = y16 ∧
y8 = y8 ∧
keepP p (keepP r (True)))) ∧
(y14 = false →
InR IntKind.i64 ((↑s2 : Int) + (1 : Int)) ∧
∃ (s'18 : Nat),
s'18 ≤ r.2.2.2.1.length ∧
r.2.2.2.1.length - s'18 < r.2.2.2.1.length - s2 ∧
(↑s'18 : Int) = (↑s2 : Int) + (1 : Int) ∧
portsUp p r s'18 = y16 ∧
keepP p (keepP r (True)))) ∧
(y5 = false →
(y10 = true →
InR IntKind.i64 (y11 + (1 : Int)) ∧
roomFor y12.length (16 : Nat) ∧
(∃ (s013 : Nat),
s013 ≤ y8.length ∧
(↑s013 : Int) = (0 : Int) ∧
(↑s2 : Int) = (↑s2 : Int) ∧
y9 ++ portsOn p (List.take s013 y8) = portsUp p r s2 ∧
y8 = y12 ∧
keepP p (keepP r (True))) ∧
∀ (s13 : Nat),
lett (decide ((↑s13 : Int) < (↑y8.length : Int))) fun (y14 : Bool) =>
lett (y8.getD (↑s13 : Int).toNat ((0 : Int), (0 : Int))) fun (y15 : Int × Int) =>
lett (y9 ++ portsOn p (List.take s13 y8)) fun (y16 : List PortD) =>
lett ((List.replicate (1 : Nat) ((0 : Int), (0 : Int))).set (0 : Nat) y15) fun (y17 : List (Int × Int)) =>
s13 ≤ y8.length →
(y14 = true →
InB (↑s13 : Int) y8.length ∧
True ∧
((fNext p y15).2 = true →
InB (↑s13 : Int) y8.length ∧
roomFor (y16.length + y17.length) (16 : Nat) ∧
InR IntKind.i64 ((↑s13 : Int) + (1 : Int)) ∧
∃ (s'18 : Nat),
s'18 ≤ y8.length ∧
y8.length - s'18 < y8.length - s13 ∧
(↑s'18 : Int) = (↑s13 : Int) + (1 : Int) ∧
(↑s2 : Int) = (↑s2 : Int) ∧
y9 ++ portsOn p (List.take s'18 y8) = y16 ++ y17 ∧
y8 = y8 ∧
keepP p (keepP r (True))) ∧
((fNext p y15).2 = false →
InR IntKind.i64 ((↑s13 : Int) + (1 : Int)) ∧
∃ (s'18 : Nat),
s'18 ≤ y8.length ∧
y8.length - s'18 < y8.length - s13 ∧
(↑s'18 : Int) = (↑s13 : Int) + (1 : Int) ∧
(↑s2 : Int) = (↑s2 : Int) ∧
y9 ++ portsOn p (List.take s'18 y8) = y16 ∧
y8 = y8 ∧
keepP p (keepP r (True)))) ∧
(y14 = false →
InR IntKind.i64 ((↑s2 : Int) + (1 : Int)) ∧
∃ (s'18 : Nat),
s'18 ≤ r.2.2.2.1.length ∧
r.2.2.2.1.length - s'18 < r.2.2.2.1.length - s2 ∧
(↑s'18 : Int) = (↑s2 : Int) + (1 : Int) ∧
portsUp p r s'18 = y16 ∧
keepP p (keepP r (True)))) ∧
(y10 = false →
(∃ (s013 : Nat),
s013 ≤ y8.length ∧
(↑s013 : Int) = (0 : Int) ∧
(↑s2 : Int) = (↑s2 : Int) ∧
y9 ++ portsOn p (List.take s013 y8) = portsUp p r s2 ∧
y8 = [] ∧
keepP p (keepP r (True))) ∧
∀ (s13 : Nat),
lett (decide ((↑s13 : Int) < (↑y8.length : Int))) fun (y14 : Bool) =>
lett (y8.getD (↑s13 : Int).toNat ((0 : Int), (0 : Int))) fun (y15 : Int × Int) =>
lett (y9 ++ portsOn p (List.take s13 y8)) fun (y16 : List PortD) =>
lett ((List.replicate (1 : Nat) ((0 : Int), (0 : Int))).set (0 : Nat) y15) fun (y17 : List (Int × Int)) =>
s13 ≤ y8.length →
(y14 = true →
InB (↑s13 : Int) y8.length ∧
True ∧
((fNext p y15).2 = true →
InB (↑s13 : Int) y8.length ∧
roomFor (y16.length + y17.length) (16 : Nat) ∧
InR IntKind.i64 ((↑s13 : Int) + (1 : Int)) ∧
∃ (s'18 : Nat),
s'18 ≤ y8.length ∧
y8.length - s'18 < y8.length - s13 ∧
(↑s'18 : Int) = (↑s13 : Int) + (1 : Int) ∧
(↑s2 : Int) = (↑s2 : Int) ∧
y9 ++ portsOn p (List.take s'18 y8) = y16 ++ y17 ∧
y8 = y8 ∧
keepP p (keepP r (True))) ∧
((fNext p y15).2 = false →
InR IntKind.i64 ((↑s13 : Int) + (1 : Int)) ∧
∃ (s'18 : Nat),
s'18 ≤ y8.length ∧
y8.length - s'18 < y8.length - s13 ∧
(↑s'18 : Int) = (↑s13 : Int) + (1 : Int) ∧
(↑s2 : Int) = (↑s2 : Int) ∧
y9 ++ portsOn p (List.take s'18 y8) = y16 ∧
y8 = y8 ∧
keepP p (keepP r (True)))) ∧
(y14 = false →
InR IntKind.i64 ((↑s2 : Int) + (1 : Int)) ∧
∃ (s'18 : Nat),
s'18 ≤ r.2.2.2.1.length ∧
r.2.2.2.1.length - s'18 < r.2.2.2.1.length - s2 ∧
(↑s'18 : Int) = (↑s2 : Int) + (1 : Int) ∧
portsUp p r s'18 = y16 ∧
keepP p (keepP r (True)))))) ∧
(y3 = false → portsUp p r s2 = fPorts p r ∧ True)) := by kernel_rfl
theorem ports_inner {p : PlanD} {r : RoadD} {s j : Nat} {y8 y9 y16 : List PortD} {y14 : Bool} {y15 : PortD} {y17 : List PortD} (hl : r.2.2.2.1.length ≤ 1000) (hs : s < r.2.2.2.1.length)
  (e8 : y8 = portsAt p (r.2.2.2.1.getD s zSt)) (e9 : y9 = portsUp p r s) (hj : j ≤ y8.length)
  (e14 : y14 = decide ((j : Int) < (y8.length : Int))) (e15 : y15 = y8.getD j (0, 0)) (e16 : y16 = y9 ++ portsOn p (y8.take j)) (e17 : y17 = [y15]) :
  (y14 = true → InB (j : Int) y8.length ∧
   ((fNext p y15).2 = true → InB (j : Int) y8.length ∧ roomFor (y16.length + y17.length) 16 ∧ InR IntKind.i64 ((j : Int) + 1) ∧
    ∃ s', s' ≤ y8.length ∧ y8.length - s' < y8.length - j ∧ (s' : Int) = (j : Int) + 1 ∧ y9 ++ portsOn p (y8.take s') = y16 ++ y17) ∧
   ((fNext p y15).2 = false → InR IntKind.i64 ((j : Int) + 1) ∧
    ∃ s', s' ≤ y8.length ∧ y8.length - s' < y8.length - j ∧ (s' : Int) = (j : Int) + 1 ∧ y9 ++ portsOn p (y8.take s') = y16)) ∧
  (y14 = false → InR IntKind.i64 ((s : Int) + 1) ∧ ∃ s', s' ≤ r.2.2.2.1.length ∧ r.2.2.2.1.length - s' < r.2.2.2.1.length - s ∧ (s' : Int) = (s : Int) + 1 ∧ portsUp p r s' = y16) := by
 have hl8 : y8.length ≤ 2 := by rw [e8]; exact ports_at_len _ _
 have hl9 : y9.length ≤ 2 * s := by rw [e9]; exact ports_up_len p r s (by omega)
 have hl16 : y16.length ≤ 4000 := by
  have := ports_on_len p (y8.take j)
  rw [List.length_take] at this
  rw [e16, List.length_append]
  omega
 refine ⟨fun h => ?_, fun h => ?_⟩
 ·have h := lt_of_y e14 h
  have hsucc := ports_on_succ (p := p) h
  rw [← e15] at hsucc
  refine ⟨⟨by omega, by omega⟩, fun hn => ⟨⟨by omega, by omega⟩, roomB (by rw [e17]; simp; omega) (by omega), inR64 (by omega) (by omega), j + 1, by omega, by omega, by omega, ?_⟩, fun hn => ⟨inR64 (by omega) (by omega), j + 1, by omega, by omega, by omega, ?_⟩⟩
  ·rw [hsucc, hn, e16, e17, List.append_assoc]
   rfl
  ·rw [hsucc, hn, e16, cond_false, List.append_nil]
 ·refine ⟨inR64 (by omega) (by omega), s + 1, by omega, by omega, by omega, ?_⟩
  rw [ports_up_succ hs, ← e8, ← e9, e16, take_all e14 h]
theorem b77 (p : PlanD) (r : RoadD) (hp : stepsOk r) : bodyVC (ctxOf tab [(125, c125), (107, c107)]) Tryz.f77 c77 (a77 (p, r, ())) (p, r, ()) := by
 obtain ⟨hl, hst⟩ := hp
 rw [v77]
 simp only [keepP_eq, true_and, and_true, Int.toNat_natCast]
 refine ⟨⟨0, by omega, rfl, by unfold portsUp; rfl⟩, fun s => lett.mk fun y3 e3 => lett.mk fun y4 e4 => lett.mk fun y5 e5 => lett.mk fun y6 e6 => lett.mk fun y7 e7 => lett.mk fun y8 e8 => lett.mk fun y9 e9 => lett.mk fun y10 e10 => lett.mk fun y11 e11 => lett.mk fun y12 e12 => ?_⟩
 intro hs
 have e4 : y4 = r.2.2.2.1.getD s zSt := e4
 have hP : y8 = bif y5 then [(y4.1, 3 - max y4.2.1 y4.2.2)] else bif y10 then [(y4.1, crossOf y4), (y4.1, crossOf y4 + 1)] else [] := by
  rw [e8, ← e4, e5, e10]
  unfold portsAt
  rfl
 refine ⟨fun h => ?_, fun h => ?_⟩
 ·have h := lt_of_y e3 h
  obtain ⟨⟨q1, q2⟩, q3, q4⟩ := hst y4 (by rw [e4]; exact mem_getD zSt h)
  have e7 : y7 = [(y4.1, y6)] := e7
  have e12 : y12 = [(y4.1, y11), (y4.1, y11 + 1)] := e12
  have e11 : y11 = crossOf y4 := e11
  have hc : crossOf y4 = 0 ∨ crossOf y4 = 2 := by
   unfold crossOf
   cases decide (2 ≤ y4.2.1)
   ·exact .inr rfl
   ·exact .inl rfl
  have h0 : y9 ++ portsOn p (List.take 0 y8) = portsUp p r s := by
   rw [e9]
   unfold portsOn
   simp
  refine ⟨⟨by omega, by omega⟩, fun h5 => ⟨inR64 (by omega) (by omega), roomB (by rw [e7]; simp) (by omega), ⟨0, by omega, rfl, h0, by rw [hP, h5, e7, e6]; rfl⟩, fun j => lett.mk fun y14 e14 => lett.mk fun y15 e15 => lett.mk fun y16 e16 => lett.mk fun y17 e17 => fun hj => ports_inner hl h e8 e9 hj e14 e15 e16 e17⟩, fun h5 => ⟨fun h10 => ⟨inR64 (by omega) (by omega), roomB (by rw [e12]; simp) (by omega), ⟨0, by omega, rfl, h0, by rw [hP, h5, h10, e12, e11]; rfl⟩, fun j => lett.mk fun y14 e14 => lett.mk fun y15 e15 => lett.mk fun y16 e16 => lett.mk fun y17 e17 => fun hj => ports_inner hl h e8 e9 hj e14 e15 e16 e17⟩, fun h10 => ⟨⟨0, by omega, rfl, h0, by rw [hP, h5, h10]; rfl⟩, fun j => lett.mk fun y14 e14 => lett.mk fun y15 e15 => lett.mk fun y16 e16 => lett.mk fun y17 e17 => fun hj => ports_inner hl h e8 e9 hj e14 e15 e16 e17⟩⟩⟩
 ·have hle := le_of_y e3 h
  have : s = r.2.2.2.1.length := by omega
  subst this
  unfold fPorts
  rfl
theorem ok77 : DOk Tryz.prog 77 c77 :=
 DOk.of' (l := [(125, c125), (107, c107)]) (A := a77) tabOk ⟨ok125, ok107, trivial⟩ Tryz.func77 (by kernel_rfl) (by kernel_rfl) fun x _ hp => b77 x.1 x.2.1 hp
end YtpnnfimacblhgaaGreat
end Go.Proofs
end

section
set_option maxRecDepth 100000
set_option linter.unusedVariables false
set_option linter.unusedSimpArgs false
set_option maxHeartbeats 2000000
namespace Go.Proofs
open Go Go.Vc
namespace YtpnnfimacblhgaaGreat
theorem eqS {a b : SearchD} (h : a = b) : a.1 = b.1 ∧ a.2.1 = b.2.1 ∧ a.2.2.1 = b.2.2.1 ∧ a.2.2.2.1 = b.2.2.2.1 ∧ a.2.2.2.2.1 = b.2.2.2.2.1 ∧ a.2.2.2.2.2.1 = b.2.2.2.2.2.1 ∧ a.2.2.2.2.2.2.1 = b.2.2.2.2.2.2.1 ∧
  a.2.2.2.2.2.2.2.1 = b.2.2.2.2.2.2.2.1 ∧ a.2.2.2.2.2.2.2.2.1 = b.2.2.2.2.2.2.2.2.1 ∧ a.2.2.2.2.2.2.2.2.2.1 = b.2.2.2.2.2.2.2.2.2.1 ∧ a.2.2.2.2.2.2.2.2.2.2 = b.2.2.2.2.2.2.2.2.2.2 ∧ True := by
 subst h
 exact ⟨rfl, rfl, rfl, rfl, rfl, rfl, rfl, rfl, rfl, rfl, rfl, trivial⟩
theorem nodup_len {α : Type} [BEq α] [LawfulBEq α] : ∀ {l m : List α}, l.Nodup → (∀ x ∈ l, x ∈ m) → l.length ≤ m.length
 | [], _, _, _ => Nat.zero_le _
 | x :: l, m, hn, hs => by
  obtain ⟨h1, h2⟩ := List.nodup_cons.1 hn
  have hx := hs x (by simp)
  have ih := nodup_len (m := m.erase x) h2 fun y hy => by
   have hy' := hs y (List.mem_cons_of_mem _ hy)
   have hne : y ≠ x := fun e => h1 (e ▸ hy)
   exact (List.mem_erase_of_ne hne).2 hy'
  have hl := List.length_erase_of_mem hx
  have hpos : 0 < m.length := List.length_pos_of_mem hx
  rw [List.length_cons]
  omega
structure Keeps (s s' : SearchD) : Prop where
 inv : SInv s'
 plan : s'.1 = s.1
 met : (gMet s).length ≤ (gMet s').length
theorem Keeps.refl {s : SearchD} (h : SInv s) : Keeps s s := ⟨h, rfl, Nat.le_refl _⟩
theorem Keeps.trans {a b c : SearchD} (h : Keeps a b) (k : Keeps b c) : Keeps a c := ⟨k.inv, k.plan.trans h.plan, Nat.le_trans h.met k.met⟩
theorem Keeps.onOk {s s' : SearchD} {n : Nat} (h : Keeps s s') (k : onOk n s) : onOk n s' := ⟨h.inv, by rw [h.plan]; have := k.2; have := h.met; omega⟩
theorem bare_keeps {s : SearchD} (h : SInv s) : Keeps s (sBare s) := ⟨⟨h.joined, h.joins, h.nodup, h.sub, h.guards, h.holds, h.zone, h.steps⟩, rfl, Nat.le_refl _⟩
theorem zone_keeps {s : SearchD} (h : SInv s) (e : Int) : Keeps s (fZone s e).2 ∧ gMet (fZone s e).2 = gMet s := by
 unfold fZone
 cases fMem (gZone s) e with
 | true => exact ⟨.refl h, rfl⟩
 | false =>
  cases hd : decide (12 ≤ (gZone s).length) with
  | true => exact ⟨bare_keeps h, rfl⟩
  | false =>
   have hd := of_decide_eq_false hd
   refine ⟨⟨⟨h.joined, h.joins, h.nodup, h.sub, h.guards, h.holds, ?_, h.steps⟩, rfl, Nat.le_refl _⟩, rfl⟩
   show (gZone s ++ [e]).length ≤ 12
   rw [List.length_append]
   show (gZone s).length + 1 ≤ 12
   omega
theorem on_keeps {rec : PortD → SearchD → SearchD} {n : Nat} (hrec : ∀ y s, comeOk n y s → Keeps s (rec y s)) (e stop : Int) {s : SearchD} (h : onOk n s) : Keeps s (sOn rec e stop s) := by
 unfold sOn
 cases hn : (fNext s.1 (e, stop)).2 with
 | true => exact hrec _ _ ⟨h, next_mem hn⟩
 | false => exact .refl h.1
theorem points_keeps {rec : PortD → SearchD → SearchD} {n : Nat} (hrec : ∀ y s, comeOk n y s → Keeps s (rec y s)) {y : PortD} {s : SearchD} (h : pointsOk n y s) : Keeps s (sPoints rec y s) := by
 obtain ⟨⟨h1, h2⟩, h3⟩ := h
 obtain ⟨hz, _⟩ := zone_keeps h1.1 y.1
 unfold sPoints
 cases y.2 == 0 with
 | true =>
  cases (fZone s y.1).1 with
  | true =>
   have k1 := on_keeps hrec y.1 1 (hz.onOk h1)
   have k2 := on_keeps hrec y.1 2 (k1.onOk (hz.onOk h1))
   exact hz.trans (k1.trans k2)
  | false => exact hz
 | false =>
  cases !fHasNeed (gNeeds s) (y.1, y.2) && !fHasNeed (gGuards s) (y.1, y.2) with
  | true =>
   cases fHasNeed (gGuards s) (y.1, 3 - y.2) with
   | true => exact .refl h1.1
   | false =>
    refine ⟨⟨h1.1.joined, h1.1.joins, h1.1.nodup, h1.1.sub, ?_, h1.1.holds, h1.1.zone, h1.1.steps⟩, rfl, Nat.le_refl _⟩
    show (gGuards s ++ [(y.1, 3 - y.2)]).length ≤ (gMet s).length
    rw [List.length_append]
    show (gGuards s).length + 1 ≤ _
    omega
  | false =>
   cases (fZone s y.1).1 with
   | true => exact hz.trans (on_keeps hrec y.1 0 (hz.onOk h1))
   | false => exact hz
theorem new_keeps {rec : PortD → SearchD → SearchD} {n : Nat} (hrec : ∀ y s, comeOk n y s → Keeps s (rec y s)) {y : PortD} {s : SearchD} (h : pointsOk n y s) (hh : (gHolds s).length < (gMet s).length) : Keeps s (sNew rec y s) := by
 have h1 := h.1.1
 obtain ⟨hz, _⟩ := zone_keeps h1.1 y.1
 unfold sNew
 cases decide (0 ≤ fReads s.1 y) && !s.1.2.2.2.2.2.2.2.2 with
 | true =>
  cases fMem (gHolds s) (fReads s.1 y) with
  | true => exact .refl h1.1
  | false =>
   refine ⟨⟨h1.1.joined, h1.1.joins, h1.1.nodup, h1.1.sub, h1.1.guards, ?_, h1.1.zone, h1.1.steps⟩, rfl, Nat.le_refl _⟩
   show (gHolds s ++ [fReads s.1 y]).length ≤ (gMet s).length
   rw [List.length_append]
   show (gHolds s).length + 1 ≤ _
   omega
 | false =>
  cases fKind s.1 y.1 == 4 with
  | true => exact bare_keeps h1.1
  | false =>
   cases fKind s.1 y.1 == 2 with
   | true => exact points_keeps hrec h
   | false =>
    cases (fZone s y.1).1 with
    | true => exact hz.trans (on_keeps hrec _ _ (hz.onOk h1))
    | false => exact hz
theorem met_more {s : SearchD} {n : Nat} {y : PortD} (h : comeOk (n + 1) y s) (hy : fHasPort (gMet s) y = false) :
  pointsOk n y (sMet s (gMet s ++ [y])) ∧ (gHolds (sMet s (gMet s ++ [y]))).length < (gMet (sMet s (gMet s ++ [y]))).length ∧ Keeps s (sMet s (gMet s ++ [y])) := by
 obtain ⟨⟨h1, h2⟩, h3⟩ := h
 have hl : (gMet (sMet s (gMet s ++ [y]))).length = (gMet s).length + 1 := by
  show (gMet s ++ [y]).length = _
  rw [List.length_append]
  rfl
 have hnot : y ∉ gMet s := fun hm => by
  unfold fHasPort at hy
  have := List.any_eq_false.1 hy y hm
  simp at this
 have inv : SInv (sMet s (gMet s ++ [y])) := by
  refine ⟨h1.joined, h1.joins, ?_, ?_, ?_, ?_, h1.zone, h1.steps⟩
  ·show (gMet s ++ [y]).Nodup
   rw [List.nodup_append]
   refine ⟨h1.nodup, by simp, fun a ha b hb => ?_⟩
   have : b = y := by simpa using hb
   subst this
   exact fun e => hnot (e ▸ ha)
  ·intro z hz
   have hz : z ∈ gMet s ++ [y] := hz
   rcases List.mem_append.1 hz with hz | hz
   ·exact h1.sub z hz
   ·have : z = y := by simpa using hz
    rw [this]; exact h3
  ·rw [hl]; have := h1.guards; show (gGuards s).length ≤ _; omega
  ·rw [hl]; have := h1.holds; show (gHolds s).length ≤ _; omega
 refine ⟨⟨⟨⟨inv, ?_⟩, h3⟩, ?_⟩, ?_, ⟨inv, rfl, by rw [hl]; omega⟩⟩
 ·rw [hl]; show (joinEnds s.1).length < _; omega
 ·rw [hl]; have := h1.guards; show (gGuards s).length < _; omega
 ·rw [hl]; have := h1.holds; show (gHolds s).length < _; omega
theorem come_zero {y : PortD} {s : SearchD} : ¬ comeOk 0 y s := fun h => by
 have := nodup_len h.1.1.nodup h.1.1.sub
 have := h.1.2
 omega
theorem come_keeps : ∀ (n : Nat) (y : PortD) (s : SearchD), comeOk n y s → Keeps s (sCome n y s)
 | 0, y, s, h => absurd h come_zero
 | n + 1, y, s, h => by
  show Keeps s (sStep (sCome n) y s)
  unfold sStep
  cases hb : fOwn (sRoad s) y.1 || fHasPort (gMet s) y with
  | true => exact .refl h.1.1
  | false =>
   rw [Bool.or_eq_false_iff] at hb
   obtain ⟨k1, k2, k3⟩ := met_more h hb.2
   exact k3.trans (new_keeps (come_keeps n) k1 k2)
theorem v152 (s : SearchD) (e : Int) : obodyVC (ctxOf tab [(16, c16)]) Tryz.f152 c152 noAnn (s, e, ()) = (
lett (fMem s.2.2.2.2.2.2.2.1 e) fun (y2 : Bool) =>
lett (fZone s e).2.2.2 fun (y3 : Int × Int × List (Int × Int × Int) × List (Int × Int) × List (Int × Int) × List Int × List Int × Bool × List (Int × Int)) =>
lett (decide ((↑s.2.2.2.2.2.2.2.1.length : Int) ≥ (12 : Int))) fun (y4 : Bool) =>
lett ((List.replicate (1 : Nat) (0 : Int)).set (0 : Nat) e) fun (y5 : List Int) =>
True ∧
(y2 = true →
true = (fZone s e).1 ∧
s.1 = (fZone s e).2.1 ∧
s.2.1 = (fZone s e).2.2.1 ∧
s.2.2.1 = y3.1 ∧
s.2.2.2.1 = y3.2.1 ∧
s.2.2.2.2.1 = y3.2.2.1 ∧
s.2.2.2.2.2.1 = y3.2.2.2.1 ∧
s.2.2.2.2.2.2.1 = y3.2.2.2.2.1 ∧
s.2.2.2.2.2.2.2.1 = y3.2.2.2.2.2.1 ∧
s.2.2.2.2.2.2.2.2.1 = y3.2.2.2.2.2.2.1 ∧
s.2.2.2.2.2.2.2.2.2.1 = y3.2.2.2.2.2.2.2.1 ∧
s.2.2.2.2.2.2.2.2.2.2 = y3.2.2.2.2.2.2.2.2 ∧ True) ∧
(y2 = false →
(y4 = true →
false = (fZone s e).1 ∧
s.1 = (fZone s e).2.1 ∧
s.2.1 = (fZone s e).2.2.1 ∧
s.2.2.1 = y3.1 ∧
s.2.2.2.1 = y3.2.1 ∧
s.2.2.2.2.1 = y3.2.2.1 ∧
s.2.2.2.2.2.1 = y3.2.2.2.1 ∧
s.2.2.2.2.2.2.1 = y3.2.2.2.2.1 ∧
s.2.2.2.2.2.2.2.1 = y3.2.2.2.2.2.1 ∧
s.2.2.2.2.2.2.2.2.1 = y3.2.2.2.2.2.2.1 ∧
true = y3.2.2.2.2.2.2.2.1 ∧ s.2.2.2.2.2.2.2.2.2.2 = y3.2.2.2.2.2.2.2.2 ∧ True) ∧
(y4 = false →
roomFor (s.2.2.2.2.2.2.2.1.length + y5.length) (8 : Nat) ∧
true = (fZone s e).1 ∧
s.1 = (fZone s e).2.1 ∧
s.2.1 = (fZone s e).2.2.1 ∧
s.2.2.1 = y3.1 ∧
s.2.2.2.1 = y3.2.1 ∧
s.2.2.2.2.1 = y3.2.2.1 ∧
s.2.2.2.2.2.1 = y3.2.2.2.1 ∧
s.2.2.2.2.2.2.1 = y3.2.2.2.2.1 ∧
s.2.2.2.2.2.2.2.1 ++ y5 = y3.2.2.2.2.2.1 ∧
s.2.2.2.2.2.2.2.2.1 = y3.2.2.2.2.2.2.1 ∧
s.2.2.2.2.2.2.2.2.2.1 = y3.2.2.2.2.2.2.2.1 ∧
s.2.2.2.2.2.2.2.2.2.2 = y3.2.2.2.2.2.2.2.2 ∧ True))) := by kernel_rfl
theorem b152 (s : SearchD) (e : Int) (hz : (gZone s).length ≤ 1000) : obodyVC (ctxOf tab [(16, c16)]) Tryz.f152 c152 noAnn (s, e, ()) := by
 have hz : s.2.2.2.2.2.2.2.1.length ≤ 1000 := hz
 rw [v152]
 refine lett.mk fun y2 e2 => lett.mk fun y3 e3 => lett.mk fun y4 e4 => lett.mk fun y5 e5 => ?_
 have e5 : y5 = [e] := e5
 rw [geN _ 12 12 rfl] at e4
 subst e3
 have hZ : fZone s e = bif y2 then (true, s) else bif y4 then (false, sBare s) else (true, sZone s (gZone s ++ [e])) := by
  rw [e2, e4]
  unfold fZone
  rfl
 refine ⟨trivial, fun h => ⟨by rw [hZ, h]; rfl, eqS (by rw [hZ, h]; rfl)⟩, fun h => ⟨fun h4 => ⟨by rw [hZ, h, h4]; rfl, eqS (a := sBare s) (by rw [hZ, h, h4]; rfl)⟩, fun h4 => ⟨roomB (by rw [e5]; simp; omega) (by omega), by rw [hZ, h, h4]; rfl, ?_⟩⟩⟩
 rw [e5]
 exact eqS (a := sZone s (gZone s ++ [e])) (by rw [hZ, h, h4]; rfl)
theorem ok152 : OOk Tryz.prog 152 c152 :=
 OOk.of' (l := [(16, c16)]) (A := fun _ => noAnn) tabOk ⟨ok16, trivial⟩ Tryz.func152 (by kernel_rfl) (by kernel_rfl) fun x _ hp => b152 x.1 x.2.1 hp
theorem v78 (n : Nat) (s : SearchD) (e : Int) (stop : Int) : obodyVC (ctxOf tab [(107, c107), (126, c126 n)]) Tryz.f78 (c78 n) noAnn (s, e, stop, ()) = (
lett (fNext s.1 (e, stop)) fun (y3 : PortD × Bool) =>
lett (sOn (sCome n) e stop s) fun (y4 : SearchD) =>
lett (sCome n y3.1 s).2 fun (y5 : Int × Int × Int × List (Int × Int × Int) × List (Int × Int) × List (Int × Int) × List Int × List Int × Bool × List (Int × Int)) =>
True ∧
(y3.2 = true →
comeOk n y3.1 s ∧
(sCome n y3.1 s).1 = y4.1 ∧
y5.1 = y4.2.1 ∧
y5.2.1 = y4.2.2.1 ∧
y5.2.2.1 = y4.2.2.2.1 ∧
y5.2.2.2.1 = y4.2.2.2.2.1 ∧
y5.2.2.2.2.1 = y4.2.2.2.2.2.1 ∧
y5.2.2.2.2.2.1 = y4.2.2.2.2.2.2.1 ∧
y5.2.2.2.2.2.2.1 = y4.2.2.2.2.2.2.2.1 ∧
y5.2.2.2.2.2.2.2.1 = y4.2.2.2.2.2.2.2.2.1 ∧
y5.2.2.2.2.2.2.2.2.1 = y4.2.2.2.2.2.2.2.2.2.1 ∧
y5.2.2.2.2.2.2.2.2.2 = y4.2.2.2.2.2.2.2.2.2.2 ∧ True) ∧
(y3.2 = false →
s.1 = y4.1 ∧
s.2.1 = y4.2.1 ∧
s.2.2.1 = y4.2.2.1 ∧
s.2.2.2.1 = y4.2.2.2.1 ∧
s.2.2.2.2.1 = y4.2.2.2.2.1 ∧
s.2.2.2.2.2.1 = y4.2.2.2.2.2.1 ∧
s.2.2.2.2.2.2.1 = y4.2.2.2.2.2.2.1 ∧
s.2.2.2.2.2.2.2.1 = y4.2.2.2.2.2.2.2.1 ∧
s.2.2.2.2.2.2.2.2.1 = y4.2.2.2.2.2.2.2.2.1 ∧
s.2.2.2.2.2.2.2.2.2.1 = y4.2.2.2.2.2.2.2.2.2.1 ∧
s.2.2.2.2.2.2.2.2.2.2 = y4.2.2.2.2.2.2.2.2.2.2 ∧ True)) := by kernel_rfl
theorem b78 (n : Nat) (s : SearchD) (e stop : Int) (hp : onOk n s) : obodyVC (ctxOf tab [(107, c107), (126, c126 n)]) Tryz.f78 (c78 n) noAnn (s, e, stop, ()) := by
 rw [v78]
 refine lett.mk fun y3 e3 => lett.mk fun y4 e4 => lett.mk fun y5 e5 => ?_
 subst e5
 have hS : y4 = bif y3.2 then sCome n y3.1 s else s := by
  rw [e4, e3]
  unfold sOn
  rfl
 refine ⟨trivial, fun h => ⟨⟨hp, by rw [e3] at h ⊢; exact next_mem h⟩, eqS (by rw [hS, h]; rfl)⟩, fun h => eqS (by rw [hS, h]; rfl)⟩
theorem v150 (n : Nat) (s : SearchD) (y : Int × Int) : obodyVC (ctxOf tab [(152, c152), (157, c157), (78, c78 n)]) Tryz.f150 (c150 n) noAnn (s, y, ()) = (
lett (sOn (sCome n) y.1 (1 : Int) (fZone s y.1).2) fun (y2 : SearchD) =>
lett (sOn (sCome n) y.1 (2 : Int) y2) fun (y3 : SearchD) =>
lett (sPoints (sCome n) y s).1
fun (y4 : PlanD) =>
lett (sPoints (sCome n) y s).2 fun (y5 : Int × Int × Int × List (Int × Int × Int) × List (Int × Int) × List (Int × Int) × List Int × List Int × Bool × List (Int × Int)) =>
lett (fZone s y.1).2.2 fun (y6 : Int × Int × Int × List (Int × Int × Int) × List (Int × Int) × List (Int × Int) × List Int × List Int × Bool × List (Int × Int)) =>
lett (!fHasNeed s.2.2.2.2.2.1 y) fun (y7 : Bool) =>
lett (bif y7 then !fHasNeed s.2.2.2.2.2.2.1 y else false) fun (y8 : Bool) =>
lett (y.1, (3 : Int) - y.2) fun (y9 : Int × Int) =>
lett (!fHasNeed s.2.2.2.2.2.2.1 y9) fun (y10 : Bool) =>
lett ((List.replicate (1 : Nat) ((0 : Int), (0 : Int))).set (0 : Nat) y9) fun (y11 : List (Int × Int)) =>
lett (sOn (sCome n) y.1 (0 : Int) (fZone s y.1).2) fun (y12 : SearchD) =>
((y.2 == (0 : Int)) = true →
(gZone s).length ≤ (1000 : Nat) ∧
((fZone s y.1).1 = true →
onOk n (fZone s y.1).2 ∧
onOk n y2 ∧
y3.1 = y4 ∧
y3.2.1 = y5.1 ∧
y3.2.2.1 = y5.2.1 ∧
y3.2.2.2.1 = y5.2.2.1 ∧
y3.2.2.2.2.1 = y5.2.2.2.1 ∧
y3.2.2.2.2.2.1 = y5.2.2.2.2.1 ∧
y3.2.2.2.2.2.2.1 = y5.2.2.2.2.2.1 ∧
y3.2.2.2.2.2.2.2.1 = y5.2.2.2.2.2.2.1 ∧
y3.2.2.2.2.2.2.2.2.1 = y5.2.2.2.2.2.2.2.1 ∧
y3.2.2.2.2.2.2.2.2.2.1 = y5.2.2.2.2.2.2.2.2.1 ∧
y3.2.2.2.2.2.2.2.2.2.2 = y5.2.2.2.2.2.2.2.2.2 ∧ True) ∧
((fZone s y.1).1 = false →
(fZone s y.1).2.1 = y4 ∧
y6.1 = y5.1 ∧
y6.2.1 = y5.2.1 ∧
y6.2.2.1 = y5.2.2.1 ∧
y6.2.2.2.1 = y5.2.2.2.1 ∧
y6.2.2.2.2.1 = y5.2.2.2.2.1 ∧
y6.2.2.2.2.2.1 = y5.2.2.2.2.2.1 ∧
y6.2.2.2.2.2.2.1 = y5.2.2.2.2.2.2.1 ∧
y6.2.2.2.2.2.2.2.1 = y5.2.2.2.2.2.2.2.1 ∧
y6.2.2.2.2.2.2.2.2.1 = y5.2.2.2.2.2.2.2.2.1 ∧
y6.2.2.2.2.2.2.2.2.2 = y5.2.2.2.2.2.2.2.2.2 ∧ True)) ∧
((y.2 == (0 : Int)) = false →
InR IntKind.i64 ((3 : Int) - y.2) ∧
True ∧
(y7 = true → True) ∧
(y8 = true →
True ∧
(y10 = true →
roomFor (s.2.2.2.2.2.2.1.length + y11.length) (16 : Nat) ∧
s.1 = y4 ∧
s.2.1 = y5.1 ∧
s.2.2.1 = y5.2.1 ∧
s.2.2.2.1 = y5.2.2.1 ∧
s.2.2.2.2.1 = y5.2.2.2.1 ∧
s.2.2.2.2.2.1 = y5.2.2.2.2.1 ∧
s.2.2.2.2.2.2.1 ++ y11 = y5.2.2.2.2.2.1 ∧
s.2.2.2.2.2.2.2.1 = y5.2.2.2.2.2.2.1 ∧
s.2.2.2.2.2.2.2.2.1 = y5.2.2.2.2.2.2.2.1 ∧
s.2.2.2.2.2.2.2.2.2.1 = y5.2.2.2.2.2.2.2.2.1 ∧
s.2.2.2.2.2.2.2.2.2.2 = y5.2.2.2.2.2.2.2.2.2 ∧ True) ∧
(y10 = false →
s.1 = y4 ∧
s.2.1 = y5.1 ∧
s.2.2.1 = y5.2.1 ∧
s.2.2.2.1 = y5.2.2.1 ∧
s.2.2.2.2.1 = y5.2.2.2.1 ∧
s.2.2.2.2.2.1 = y5.2.2.2.2.1 ∧
s.2.2.2.2.2.2.1 = y5.2.2.2.2.2.1 ∧
s.2.2.2.2.2.2.2.1 = y5.2.2.2.2.2.2.1 ∧
s.2.2.2.2.2.2.2.2.1 = y5.2.2.2.2.2.2.2.1 ∧
s.2.2.2.2.2.2.2.2.2.1 = y5.2.2.2.2.2.2.2.2.1 ∧
s.2.2.2.2.2.2.2.2.2.2 = y5.2.2.2.2.2.2.2.2.2 ∧ True)) ∧
(y8 = false →
(gZone s).length ≤ (1000 : Nat) ∧
((fZone s y.1).1 = true →
onOk n (fZone s y.1).2 ∧
y12.1 = y4 ∧
y12.2.1 = y5.1 ∧
y12.2.2.1 = y5.2.1 ∧
y12.2.2.2.1 = y5.2.2.1 ∧
y12.2.2.2.2.1 = y5.2.2.2.1 ∧
y12.2.2.2.2.2.1 = y5.2.2.2.2.1 ∧
y12.2.2.2.2.2.2.1 = y5.2.2.2.2.2.1 ∧
y12.2.2.2.2.2.2.2.1 = y5.2.2.2.2.2.2.1 ∧
y12.2.2.2.2.2.2.2.2.1 = y5.2.2.2.2.2.2.2.1 ∧
y12.2.2.2.2.2.2.2.2.2.1 = y5.2.2.2.2.2.2.2.2.1 ∧
y12.2.2.2.2.2.2.2.2.2.2 = y5.2.2.2.2.2.2.2.2.2 ∧ True) ∧
((fZone s y.1).1 = false →
(fZone s y.1).2.1 = y4 ∧
y6.1 = y5.1 ∧
y6.2.1 = y5.2.1 ∧
y6.2.2.1 = y5.2.2.1 ∧
y6.2.2.2.1 = y5.2.2.2.1 ∧
y6.2.2.2.2.1 = y5.2.2.2.2.1 ∧
y6.2.2.2.2.2.1 = y5.2.2.2.2.2.1 ∧
y6.2.2.2.2.2.2.1 = y5.2.2.2.2.2.2.1 ∧
y6.2.2.2.2.2.2.2.1 = y5.2.2.2.2.2.2.2.1 ∧
y6.2.2.2.2.2.2.2.2.1 = y5.2.2.2.2.2.2.2.2.1 ∧
y6.2.2.2.2.2.2.2.2.2 = y5.2.2.2.2.2.2.2.2.2 ∧ True)))) := by kernel_rfl
theorem port_end {s : SearchD} (h : SInv s) {y : PortD} (hy : y ∈ joinEnds s.1) : 0 ≤ y.2 ∧ y.2 ≤ 3 := by
 obtain ⟨i, hi, he⟩ := List.mem_iff_getElem.1 hy
 have hj := h.joined
 unfold fJoined at hj
 rw [Bool.and_eq_true] at hj
 have := allTo_iff.1 hj.1 i hi
 unfold endOk at this
 rw [Bool.and_eq_true, getD_at zP hi, he] at this
 exact has_end this.1
theorem smet_len (s : SearchD) (h : SInv s) : (gMet s).length ≤ 2000 := by
 have := nodup_len h.nodup h.sub
 have hlen : ∀ l : List JoinD, (l.flatMap fun j => [j.1, j.2]).length = 2 * l.length := fun l => by
  induction l with
  | nil => rfl
  | cons x l ih => rw [List.flatMap_cons, List.length_append, ih, List.length_cons]; simp; omega
 have he : (joinEnds s.1).length = 2 * s.1.2.1.length := hlen s.1.2.1
 have := h.joins
 omega
theorem b150 (n : Nat) (s : SearchD) (y : PortD) (hp : pointsOk n y s) : obodyVC (ctxOf tab [(152, c152), (157, c157), (78, c78 n)]) Tryz.f150 (c150 n) noAnn (s, y, ()) := by
 have h1 := hp.1.1
 have hm := smet_len s h1.1
 have hend := port_end h1.1 hp.1.2
 obtain ⟨hz, _⟩ := zone_keeps h1.1 y.1
 have hzl : (gZone s).length ≤ 1000 := by have := h1.1.zone; omega
 have hgl : s.2.2.2.2.2.2.1.length ≤ 2000 := by
  have := h1.1.guards
  show (gGuards s).length ≤ 2000
  omega
 rw [v150]
 refine lett.mk fun y2 e2 => lett.mk fun y3 e3 => lett.mk fun y4 e4 => lett.mk fun y5 e5 => lett.mk fun y6 e6 => lett.mk fun y7 e7 => lett.mk fun y8 e8 => lett.mk fun y9 e9 => lett.mk fun y10 e10 => lett.mk fun y11 e11 => lett.mk fun y12 e12 => ?_
 subst e4 e5 e6
 have e11 : y11 = [y9] := e11
 have hS : sPoints (sCome n) y s = bif y.2 == 0 then (bif (fZone s y.1).1 then y3 else (fZone s y.1).2) else
   bif y8 then (bif !y10 then s else sGuard s (gGuards s ++ [y9])) else (bif (fZone s y.1).1 then y12 else (fZone s y.1).2) := by
  rw [e3, e2, e12, e8, e7, e10, e9, Bool.not_not]
  have key : ∀ a b : Bool, (bif a then b else false) = (a && b) := by decide
  rw [key]
  unfold sPoints
  rfl
 refine ⟨fun h => ⟨hzl, fun hf => ⟨hz.onOk h1, ?_, eqS (by rw [hS, h, hf]; rfl)⟩, fun hf => eqS (a := (fZone s y.1).2) (by rw [hS, h, hf]; rfl)⟩, fun h => ⟨inR64 (by omega) (by omega), trivial, fun _ => trivial, fun h8 => ⟨trivial, fun h10 => ⟨roomB (by rw [e11]; simp; omega) (by omega), ?_⟩, fun h10 => eqS (by rw [hS, h, h8, h10]; rfl)⟩, fun h8 => ⟨hzl, fun hf => ⟨hz.onOk h1, eqS (by rw [hS, h, h8, hf]; rfl)⟩, fun hf => eqS (a := (fZone s y.1).2) (by rw [hS, h, h8, hf]; rfl)⟩⟩⟩
 ·rw [e2]
  exact (on_keeps (come_keeps n) y.1 1 (hz.onOk h1)).onOk (hz.onOk h1)
 ·rw [e11]
  exact eqS (a := sGuard s (gGuards s ++ [y9])) (by rw [hS, h, h8, h10]; rfl)
theorem v126 (n : Nat) (s : SearchD) (y : Int × Int) : obodyVC (ctxOf tab [(148, c148), (149, c149), (120, c120), (16, c16), (125, c125), (150, c150 n), (151, c151), (152, c152), (78, c78 n)]) Tryz.f126 (c126 (n + 1)) noAnn (s, y, ()) = (
lett
(fOwn
(s.2.1, s.2.2.1, s.2.2.2.1, s.2.2.2.2.1, s.2.2.2.2.2.1, s.2.2.2.2.2.2.1, s.2.2.2.2.2.2.2.1,
s.2.2.2.2.2.2.2.2.1, s.2.2.2.2.2.2.2.2.2.1)
y.1)
fun (y2 : Bool) =>
lett (bif y2 then true else fHasPort s.2.2.2.2.2.2.2.2.2.2 y) fun (y3 : Bool) =>
lett (sCome (n + (1 : Nat)) y s) fun (y4 : SearchD) =>
lett ((List.replicate (1 : Nat) ((0 : Int), (0 : Int))).set (0 : Nat) y) fun (y5 : List (Int × Int)) =>
lett (bif decide (fReads s.1 y ≥ (0 : Int)) then !s.1.2.2.2.2.2.2.2.2 else false) fun (y6 : Bool) =>
lett (!fMem s.2.2.2.2.2.2.2.2.1 (fReads s.1 y)) fun (y7 : Bool) =>
lett ((List.replicate (1 : Nat) (0 : Int)).set (0 : Nat) (fReads s.1 y)) fun (y8 : List Int) =>
lett (s.2.2.2.2.2.2.2.2.2.2 ++ y5) fun (y9 : List (Int × Int)) =>
lett (fKind s.1 y.1 == (4 : Int)) fun (y10 : Bool) =>
lett (fKind s.1 y.1 == (2 : Int)) fun (y11 : Bool) =>
lett
(s.1, s.2.1, s.2.2.1, s.2.2.2.1, s.2.2.2.2.1, s.2.2.2.2.2.1, s.2.2.2.2.2.2.1, s.2.2.2.2.2.2.2.1,
s.2.2.2.2.2.2.2.2.1, s.2.2.2.2.2.2.2.2.2.1, y9)
fun
(y12 :
SearchD) =>
lett (sPoints (sCome n) y y12).2 fun (y13 : Int × Int × Int × List (Int × Int × Int) × List (Int × Int) × List (Int × Int) × List Int × List Int × Bool × List (Int × Int)) =>
lett (sOn (sCome n) y.1 (fFrom s.1 y.1 y.2 (0 : Int)).1 (fZone y12 y.1).2) fun (y14 : SearchD) =>
lett (fZone y12 y.1).2.2 fun (y15 : Int × Int × Int × List (Int × Int × Int) × List (Int × Int) × List (Int × Int) × List Int × List Int × Bool × List (Int × Int)) =>
s.2.2.2.2.1.length ≤ (1000000 : Nat) ∧
(y2 = false → True) ∧
(y3 = true →
s.1 = y4.1 ∧
s.2.1 = y4.2.1 ∧
s.2.2.1 = y4.2.2.1 ∧
s.2.2.2.1 = y4.2.2.2.1 ∧
s.2.2.2.2.1 = y4.2.2.2.2.1 ∧
s.2.2.2.2.2.1 = y4.2.2.2.2.2.1 ∧
s.2.2.2.2.2.2.1 = y4.2.2.2.2.2.2.1 ∧
s.2.2.2.2.2.2.2.1 = y4.2.2.2.2.2.2.2.1 ∧
s.2.2.2.2.2.2.2.2.1 = y4.2.2.2.2.2.2.2.2.1 ∧
s.2.2.2.2.2.2.2.2.2.1 = y4.2.2.2.2.2.2.2.2.2.1 ∧
s.2.2.2.2.2.2.2.2.2.2 = y4.2.2.2.2.2.2.2.2.2.2 ∧ True) ∧
(y3 = false →
roomFor (s.2.2.2.2.2.2.2.2.2.2.length + y5.length) (16 : Nat) ∧
True ∧
(y6 = true →
True ∧
(y7 = true →
roomFor (s.2.2.2.2.2.2.2.2.1.length + y8.length) (8 : Nat) ∧
s.1 = y4.1 ∧
s.2.1 = y4.2.1 ∧
s.2.2.1 = y4.2.2.1 ∧
s.2.2.2.1 = y4.2.2.2.1 ∧
s.2.2.2.2.1 = y4.2.2.2.2.1 ∧
s.2.2.2.2.2.1 = y4.2.2.2.2.2.1 ∧
s.2.2.2.2.2.2.1 = y4.2.2.2.2.2.2.1 ∧
s.2.2.2.2.2.2.2.1 = y4.2.2.2.2.2.2.2.1 ∧
s.2.2.2.2.2.2.2.2.1 ++ y8 = y4.2.2.2.2.2.2.2.2.1 ∧
s.2.2.2.2.2.2.2.2.2.1 = y4.2.2.2.2.2.2.2.2.2.1 ∧
y9 = y4.2.2.2.2.2.2.2.2.2.2 ∧ True) ∧
(y7 = false →
s.1 = y4.1 ∧
s.2.1 = y4.2.1 ∧
s.2.2.1 = y4.2.2.1 ∧
s.2.2.2.1 = y4.2.2.2.1 ∧
s.2.2.2.2.1 = y4.2.2.2.2.1 ∧
s.2.2.2.2.2.1 = y4.2.2.2.2.2.1 ∧
s.2.2.2.2.2.2.1 = y4.2.2.2.2.2.2.1 ∧
s.2.2.2.2.2.2.2.1 = y4.2.2.2.2.2.2.2.1 ∧
s.2.2.2.2.2.2.2.2.1 = y4.2.2.2.2.2.2.2.2.1 ∧
s.2.2.2.2.2.2.2.2.2.1 = y4.2.2.2.2.2.2.2.2.2.1 ∧
y9 = y4.2.2.2.2.2.2.2.2.2.2 ∧ True)) ∧
(y6 = false →
True ∧
(y10 = true →
s.1 = y4.1 ∧
s.2.1 = y4.2.1 ∧
s.2.2.1 = y4.2.2.1 ∧
s.2.2.2.1 = y4.2.2.2.1 ∧
s.2.2.2.2.1 = y4.2.2.2.2.1 ∧
s.2.2.2.2.2.1 = y4.2.2.2.2.2.1 ∧
s.2.2.2.2.2.2.1 = y4.2.2.2.2.2.2.1 ∧
s.2.2.2.2.2.2.2.1 = y4.2.2.2.2.2.2.2.1 ∧
s.2.2.2.2.2.2.2.2.1 = y4.2.2.2.2.2.2.2.2.1 ∧
true = y4.2.2.2.2.2.2.2.2.2.1 ∧ y9 = y4.2.2.2.2.2.2.2.2.2.2 ∧ True) ∧
(y10 = false →
(y11 = true →
pointsOk n y y12 ∧
(sPoints (sCome n) y y12).1 = y4.1 ∧
y13.1 = y4.2.1 ∧
y13.2.1 = y4.2.2.1 ∧
y13.2.2.1 = y4.2.2.2.1 ∧
y13.2.2.2.1 = y4.2.2.2.2.1 ∧
y13.2.2.2.2.1 = y4.2.2.2.2.2.1 ∧
y13.2.2.2.2.2.1 = y4.2.2.2.2.2.2.1 ∧
y13.2.2.2.2.2.2.1 = y4.2.2.2.2.2.2.2.1 ∧
y13.2.2.2.2.2.2.2.1 = y4.2.2.2.2.2.2.2.2.1 ∧
y13.2.2.2.2.2.2.2.2.1 = y4.2.2.2.2.2.2.2.2.2.1 ∧
y13.2.2.2.2.2.2.2.2.2 = y4.2.2.2.2.2.2.2.2.2.2 ∧ True) ∧
(y11 = false →
True ∧
(gZone y12).length ≤ (1000 : Nat) ∧
((fZone y12 y.1).1 = true →
onOk n (fZone y12 y.1).2 ∧
y14.1 = y4.1 ∧
y14.2.1 = y4.2.1 ∧
y14.2.2.1 = y4.2.2.1 ∧
y14.2.2.2.1 = y4.2.2.2.1 ∧
y14.2.2.2.2.1 = y4.2.2.2.2.1 ∧
y14.2.2.2.2.2.1 = y4.2.2.2.2.2.1 ∧
y14.2.2.2.2.2.2.1 = y4.2.2.2.2.2.2.1 ∧
y14.2.2.2.2.2.2.2.1 = y4.2.2.2.2.2.2.2.1 ∧
y14.2.2.2.2.2.2.2.2.1 = y4.2.2.2.2.2.2.2.2.1 ∧
y14.2.2.2.2.2.2.2.2.2.1 = y4.2.2.2.2.2.2.2.2.2.1 ∧
y14.2.2.2.2.2.2.2.2.2.2 = y4.2.2.2.2.2.2.2.2.2.2 ∧ True) ∧
((fZone y12 y.1).1 = false →
(fZone y12 y.1).2.1 = y4.1 ∧
y15.1 = y4.2.1 ∧
y15.2.1 = y4.2.2.1 ∧
y15.2.2.1 = y4.2.2.2.1 ∧
y15.2.2.2.1 = y4.2.2.2.2.1 ∧
y15.2.2.2.2.1 = y4.2.2.2.2.2.1 ∧
y15.2.2.2.2.2.1 = y4.2.2.2.2.2.2.1 ∧
y15.2.2.2.2.2.2.1 = y4.2.2.2.2.2.2.2.1 ∧
y15.2.2.2.2.2.2.2.1 = y4.2.2.2.2.2.2.2.2.1 ∧
y15.2.2.2.2.2.2.2.2.1 = y4.2.2.2.2.2.2.2.2.2.1 ∧
y15.2.2.2.2.2.2.2.2.2 = y4.2.2.2.2.2.2.2.2.2.2 ∧ True)))))) := by kernel_rfl
theorem b126 (n : Nat) (s : SearchD) (y : PortD) (hp : comeOk (n + 1) y s) : obodyVC (ctxOf tab [(148, c148), (149, c149), (120, c120), (16, c16), (125, c125), (150, c150 n), (151, c151), (152, c152), (78, c78 n)]) Tryz.f126 (c126 (n + 1)) noAnn (s, y, ()) := by
 have h1 := hp.1
 have hm := smet_len s h1.1
 have hst : s.2.2.2.2.1.length ≤ 1000 := h1.1.steps
 have hhl : s.2.2.2.2.2.2.2.2.1.length ≤ 2000 := by
  have := h1.1.holds
  show (gHolds s).length ≤ 2000
  omega
 have hml : s.2.2.2.2.2.2.2.2.2.2.length ≤ 2000 := hm
 rw [v126]
 refine lett.mk fun y2 e2 => lett.mk fun y3 e3 => lett.mk fun y4 e4 => lett.mk fun y5 e5 => lett.mk fun y6 e6 => lett.mk fun y7 e7 => lett.mk fun y8 e8 => lett.mk fun y9 e9 => lett.mk fun y10 e10 => lett.mk fun y11 e11 => lett.mk fun y12 e12 => lett.mk fun y13 e13 => lett.mk fun y14 e14 => lett.mk fun y15 e15 => ?_
 subst e13 e15
 have e5 : y5 = [y] := e5
 have e8 : y8 = [fReads s.1 y] := e8
 have e12 : y12 = sMet s (gMet s ++ [y]) := by rw [e12, e9, e5]; rfl
 have e9 : y9 = gMet s ++ [y] := by rw [e9, e5]
 have e2 : y2 = fOwn (sRoad s) y.1 := by rw [e2]; unfold sRoad; rfl
 have hS : y4 = bif y3 then s else sNew (sCome n) y y12 := by
  rw [e4, e3, e2, e12]
  show sStep (sCome n) y s = _
  unfold sStep
  have key : ∀ a b : Bool, (a || b) = (bif a then true else b) := by decide
  rw [key]
 have hN : sNew (sCome n) y y12 = bif y6 then (bif !y7 then y12 else sHold y12 (gHolds s ++ [fReads s.1 y])) else
   bif y10 then sBare y12 else bif y11 then sPoints (sCome n) y y12 else (bif (fZone y12 y.1).1 then y14 else (fZone y12 y.1).2) := by
  rw [e14, e6, e7, e10, e11, e12, Bool.not_not]
  have key : ∀ a b : Bool, (bif a then b else false) = (a && b) := by decide
  rw [key]
  unfold sNew
  rfl
 refine ⟨by omega, fun _ => trivial, fun h => eqS (by rw [hS, h]; rfl), fun h => ?_⟩
 have hfp : fHasPort (gMet s) y = false := by
  rw [h] at e3
  exact (bif_or e3.symm).2
 obtain ⟨k1, k2, k3⟩ := met_more hp hfp
 rw [← e12] at k1 k2 k3
 rw [h, cond_false, hN] at hS
 obtain ⟨hz, _⟩ := zone_keeps k1.1.1.1 y.1
 have hzl : (gZone y12).length ≤ 1000 := by have := k1.1.1.1.zone; omega
 refine ⟨roomB (by rw [e5]; simp; omega) (by omega), trivial, fun h6 => ⟨trivial, fun h7 => ⟨roomB (by rw [e8]; simp; omega) (by omega), ?_⟩, fun h7 => ?_⟩, fun h6 => ⟨trivial, fun h10 => ?_, fun h10 => ⟨fun h11 => ⟨k1, eqS (by rw [hS, h6, h10, h11]; rfl)⟩, fun h11 => ⟨trivial, hzl, fun hf => ⟨hz.onOk k1.1.1, eqS (by rw [hS, h6, h10, h11, hf]; rfl)⟩, fun hf => eqS (a := (fZone y12 y.1).2) (by rw [hS, h6, h10, h11, hf]; rfl)⟩⟩⟩⟩
 ·rw [e8, e9]
  exact eqS (a := sHold (sMet s (gMet s ++ [y])) (gHolds s ++ [fReads s.1 y])) (by rw [hS, h6, h7, e12]; rfl)
 ·rw [e9]
  exact eqS (a := sMet s (gMet s ++ [y])) (by rw [hS, h6, h7, e12]; rfl)
 ·rw [e9]
  exact eqS (a := sBare (sMet s (gMet s ++ [y]))) (by rw [hS, h6, h10, e12]; rfl)
theorem ok126 : ∀ n : Nat, OOk Tryz.prog 126 (c126 n)
 | 0 => { fn := ⟨Tryz.f126, _, Tryz.func126, by kernel_rfl, rfl⟩, okA := by decide, okO := by decide, calls := fun F w x vs pl h1 h2 h3 h4 h5 hp h6 => absurd hp come_zero }
 | n + 1 => by
  have k26 : OOk Tryz.prog 78 (c78 n) := OOk.of' (l := [(107, c107), (126, c126 n)]) (A := fun _ => noAnn) tabOk ⟨ok107, ok126 n, trivial⟩ Tryz.func78 (by kernel_rfl) (by kernel_rfl) fun x _ hp => b78 n x.1 x.2.1 x.2.2.1 hp
  have k46 : OOk Tryz.prog 150 (c150 n) := OOk.of' (l := [(152, c152), (157, c157), (78, c78 n)]) (A := fun _ => noAnn) tabOk ⟨ok152, ok157, k26, trivial⟩ Tryz.func150 (by kernel_rfl) (by kernel_rfl) fun x _ hp => b150 n x.1 x.2.1 hp
  exact OOk.of' (l := [(148, c148), (149, c149), (120, c120), (16, c16), (125, c125), (150, c150 n), (151, c151), (152, c152), (78, c78 n)]) (A := fun _ => noAnn) tabOk ⟨ok148, ok149, ok120, ok16, ok125, k46, ok151, ok152, k26, trivial⟩ Tryz.func126 (by kernel_rfl) (by kernel_rfl) fun x _ hp => b126 n x.1 x.2.1 hp
theorem ok78 (n : Nat) : OOk Tryz.prog 78 (c78 n) :=
 OOk.of' (l := [(107, c107), (126, c126 n)]) (A := fun _ => noAnn) tabOk ⟨ok107, ok126 n, trivial⟩ Tryz.func78 (by kernel_rfl) (by kernel_rfl) fun x _ hp => b78 n x.1 x.2.1 x.2.2.1 hp
theorem check_facts {p : PlanD} (h : fCheck p = 0) : fSizes p = true ∧ fJoined p = true := by
 unfold fCheck at h
 cases h1 : fSizes p with
 | false => rw [h1] at h; have h : (3 : Int) = 0 := h; exact absurd h (by decide)
 | true =>
  rw [h1] at h
  cases h2 : fArgs p with
  | false => rw [h2] at h; have h : (1 : Int) = 0 := h; exact absurd h (by decide)
  | true =>
   rw [h2] at h
   cases h3 : (fTwice (p.1.map fun e => e.1) || (fTwice (p.2.2.1.map fun s => s.1) || fTwice (p.2.2.2.1.map fun l => l.1))) with
   | true => rw [h3] at h; have h : (4 : Int) = 0 := h; exact absurd h (by decide)
   | false =>
    rw [h3] at h
    cases h4 : fJoined p with
    | false => rw [h4] at h; have h : (6 : Int) = 0 := h; exact absurd h (by decide)
    | true => exact ⟨rfl, rfl⟩
theorem sizes_facts {p : PlanD} (h : fSizes p = true) : p.1.length ≤ 40 ∧ p.2.2.1.length ≤ 24 ∧ p.2.2.2.1.length ≤ 4 ∧ p.2.1.length ≤ 80 := by
 unfold fSizes at h
 simp only [Bool.and_eq_true] at h
 exact ⟨of_decide_eq_true h.1, of_decide_eq_true h.2.1, of_decide_eq_true h.2.2.1, of_decide_eq_true h.2.2.2⟩
theorem ends_len (p : PlanD) : (joinEnds p).length = 2 * p.2.1.length := by
 have hlen : ∀ l : List JoinD, (l.flatMap fun j => [j.1, j.2]).length = 2 * l.length := fun l => by
  induction l with
  | nil => rfl
  | cons x l ih => rw [List.flatMap_cons, List.length_append, ih, List.length_cons]; simp; omega
 exact hlen p.2.1
theorem flank_on {p : PlanD} {r : RoadD} (h : flankPre p r) : ∀ k, onOk 161 (flankUp p r k) ∧ (flankUp p r k).1 = p
 | 0 => by
  obtain ⟨h1, ⟨h2, _⟩, _⟩ := h
  obtain ⟨h3, h4⟩ := check_facts h1
  obtain ⟨_, _, _, h5⟩ := sizes_facts h3
  have := ends_len p
  refine ⟨⟨⟨h4, ?_, List.nodup_nil, (fun y hy => by cases hy), Nat.zero_le _, Nat.zero_le _, Nat.zero_le _, h2⟩, ?_⟩, rfl⟩
  ·show p.2.1.length ≤ 1000
   omega
  ·show (joinEnds p).length < 0 + 161
   omega
 | k + 1 => by
  obtain ⟨ih1, ih2⟩ := flank_on h k
  have hk := on_keeps (come_keeps 161) ((fPorts p r).getD k zP).1 ((fPorts p r).getD k zP).2 ih1
  exact ⟨hk.onOk ih1, hk.plan.trans ih2⟩
theorem v47 (p : PlanD) (r : RoadD) : bodyVC (ctxOf tab [(77, c77), (78, c78 161)]) Tryz.f47 c47 (a47 (p, r, ())) (p, r, ()) = (
lett (List.replicate (0 : Nat) ((0 : Int), (0 : Int), (0 : Int))) fun (y2 : List (Int × Int × Int)) =>
roomFor (y2.length + r.2.2.2.1.length) (24 : Nat) ∧
roomFor ((List.replicate (0 : Nat) ((0 : Int), (0 : Int))).length + r.2.2.2.2.1.length) (16 : Nat) ∧
stepsOk r ∧
(∃ (s03 : Nat),
s03 ≤ (fPorts p r).length ∧
(↑s03 : Int) = (0 : Int) ∧
fPorts p r = fPorts p r ∧
(flankUp p r s03).1.1 = p.1 ∧
(flankUp p r s03).1.2.1 = p.2.1 ∧
(flankUp p r s03).1.2.2.1 = p.2.2.1 ∧
(flankUp p r s03).1.2.2.2.1 = p.2.2.2.1 ∧
(flankUp p r s03).1.2.2.2.2.1 = p.2.2.2.2.1 ∧
(flankUp p r s03).1.2.2.2.2.2.1 = p.2.2.2.2.2.1 ∧
(flankUp p r s03).1.2.2.2.2.2.2.1 = p.2.2.2.2.2.2.1 ∧
(flankUp p r s03).1.2.2.2.2.2.2.2.1 = p.2.2.2.2.2.2.2.1 ∧
(flankUp p r s03).1.2.2.2.2.2.2.2.2 = p.2.2.2.2.2.2.2.2 ∧
(flankUp p r s03).2.1 = r.1 ∧
(flankUp p r s03).2.2.1 = r.2.1 ∧
(flankUp p r s03).2.2.2.1 = r.2.2.1 ∧
(flankUp p r s03).2.2.2.2.2.2.2.2.2.1 = false ∧
gSteps (flankUp p r s03) = y2 ++ r.2.2.2.1 ∧
gNeeds (flankUp p r s03) = List.replicate (0 : Nat) ((0 : Int), (0 : Int)) ++ r.2.2.2.2.1 ∧
gGuards (flankUp p r s03) = [] ∧
gZone (flankUp p r s03) = [] ∧
gHolds (flankUp p r s03) = [] ∧
gMet (flankUp p r s03) = [] ∧ (0 : Int) = (0 : Int) ∧ (0 : Int) = (0 : Int) ∧ (0 : Int) = (0 : Int) ∧ false = false ∧ True) ∧
∀ (s3 : Nat),
lett (decide ((↑s3 : Int) < (↑(fPorts p r).length : Int))) fun (y4 : Bool) =>
lett (flankUp p r s3).2.1 fun (y5 : Int) =>
lett (flankUp p r s3).2.2 fun (y6 : Int × Int × List StepD × List NeedD × List NeedD × List Int × List Int × Bool × List PortD) =>
lett
((flankUp p r s3).1, y5, y6.1, y6.2.1, gSteps (flankUp p r s3), gNeeds (flankUp p r s3), gGuards (flankUp p r s3), gZone (flankUp p r s3), gHolds (flankUp p r s3),
y6.2.2.2.2.2.2.2.1, gMet (flankUp p r s3))
fun
(y7 :
SearchD) =>
lett ((fPorts p r).getD (↑s3 : Int).toNat ((0 : Int), (0 : Int))) fun (y8 : Int × Int) =>
lett (sOn (sCome (161 : Nat)) y8.1 y8.2 y7) fun (y9 : SearchD) =>
s3 ≤ (fPorts p r).length →
(y4 = true →
InB (↑s3 : Int) (fPorts p r).length ∧
InB (↑s3 : Int) (fPorts p r).length ∧
onOk (161 : Nat) y7 ∧
InR IntKind.i64 ((↑s3 : Int) + (1 : Int)) ∧
∃ (s'10 : Nat),
s'10 ≤ (fPorts p r).length ∧
(fPorts p r).length - s'10 < (fPorts p r).length - s3 ∧
(↑s'10 : Int) = (↑s3 : Int) + (1 : Int) ∧
fPorts p r = fPorts p r ∧
(flankUp p r s'10).1.1 = y9.1.1 ∧
(flankUp p r s'10).1.2.1 = y9.1.2.1 ∧
(flankUp p r s'10).1.2.2.1 = y9.1.2.2.1 ∧
(flankUp p r s'10).1.2.2.2.1 = y9.1.2.2.2.1 ∧
(flankUp p r s'10).1.2.2.2.2.1 = y9.1.2.2.2.2.1 ∧
(flankUp p r s'10).1.2.2.2.2.2.1 = y9.1.2.2.2.2.2.1 ∧
(flankUp p r s'10).1.2.2.2.2.2.2.1 = y9.1.2.2.2.2.2.2.1 ∧
(flankUp p r s'10).1.2.2.2.2.2.2.2.1 = y9.1.2.2.2.2.2.2.2.1 ∧
(flankUp p r s'10).1.2.2.2.2.2.2.2.2 = y9.1.2.2.2.2.2.2.2.2 ∧
(flankUp p r s'10).2.1 = y9.2.1 ∧
(flankUp p r s'10).2.2.1 = y9.2.2.1 ∧
(flankUp p r s'10).2.2.2.1 = y9.2.2.2.1 ∧
(flankUp p r s'10).2.2.2.2.2.2.2.2.2.1 = y9.2.2.2.2.2.2.2.2.2.1 ∧
gSteps (flankUp p r s'10) = y9.2.2.2.2.1 ∧
gNeeds (flankUp p r s'10) = y9.2.2.2.2.2.1 ∧
gGuards (flankUp p r s'10) = y9.2.2.2.2.2.2.1 ∧
gZone (flankUp p r s'10) = y9.2.2.2.2.2.2.2.1 ∧
gHolds (flankUp p r s'10) = y9.2.2.2.2.2.2.2.2.1 ∧
gMet (flankUp p r s'10) = y9.2.2.2.2.2.2.2.2.2.2 ∧
(0 : Int) = (0 : Int) ∧ (0 : Int) = (0 : Int) ∧ (0 : Int) = (0 : Int) ∧ false = false ∧ True) ∧
(y4 = false →
(y5, y6.1, y6.2.1, gSteps (flankUp p r s3), gNeeds (flankUp p r s3), gGuards (flankUp p r s3), gZone (flankUp p r s3), gHolds (flankUp p r s3),
y6.2.2.2.2.2.2.2.1) =
fFlank p r ∧
True)) := by kernel_rfl
theorem b47 (p : PlanD) (r : RoadD) (hp : flankPre p r) : bodyVC (ctxOf tab [(77, c77), (78, c78 161)]) Tryz.f47 c47 (a47 (p, r, ())) (p, r, ()) := by
 have hpl : (fPorts p r).length ≤ 2000 := by
  have h := ports_up_len p r r.2.2.2.1.length (Nat.le_refl _)
  have h2 := hp.2.1.1
  unfold fPorts
  omega
 obtain ⟨h1, h2, h3⟩ := hp
 rw [v47]
 refine lett.mk fun y2 e2 => ?_
 have e2 : y2 = [] := e2
 refine ⟨roomB (by rw [e2]; simp; have := h2.1; omega) (by omega), roomB (by simp; omega) (by omega), h2, ⟨0, by omega, rfl, rfl, rfl, rfl, rfl, rfl, rfl, rfl, rfl, rfl, rfl, rfl, rfl, rfl, rfl, by rw [e2]; rfl, rfl, rfl, rfl, rfl, rfl, rfl, rfl, rfl, rfl, trivial⟩, fun s => lett.mk fun y4 e4 => lett.mk fun y5 e5 => lett.mk fun y6 e6 => lett.mk fun y7 e7 => lett.mk fun y8 e8 => lett.mk fun y9 e9 => ?_⟩
 intro hs
 have e7 : y7 = flankUp p r s := by rw [e7, e6, e5]
 have e8 : y8 = (fPorts p r).getD s zP := by rw [e8, Int.toNat_natCast]; rfl
 refine ⟨fun h => ?_, fun h => ?_⟩
 ·have h := lt_of_y e4 h
  have e9 : flankUp p r (s + 1) = y9 := by rw [e9, e8, e7]; rfl
  subst e9
  refine ⟨⟨by omega, by omega⟩, ⟨by omega, by omega⟩, by rw [e7]; exact (flank_on ⟨h1, h2, h3⟩ s).1, inR64 (by omega) (by omega), s + 1, by omega, by omega, by omega, rfl, rfl, rfl, rfl, rfl, rfl, rfl, rfl, rfl, rfl, rfl, rfl, rfl, rfl, rfl, rfl, rfl, rfl, rfl, rfl, rfl, rfl, rfl, rfl, trivial⟩
 ·have hle := le_of_y e4 h
  have : s = (fPorts p r).length := by omega
  subst this
  subst e6 e5
  refine ⟨?_, trivial⟩
  unfold fFlank sRoad
  rfl
theorem ok47 : DOk Tryz.prog 47 c47 :=
 DOk.of' (l := [(77, c77), (78, c78 161)]) (A := a47) tabOk ⟨ok77, ok78 161, trivial⟩ Tryz.func47 (by kernel_rfl) (by kernel_rfl) fun x _ hp => b47 x.1 x.2.1 hp
def roadOk (r : RoadD) : Prop := (∀ s ∈ r.2.2.2.1, stepOk s) ∧ r.2.2.2.1.length ≤ 13 ∧ r.2.2.2.2.1.length ≤ 13
theorem outs_range {p : PlanD} {e i : Int} (hi : fHas p (e, i) = true) {w : Int × Int} (hw : w ∈ fOuts p e i) : -1 ≤ w.1 ∧ w.1 ≤ 3 := by
 have hend := has_end hi
 have hend : 0 ≤ i ∧ i ≤ 3 := hend
 have hfa := (has_facts hi).2
 have hfa : 0 ≤ i ∧ i < fEnds (fKind p e) := hfa
 unfold fOuts at hw
 rw [hi] at hw
 cases h1 : fKind p e == 1 with
 | true =>
  rw [h1] at hw
  have hw : w = (1 - i, 0) := by simpa using hw
  have hk : fKind p e = 1 := eq_of_beq h1
  have he : fEnds (fKind p e) = 2 := by rw [hk]; unfold fEnds; rfl
  rw [hw]
  show -1 ≤ 1 - i ∧ 1 - i ≤ 3
  omega
 | false =>
  rw [h1] at hw
  cases h3 : fKind p e == 3 with
  | true =>
   rw [h3] at hw
   have hw : w = (fCross i, 0) := by simpa using hw
   rw [hw]
   show -1 ≤ fCross i ∧ fCross i ≤ 3
   unfold fCross
   cases i == 0 <;> cases i == 1 <;> cases i == 2 <;> simp
  | false =>
   rw [h3] at hw
   cases h2 : fKind p e == 2 with
   | false => rw [h2] at hw; cases hw
   | true =>
    rw [h2] at hw
    cases h0 : i == 0 with
    | true =>
     rw [h0] at hw
     have hw : w = (1, 1) ∨ w = (2, 2) := by simpa using hw
     rcases hw with rfl | rfl
     ·show (-1 : Int) ≤ 1 ∧ (1 : Int) ≤ 3; decide
     ·show (-1 : Int) ≤ 2 ∧ (2 : Int) ≤ 3; decide
    | false =>
     rw [h0] at hw
     have hw : w = (0, i) := by simpa using hw
     rw [hw]
     show (-1 : Int) ≤ 0 ∧ (0 : Int) ≤ 3; decide
theorem with_ok {r : RoadD} {s : StepD} {pos stop to : Int} (h : ∀ q ∈ r.2.2.2.1, stepOk q) (hs : stepOk s) (hl : r.2.2.2.1.length ≤ 12) (hn : r.2.2.2.2.1.length ≤ r.2.2.2.1.length) : roadOk (fWith r s pos stop to) := by
 refine ⟨fun q hq => ?_, ?_, ?_⟩
 ·rw [with_steps] at hq
  rcases List.mem_append.1 hq with hq | hq
  ·exact h q hq
  ·have : q = s := by simpa using hq
   rw [this]; exact hs
 ·rw [with_steps, List.length_append]; show _ + 1 ≤ 13; omega
 ·have := with_needs r s pos stop to
  omega
theorem on_ok {p : PlanD} (hj : fJoined p = true) : ∀ (n : Nat) (r : RoadD) (x : PortD) (met : List Int), onPre n r met → (∀ q ∈ r.2.2.2.1, stepOk q) → (0 ≤ x.2 ∧ x.2 ≤ 3) → ∀ q ∈ fOn p n r x met, roadOk q
 | 0, r, x, met, hp, _, _, q, hq => absurd hp on_zero
 | n + 1, r, x, met, hp, hst, hx, q, hq => by
  obtain ⟨⟨p1, p2, p3⟩, p4, p5⟩ := hp
  have hq : q ∈ onStep p (fOn p n) r x met := hq
  unfold onStep at hq
  cases h1 : fMem met x.1 || decide (r.2.2.2.1.length = 12) with
  | true => rw [h1] at hq; cases hq
  | false =>
   rw [h1] at hq
   have hne : r.2.2.2.1.length ≠ 12 := of_decide_eq_false (Bool.or_eq_false_iff.1 h1).2
   cases h2 : fKind p x.1 == 4 with
   | true =>
    rw [h2] at hq
    have hq : q = fWith r (x.1, x.2, -1) 0 2 (-1) := by simpa using hq
    rw [hq]
    exact with_ok hst ⟨⟨by show -1 ≤ x.2; omega, hx.2⟩, by show (-1 : Int) ≤ -1; decide, by show (-1 : Int) ≤ 3; decide⟩ p2 p4
   | false =>
    rw [h2] at hq
    have hq : q ∈ onWays p (fOn p n) r x (met ++ [x.1]) (fOuts p x.1 x.2).length := hq
    unfold onWays at hq
    rw [List.take_length] at hq
    obtain ⟨w, hw, hq⟩ := List.mem_flatMap.1 hq
    have hh : fHas p (x.1, x.2) = true := by
     cases hh : fHas p (x.1, x.2) with
     | true => rfl
     | false =>
      unfold fOuts at hw
      rw [hh] at hw
      cases hw
    have hwr := outs_range hh hw
    have hs : stepOk (x.1, x.2, w.1) := ⟨⟨by show -1 ≤ x.2; omega, hx.2⟩, hwr⟩
    unfold onWay at hq
    cases h3 : decide (0 ≤ fReads p (x.1, w.1)) with
    | true =>
     rw [h3] at hq
     have hq : q = fWith r (x.1, x.2, w.1) w.2 1 (fReads p (x.1, w.1)) := by simpa using hq
     rw [hq]
     exact with_ok hst hs p2 p4
    | false =>
     rw [h3] at hq
     cases h4 : (fNext p (x.1, w.1)).2 with
     | false =>
      rw [h4] at hq
      have hq : q = fWith r (x.1, x.2, w.1) w.2 3 (-1) := by simpa using hq
      rw [hq]
      exact with_ok hst hs p2 p4
     | true =>
      rw [h4] at hq
      have hq : q ∈ fOn p n (fWith r (x.1, x.2, w.1) w.2 0 (-1)) (fNext p (x.1, w.1)).1 (met ++ [x.1]) := hq
      have hwk := with_ok (pos := w.2) (stop := 0) (to := -1) hst hs p2 p4
      have hl : (fWith r (x.1, x.2, w.1) w.2 0 (-1)).2.2.2.1.length = r.2.2.2.1.length + 1 := by rw [with_steps]; simp
      have hn := with_needs r (x.1, x.2, w.1) w.2 0 (-1)
      refine on_ok hj n _ _ _ ⟨⟨by omega, by omega, by omega⟩, by omega, by simp; omega⟩ hwk.1 (has_end (next_has hj h4)) q hq
theorem all_ok {p : PlanD} (hj : fJoined p = true) : ∀ q ∈ (fAll p).1, roadOk q := by
 intro q hq
 unfold fAll at hq
 cases h : anyTo (allLong p) p.2.2.1.length with
 | true => rw [h] at hq; cases hq
 | false =>
  rw [h] at hq
  have hq : q ∈ allUp p p.2.2.1.length := hq
  unfold allUp at hq
  obtain ⟨s, _, hq⟩ := List.mem_flatMap.1 hq
  unfold fOf at hq
  cases h1 : (fAt p (s : Int)).2 with
  | false => rw [h1] at hq; cases hq
  | true =>
   rw [h1] at hq
   cases h2 : (fNext p (fAt p (s : Int)).1).2 with
   | false => rw [h2] at hq; cases hq
   | true =>
    rw [h2] at hq
    exact on_ok hj 13 _ _ _ (of_pre _ _) (fun q hq => (by cases hq)) (has_end (next_has hj h2)) q hq
theorem all_len (p : PlanD) : (fAll p).1.length ≤ 64 := by
 unfold fAll
 cases h : anyTo (allLong p) p.2.2.1.length with
 | true => exact Nat.zero_le _
 | false => exact all_up_len h
theorem v19 (p : PlanD) : bodyVC (ctxOf tab [(45, c45), (46, c46), (47, c47)]) Tryz.f19 c19 (a19 (p, ())) (p, ()) = (
lett ((0 : Int), (0 : Int), (0 : Int), [], [], [], [], [], false) fun (y1 : RoadD) =>
shortLines p ∧
((fCheck p != (0 : Int)) = true → (([], [], [], [], (0 : Int), (0 : Int), (0 : Int), (0 : Int), false), []) = (fBuild p).1 ∧ fCheck p = (fBuild p).2 ∧ True) ∧
((fCheck p != (0 : Int)) = false →
p.2.2.1.length ≤ (1000 : Nat) ∧
(((fAll p).2 != (0 : Int)) = true → (([], [], [], [], (0 : Int), (0 : Int), (0 : Int), (0 : Int), false), []) = (fBuild p).1 ∧ (fAll p).2 = (fBuild p).2 ∧ True) ∧
(((fAll p).2 != (0 : Int)) = false →
(∃ (s02 : Nat),
s02 ≤ (fAll p).1.length ∧
(↑s02 : Int) = (0 : Int) ∧
List.map (fFlank p) (List.take s02 (fAll p).1) ++ List.drop s02 (fAll p).1 = (fAll p).1 ∧
keepP p ((0 : Int) = (0 : Int) ∧ (0 : Int) = (0 : Int) ∧ (0 : Int) = (0 : Int) ∧ (0 : Int) = (0 : Int) ∧ false = false ∧ True)) ∧
∀ (s2 : Nat),
lett (List.map (fFlank p) (List.take s2 (fAll p).1) ++ List.drop s2 (fAll p).1) fun (y3 : List RoadD) =>
lett (decide ((↑s2 : Int) < (↑y3.length : Int))) fun (y4 : Bool) =>
lett (y3.getD (↑s2 : Int).toNat y1) fun (y5 : RoadD) =>
s2 ≤ (fAll p).1.length →
(y4 = true →
InB (↑s2 : Int) y3.length ∧
flankPre p y5 ∧
InB (↑s2 : Int) y3.length ∧
InR IntKind.i64 ((↑s2 : Int) + (1 : Int)) ∧
∃ (s'6 : Nat),
s'6 ≤ (fAll p).1.length ∧
(fAll p).1.length - s'6 < (fAll p).1.length - s2 ∧
(↑s'6 : Int) = (↑s2 : Int) + (1 : Int) ∧
List.map (fFlank p) (List.take s'6 (fAll p).1) ++ List.drop s'6 (fAll p).1 = y3.set (↑s2 : Int).toNat (fFlank p y5) ∧
keepP p ((0 : Int) = (0 : Int) ∧ (0 : Int) = (0 : Int) ∧ (0 : Int) = (0 : Int) ∧ (0 : Int) = (0 : Int) ∧ false = false ∧ True)) ∧
(y4 = false → (p, y3) = (fBuild p).1 ∧ (0 : Int) = (fBuild p).2 ∧ True)))) := by kernel_rfl
theorem b19 (p : PlanD) (hp : shortLines p) : bodyVC (ctxOf tab [(45, c45), (46, c46), (47, c47)]) Tryz.f19 c19 (a19 (p, ())) (p, ()) := by
 have hB : fBuild p = bif fCheck p == 0 then (bif (fAll p).2 == 0 then ((p, (fAll p).1.map (fFlank p)), 0) else (zC, (fAll p).2)) else (zC, fCheck p) := by unfold fBuild; rfl
 have hal := all_len p
 rw [v19, bneB, bneB]
 refine lett.mk fun y1 e1 => ?_
 simp only [keepP_eq, true_and, and_true, Int.toNat_natCast]
 refine ⟨hp, fun h => ?_, fun h => ?_⟩
 ·have h : (fCheck p == 0) = false := by simpa using h
  rw [hB, h]
  exact ⟨rfl, rfl⟩
 have h : (fCheck p == 0) = true := by simpa using h
 have hc : fCheck p = 0 := eq_of_beq h
 rw [h] at hB
 obtain ⟨h3, h4⟩ := check_facts hc
 obtain ⟨_, h5, _, _⟩ := sizes_facts h3
 refine ⟨by omega, fun h2 => ?_, fun h2 => ?_⟩
 ·have h2 : ((fAll p).2 == 0) = false := by simpa using h2
  rw [hB, h2]
  exact ⟨rfl, rfl⟩
 have h2 : ((fAll p).2 == 0) = true := by simpa using h2
 rw [h2] at hB
 refine ⟨⟨0, by omega, rfl, rfl⟩, fun s => lett.mk fun y3 e3 => lett.mk fun y4 e4 => lett.mk fun y5 e5 => ?_⟩
 intro hs
 have hl3 : y3.length = (fAll p).1.length := by
  rw [e3, List.length_append, List.length_map, List.length_take, List.length_drop]
  omega
 refine ⟨fun h => ?_, fun h => ?_⟩
 ·have h := lt_of_y e4 h
  have hlt : s < (fAll p).1.length := by omega
  have hml : (List.map (fFlank p) (List.take s (fAll p).1)).length = s := by rw [List.length_map, List.length_take]; omega
  have hd : (fAll p).1.drop s = (fAll p).1.getD s zR :: (fAll p).1.drop (s + 1) := by
   rw [getD_at zR hlt]
   exact List.drop_eq_getElem_cons hlt
  have e5 : y5 = (fAll p).1.getD s zR := by
   rw [e5, e3, hd, List.getD_eq_getElem?_getD, List.getElem?_append_right (by omega), hml, Nat.sub_self]
   rfl
  have hok := all_ok h4 y5 (by rw [e5]; exact mem_getD zR hlt)
  refine ⟨⟨by omega, by omega⟩, ⟨hc, ⟨by have := hok.2.1; omega, hok.1⟩, by have := hok.2.2; omega⟩, ⟨by omega, by omega⟩, inR64 (by omega) (by omega), s + 1, by omega, by omega, by omega, ?_⟩
  rw [e3, hd, List.set_append_right _ _ (by omega), hml, Nat.sub_self, List.set_cons_zero, map_succ _ zR hlt, List.append_assoc, e5]
  rfl
 ·have hle := le_of_y e4 h
  have : s = (fAll p).1.length := by omega
  subst this
  rw [hB, e3, List.take_length, List.drop_length, List.append_nil]
  exact ⟨rfl, rfl⟩
theorem ok19 : DOk Tryz.prog 19 c19 :=
 DOk.of' (l := [(45, c45), (46, c46), (47, c47)]) (A := a19) tabOk ⟨ok45, ok46, ok47, trivial⟩ Tryz.func19 (by kernel_rfl) (by kernel_rfl) fun x _ hp => b19 x.1 hp
theorem v7 (p : PlanD) : bodyVC (ctxOf tab [(25, c25), (19, c19)]) Tryz.f7 c7 noAnn (p, ()) = (
True ∧
((!fFine p) = true → [] = (fRoads p).1 ∧ false = (fRoads p).2 ∧ True) ∧
((!fFine p) = false → shortLines p ∧ (fBuild p).1.2 = (fRoads p).1 ∧ ((fBuild p).2 == (0 : Int)) = (fRoads p).2 ∧ True)) := by kernel_rfl
theorem fine_few {p : PlanD} (h : fFine p = true) : fFew p = true := by
 unfold fFine at h
 rw [Bool.and_eq_true] at h
 exact h.1
theorem ok7 : DOk Tryz.prog 7 c7 :=
 DOk.of' (l := [(25, c25), (19, c19)]) (A := fun _ => noAnn) tabOk ⟨ok25, ok19, trivial⟩ Tryz.func7 (by kernel_rfl) (by kernel_rfl) fun x _ hp => by
  obtain ⟨p, ⟨⟩⟩ := x
  rw [v7]
  refine ⟨trivial, fun h => ?_, fun h => ⟨?_, ?_⟩⟩
  ·unfold fRoads
   have h : fFine p = false := by simpa using h
   rw [h]
   exact ⟨rfl, rfl, trivial⟩
  ·have h : fFine p = true := by simpa using h
   exact few_lines (fine_few h)
  ·unfold fRoads
   have h : fFine p = true := by simpa using h
   rw [h]
   exact ⟨rfl, rfl, trivial⟩
theorem v39 : bodyVC (ctxOf tab [(64, c64)]) Tryz.f39 c39 noAnn (()) = (
True ∧
True ∧
True ∧
True ∧
True ∧
(((((((List.replicate (6 : Nat) ([], (0 : Int), (0 : Int))).set (0 : Nat) ([(87 : UInt8)], (4 : Int), (0 : Int))).set (1 : Nat) ([(65 : UInt8)], (1 : Int), (20 : Int))).set (2 : Nat)
([(80 : UInt8)], (2 : Int), (10 : Int))).set
(3 : Nat) ([(66 : UInt8)], (1 : Int), (20 : Int))).set
(4 : Nat) ([(67 : UInt8)], (1 : Int), (30 : Int))).set
(5 : Nat) ([(69 : UInt8)], (4 : Int), (0 : Int)),
(((((List.replicate (5 : Nat) (((0 : Int), (0 : Int)), (0 : Int), (0 : Int))).set (0 : Nat) (((0 : Int), (0 : Int)), (1 : Int), (0 : Int))).set (1 : Nat)
(((1 : Int), (1 : Int)), (2 : Int), (0 : Int))).set
(2 : Nat) (((2 : Int), (1 : Int)), (3 : Int), (0 : Int))).set
(3 : Nat) (((3 : Int), (1 : Int)), (5 : Int), (0 : Int))).set
(4 : Nat) (((2 : Int), (2 : Int)), (4 : Int), (0 : Int)),
(((((List.replicate (5 : Nat) ([], ((0 : Int), (0 : Int)), false)).set (0 : Nat) ([(119 : UInt8)], ((0 : Int), (0 : Int)), false)).set (1 : Nat)
([(97 : UInt8)], ((1 : Int), (1 : Int)), false)).set
(2 : Nat) ([(101 : UInt8)], ((5 : Int), (0 : Int)), false)).set
(3 : Nat) ([(98 : UInt8)], ((3 : Int), (0 : Int)), false)).set
(4 : Nat) ([(99 : UInt8)], ((4 : Int), (0 : Int)), false),
[], (10 : Int), (5 : Int), (15 : Int), (2 : Int), false) =
smallP ∧
True) := by kernel_rfl
theorem ok39 : DOk Tryz.prog 39 c39 :=
 DOk.of' (l := [(64, c64)]) (A := fun _ => noAnn) tabOk ⟨ok64, trivial⟩ Tryz.func39 (by kernel_rfl) (by kernel_rfl) fun x _ hp => by
  obtain ⟨⟩ := x
  rw [v39]
  exact ⟨trivial, trivial, trivial, trivial, trivial, rfl, trivial⟩
end YtpnnfimacblhgaaGreat
end Go.Proofs
end

section
set_option maxRecDepth 100000
set_option linter.unusedVariables false
namespace Go.Proofs
open Go Go.Vc
namespace YtpnnfimacblhgaaGreat
abbrev MapPP : Ty := .map PortT PortT
abbrev MapPI : Ty := .map PortT I
abbrev MapIA : Ty := .map I (.pair I I)
abbrev MapII : Ty := .map I I
abbrev NetT : Ty := .pair PlanT (.pair MapPP (.pair MapPI (.pair MapIA MapII)))
abbrev NetD := PlanD × List (PortD × PortD) × List (PortD × Int) × List (Int × Int × Int) × List (Int × Int)
abbrev Clo83 : Ty := .clo 83 (.pair (.ref PlanT) .unit)
abbrev Clo84 : Ty := .clo 84 (.pair (.ref PlanT) .unit)
abbrev Clo85 : Ty := .clo 85 (.pair (.ref PlanT) .unit)
def fLet (n : Int) : Bool := (decide (97 ≤ n) && decide (n ≤ 122)) || (decide (65 ≤ n) && decide (n ≤ 90))
def c128 : DCon where
 args := [I]
 out := .data [I]
 pre := fun (x : Int × Unit) => True
 fn := fun (x : Int × Unit) => (fEnds x.1, ())
def c131 : DCon where
 args := [I, I]
 out := .data [I]
 pre := fun (x : Int × Int × Unit) => True
 fn := fun (x : Int × Int × Unit) => (fStop x.1 x.2.1, ())
def c129 : DCon where
 args := [PlanT, PortT]
 out := .data [.bool]
 pre := fun (x : PlanD × PortD × Unit) => True
 fn := fun (x : PlanD × PortD × Unit) => (fHas x.1 x.2.1, ())
def c153 : DCon where
 args := [.int .u8]
 out := .data [.bool]
 pre := fun (x : Int × Unit) => True
 fn := fun (x : Int × Unit) => (fLet x.1, ())
def c127 : DCon where
 args := [.str]
 out := .data [.bool]
 pre := fun (x : Str × Unit) => True
 fn := fun (x : Str × Unit) => (fName x.1, ())
def c81 : DCon where
 args := [PlanT]
 out := .data [.bool]
 pre := fun (x : PlanD × Unit) => True
 fn := fun (x : PlanD × Unit) => (fArgs x.1, ())
def c83 : DCon where
 args := [I, .ref PlanT]
 out := .data [.str]
 pre := fun (x : Int × PlanD × Unit) => InB x.1 x.2.1.1.length
 fn := fun (x : Int × PlanD × Unit) => ((x.2.1.1.getD x.1.toNat zE).1, ())
def c84 : DCon where
 args := [I, .ref PlanT]
 out := .data [.str]
 pre := fun (x : Int × PlanD × Unit) => InB x.1 x.2.1.2.2.1.length
 fn := fun (x : Int × PlanD × Unit) => ((x.2.1.2.2.1.getD x.1.toNat zS).1, ())
def c85 : DCon where
 args := [I, .ref PlanT]
 out := .data [.str]
 pre := fun (x : Int × PlanD × Unit) => InB x.1 x.2.1.2.2.2.1.length
 fn := fun (x : Int × PlanD × Unit) => ((x.2.1.2.2.2.1.getD x.1.toNat zL).1, ())
def elNames (p : PlanD) : List Str := p.1.map fun e => e.1
def sigNames (p : PlanD) : List Str := p.2.2.1.map fun e => e.1
def lineNames (p : PlanD) : List Str := p.2.2.2.1.map fun e => e.1
def c840082 : DCon where
 args := [I, Clo83]
 out := .data [.bool]
 pre := fun (x : Int × (PlanD × Unit) × Unit) => x.1 = (x.2.1.1.1.length : Int)
 fn := fun (x : Int × (PlanD × Unit) × Unit) => (fTwice (elNames x.2.1.1), ())
def c850082 : DCon where
 args := [I, Clo84]
 out := .data [.bool]
 pre := fun (x : Int × (PlanD × Unit) × Unit) => x.1 = (x.2.1.1.2.2.1.length : Int)
 fn := fun (x : Int × (PlanD × Unit) × Unit) => (fTwice (sigNames x.2.1.1), ())
def c860082 : DCon where
 args := [I, Clo85]
 out := .data [.bool]
 pre := fun (x : Int × (PlanD × Unit) × Unit) => x.1 = (x.2.1.1.2.2.2.1.length : Int)
 fn := fun (x : Int × (PlanD × Unit) × Unit) => (fTwice (lineNames x.2.1.1), ())
@[irreducible] def fNexts (p : PlanD) : List (PortD × PortD) := p.2.1.flatMap fun j => [(j.1, j.2), (j.2, j.1)]
@[irreducible] def fNexts? (p : PlanD) : List (PortD × PortD) := bif fJoined p then fNexts p else []
def c86 : DCon where
 args := [PlanT]
 out := .data [MapPP, .bool]
 pre := fun (x : PlanD × Unit) => True
 fn := fun (x : PlanD × Unit) => (fNexts? x.1, fJoined x.1, ())
def c87 : DCon where
 args := [PlanT, MapPP]
 out := .data [.bool]
 pre := fun (x : PlanD × List (PortD × PortD) × Unit) => fJoined x.1 = true ∧ x.2.1 = fNexts x.1
 fn := fun (x : PlanD × List (PortD × PortD) × Unit) => (fSignals x.1, ())
def goRow (m : List (PortD × PortD)) (l : List Int) (out : Int) : Nat → Option Int
 | 0 => some out
 | k + 1 => match goRow m l out k with
  | none => none
  | some o => match mget PortT m (l.getD k 0, o) with
   | none => none
   | some q => bif q.1 == l.getD (k + 1) 0 then some (1 - q.2) else none
def outRow (m : List (PortD × PortD)) (l : List Int) (e : Int) : Bool := match mget PortT m (l.getD 0 0, e) with
 | none => false
 | some q => q.1 == l.getD 1 0
def out0Row (m : List (PortD × PortD)) (l : List Int) : Int := bif outRow m l 0 then 0 else bif outRow m l 1 then 1 else -1
@[irreducible] def fRow (m : List (PortD × PortD)) (l : List Int) : Bool :=
 bif decide (l.length < 2) then true else bif decide (out0Row m l < 0) then false else (goRow m l (out0Row m l) (l.length - 1)).isSome
def smallEnds (m : List (PortD × PortD)) : Prop := ∀ x ∈ m, 0 ≤ x.2.2 ∧ x.2.2 ≤ 3
def c130 : DCon where
 args := [.list I, MapPP]
 out := .data [.bool]
 pre := fun (x : List Int × List (PortD × PortD) × Unit) => smallEnds x.2.1
 fn := fun (x : List Int × List (PortD × PortD) × Unit) => (fRow x.2.1 x.1, ())
def c88 : DCon where
 args := [PlanT, MapPP]
 out := .data [.bool]
 pre := fun (x : PlanD × List (PortD × PortD) × Unit) => fJoined x.1 = true ∧ x.2.1 = fNexts x.1
 fn := fun (x : PlanD × List (PortD × PortD) × Unit) => (fLines x.1, ())
def c89 : DCon where
 args := [PlanT]
 out := .data [.bool]
 pre := fun (x : PlanD × Unit) => fNums x.1 = true ∧ fSignals x.1 = true
 fn := fun (x : PlanD × Unit) => (fLong x.1, ())
def c51 : DCon where
 args := [PlanT]
 out := .data [I]
 pre := fun (x : PlanD × Unit) => True
 fn := fun (x : PlanD × Unit) => (fCheck x.1, ())
end YtpnnfimacblhgaaGreat
end Go.Proofs
end

section
set_option maxRecDepth 100000
set_option linter.unusedVariables false
namespace Go.Proofs
open Go Go.Vc
namespace YtpnnfimacblhgaaGreat
def mapLoop (n : Nat) (ok : Nat → Prop) (slot id : Nat) (a b : Ty) (m : Nat → List (a.den × b.den)) (keep keepB : List Nat) : LA where
 σ := Nat
 ok := fun k => k ≤ n ∧ ok k
 mu := fun k => n - k
 sl := fun k => [(slot, .one (.dat I (k : Int)))]
 bl := fun k => [(id, .map false a b (m k) none)]
 keep := keep
 keepB := keepB
def a131 (x : Int × Int × Unit) : Ann := loopAnn [(5, fun _ => {
 σ := Nat
 ok := fun k => k ≤ 60 ∧ noneOf (stopDone x.1 x.2.1) k
 mu := fun k => 60 - k
 sl := fun k => [(0, .one (.dat I (x.1 - x.2.1 * ((k : Int) + 1)))), (5, .one (.dat I (stopUp x.1 x.2.1 k)))]
 bl := fun _ => []
 keep := [1]
 keepB := [] })]
def from1 (p : Nat → Prop) (k : Nat) : Prop := 1 ≤ k ∧ p k
def a127 (x : Str × Unit) : Ann := loopAnn [(4, fun _ => upLoop x.1.length (from1 (allOf (fNameAt x.1))) 3 [0] [])]
def a81 (x : PlanD × Unit) : Ann := loopAnn [(4, fun _ => upLoop x.1.1.length (allT fElemOk x.1.1) 56 [1, 54, 55] [1]),
 (15, fun _ => upLoop x.1.2.2.1.length (allT sigName x.1.2.2.1) 91 [1, 89, 90] [1]),
 (21, fun _ => upLoop x.1.2.2.2.1.length (allT lineName x.1.2.2.2.1) 103 [101, 102] [])]
def seenUp (l : List Str) (k : Nat) : List (Str × Bool) := (l.take k).map fun s => (s, true)
def onceUp (l : List Str) (k : Nat) : Prop := noneOf (fun i => anyTo (sameText l i) i) k
def twiceLoop (l : List Str) : LA := mapLoop l.length (onceUp l) 9 7 .str .bool (seenUp l) [1, 5, 8] []
def a840082 (x : Int × (PlanD × Unit) × Unit) : Ann := loopAnn [(3, fun _ => twiceLoop (elNames x.2.1.1))]
def a850082 (x : Int × (PlanD × Unit) × Unit) : Ann := loopAnn [(3, fun _ => twiceLoop (sigNames x.2.1.1))]
def a860082 (x : Int × (PlanD × Unit) × Unit) : Ann := loopAnn [(3, fun _ => twiceLoop (lineNames x.2.1.1))]
def nextsUp (p : PlanD) (k : Nat) : List (PortD × PortD) := (p.2.1.take k).flatMap fun j => [(j.1, j.2), (j.2, j.1)]
def endsUp (p : PlanD) (k : Nat) : Prop := allTo (endOk p) (2 * k) = true
def a86 (x : PlanD × Unit) : Ann := loopAnn [(3, fun _ => mapLoop x.1.2.1.length (endsUp x.1) 19 15 PortT PortT (nextsUp x.1) [1, 4, 17, 18] [1]),
 (12, fun _ => upLoop x.1.1.length (allOf (gateOk x.1)) 76 [1, 4, 74, 75] [1, 15])]
def atsUp (p : PlanD) (k : Nat) : List (PortD × Bool) := (p.2.2.1.take k).map fun s => (s.2.1, true)
def a87 (x : PlanD × List (PortD × PortD) × Unit) : Ann := loopAnn [(3, fun _ => mapLoop x.1.2.2.1.length (allOf (sigOk x.1)) 17 13 PortT .bool (atsUp x.1) [1, 2, 5, 15, 16] [2]),
 (16, fun _ => upLoop x.1.1.length (allOf (gateSig x.1)) 72 [5, 70, 71] [13])]
def outDn (m : List (PortD × PortD)) (l : List Int) : Nat → Int
 | 0 => -1
 | 1 => bif outRow m l 1 then 1 else -1
 | _ => out0Row m l
def a130 (x : List Int × List (PortD × PortD) × Unit) : Ann := loopAnn [(5, fun _ => {
  σ := Nat
  ok := fun k => k ≤ 2
  mu := fun k => 2 - k
  sl := fun k => [(6, .one (.dat I (1 - (k : Int)))), (5, .one (.dat I (outDn x.2.1 x.1 k)))]
  bl := fun _ => []
  keep := [0, 1]
  keepB := [] }),
 (13, fun _ => {
  σ := Nat × Int
  ok := fun s => s.1 < x.1.length ∧ goRow x.2.1 x.1 (out0Row x.2.1 x.1) s.1 = some s.2
  mu := fun s => x.1.length - s.1
  sl := fun s => [(9, .one (.dat I ((s.1 : Int) + 1))), (5, .one (.dat I s.2))]
  bl := fun _ => []
  keep := [0, 1]
  keepB := [] })]
def metUp (p : PlanD) (i k : Nat) : List (Int × Bool) := (metBy p i ++ (p.2.2.2.1.getD i zL).2.take k).map fun e => (e, true)
def lineUp (p : PlanD) (i k : Nat) : Prop := allOf (lineNew p i) k ∧ allT (isTrack p) (p.2.2.2.1.getD i zL).2 k
def a88 (x : PlanD × List (PortD × PortD) × Unit) : Ann := loopAnn [(3, fun _ => mapLoop x.1.2.2.2.1.length (allOf (lineOk x.1)) 14 10 I .bool (fun k => metUp x.1 k 0) [1, 2, 5, 12, 13] [2]),
 (8, fun S => mapLoop (x.1.2.2.2.1.getD (slotI S 14).toNat zL).2.length (lineUp x.1 (slotI S 14).toNat) 25 10 I .bool (metUp x.1 (slotI S 14).toNat) [1, 2, 5, 7, 12, 13, 14, 23, 24] [2, 7])]
def a89 (x : PlanD × Unit) : Ann := loopAnn [(4, fun _ => upLoop x.1.2.2.1.length (allT (sigLong x.1) x.1.2.2.1) 22 [1, 20, 21] [1]),
 (11, fun _ => upLoop x.1.1.length (allT (elemLong x.1) x.1.1) 47 [1, 45, 46] [1])]
end YtpnnfimacblhgaaGreat
end Go.Proofs
end

section
set_option maxRecDepth 100000
set_option linter.unusedVariables false
set_option linter.unusedSimpArgs false
namespace Go.Proofs
open Go Go.Vc
namespace YtpnnfimacblhgaaGreat
theorem portKey : Ty.isKey PortT = true := rfl
theorem intKey : Ty.isKey I = true := rfl
theorem strKey : Ty.isKey .str = true := rfl
theorem keqP (a b : PortD) : Ty.keq PortT a b = (a == b) := rfl
theorem keqI (a b : Int) : Ty.keq I a b = (a == b) := rfl
theorem mget_isSome (a : Ty) {β : Type} : ∀ (m : List (a.den × β)) (k : a.den), (mget a m k).isSome = m.any fun x => a.keq k x.1
 | [], k => by simp [mget]
 | x :: m, k => by
  simp only [mget, List.any_cons, ← mget_isSome a m k]
  cases a.keq k x.1 <;> rfl
theorem mget_seen {α : Type} (a : Ty) (f : α → a.den) : ∀ (xs : List α) (k : a.den), (mget a (xs.map fun x => (f x, true)) k).getD false = xs.any fun x => a.keq k (f x)
 | [], k => by simp [mget]
 | x :: m, k => by
  simp only [List.map_cons, mget, List.any_cons, ← mget_seen a f m k]
  cases a.keq k (f x) <;> rfl
theorem mput_new {a : Ty} (ha : a.isKey = true) {β : Type} {m : List (a.den × β)} {k : a.den} (h : (mget a m k).isSome = false) (v : β) : mput a m k v = m ++ [(k, v)] := by
 rcases mfind ha m k with ⟨_, h2, _⟩ | ⟨v0, h1, _⟩
 ·exact h2 v
 ·rw [h1] at h; cases h
theorem anyTo_take {α : Type} [BEq α] (d : α) (q : α → Bool) (xs : List α) : ∀ (n : Nat), n ≤ xs.length → anyTo (fun i => q (xs.getD i d)) n = (xs.take n).any q
 | 0, _ => by simp [anyTo]
 | n + 1, h => by
  show (anyTo (fun i => q (xs.getD i d)) n || q (xs.getD n d)) = _
  rw [anyTo_take d q xs n (by omega), take_succ' d (by omega), List.any_append]
  simp
theorem beqComm {α : Type} [BEq α] [LawfulBEq α] (a b : α) : (a == b) = (b == a) := by
 by_cases h : a = b
 ·subst h; rfl
 ·rw [beq_eq_false_iff_ne.2 h, beq_eq_false_iff_ne.2 (Ne.symm h)]
theorem seen_spec (l : List Str) (s : Nat) (hs : s ≤ l.length) (y : Str) : (mget .str (seenUp l s) y).getD false = anyTo (fun k => l.getD k [] == y) s := by
 unfold seenUp
 rw [mget_seen .str (fun s : Str => s), anyTo_take [] (fun x => x == y) l s hs]
 congr 1
 funext x
 exact beqComm y x
theorem seen_put (l : List Str) (s : Nat) (hs : s < l.length) (h : (mget .str (seenUp l s) (l.getD s [])).getD false = false) : mput .str (seenUp l s) (l.getD s []) true = seenUp l (s + 1) := by
 have h1 : (mget .str (seenUp l s) (l.getD s [])).isSome = false := by
  unfold seenUp at h ⊢
  rw [mget_seen .str (fun s : Str => s)] at h
  rw [mget_isSome, List.any_map]
  exact h
 rw [mput_new strKey h1]
 unfold seenUp
 rw [map_succ _ [] hs]
theorem next_get (p : PlanD) (x : PortD) : mget PortT (fNexts p) x = bif (fNext p x).2 then some (fNext p x).1 else none := by
 unfold fNexts fNext
 generalize p.2.1 = l
 induction l with
 | nil => simp [mget, nextOf]
 | cons j l ih =>
  simp only [List.flatMap_cons, List.cons_append, List.nil_append, mget, List.find?_cons, keqP]
  rw [beqComm x j.1, beqComm x j.2]
  cases h1 : (j.1 == x) with
  | true => simp [nextOf, h1]
  | false =>
   cases h2 : (j.2 == x) with
   | true => simp [nextOf, h1]
   | false => simpa using ih
theorem ends_take (p : PlanD) (k : Nat) (hk : k ≤ p.2.1.length) : (joinEnds p).take (2 * k) = (p.2.1.take k).flatMap fun j => [j.1, j.2] := by
 unfold joinEnds
 generalize p.2.1 = l at hk ⊢
 induction l generalizing k with
 | nil => simp
 | cons j l ih =>
  cases k with
  | zero => simp
  | succ k =>
   rw [show 2 * (k + 1) = 2 * k + 1 + 1 by omega]
   simp only [List.flatMap_cons, List.cons_append, List.nil_append, List.take_succ_cons]
   rw [ih k (by simpa using hk)]
theorem ends_lenQ (p : PlanD) : (joinEnds p).length = 2 * p.2.1.length := by
 unfold joinEnds
 generalize p.2.1 = l
 induction l with
 | nil => rfl
 | cons j l ih => simp only [List.flatMap_cons, List.length_append, ih, List.length_cons, List.length_nil]; omega
theorem ends_get (p : PlanD) (k : Nat) (hk : k < p.2.1.length) : (joinEnds p).getD (2 * k) zP = (p.2.1.getD k zJ).1 ∧ (joinEnds p).getD (2 * k + 1) zP = (p.2.1.getD k zJ).2 := by
 unfold joinEnds
 generalize p.2.1 = l at hk ⊢
 induction l generalizing k with
 | nil => simp at hk
 | cons j l ih =>
  cases k with
  | zero => simp
  | succ k =>
   rw [show 2 * (k + 1) = 2 * k + 1 + 1 by omega]
   simp only [List.flatMap_cons, List.cons_append, List.nil_append, List.getD_cons_succ]
   exact ih k (by simpa using hk)
theorem nexts_any (p : PlanD) (k : Nat) (hk : k ≤ p.2.1.length) (x : PortD) : (mget PortT (nextsUp p k) x).isSome = anyTo (fun i => (joinEnds p).getD i zP == x) (2 * k) := by
 rw [anyTo_take zP (fun y => y == x) (joinEnds p) (2 * k) (by rw [ends_lenQ]; omega), ends_take p k hk, mget_isSome]
 unfold nextsUp
 generalize p.2.1.take k = l
 induction l with
 | nil => rfl
 | cons j l ih =>
  simp only [keqP] at ih
  simp only [List.flatMap_cons, List.cons_append, List.nil_append, List.any_cons, keqP, ih]
  rw [beqComm x j.1, beqComm x j.2]
theorem nexts_full (p : PlanD) (k : Nat) (hk : p.2.1.length ≤ k) : nextsUp p k = fNexts p := by
 unfold nextsUp fNexts
 rw [List.take_of_length_le hk]
theorem joined_eq (p : PlanD) : fJoined p = (allTo (endOk p) (joinEnds p).length && allTo (gateOk p) p.1.length) := by unfold fJoined; rfl
theorem joined_ends {p : PlanD} (h : fJoined p = true) {j : JoinD} (hj : j ∈ p.2.1) : fHas p j.1 = true ∧ fHas p j.2 = true := by
 rw [joined_eq, Bool.and_eq_true] at h
 have h1 := allTo_iff.1 h.1
 obtain ⟨k, hk, rfl⟩ := List.mem_iff_getElem.1 hj
 have e := ends_get p k hk
 rw [getD_at zJ hk] at e
 have a := h1 (2 * k) (by rw [ends_lenQ]; omega)
 have b := h1 (2 * k + 1) (by rw [ends_lenQ]; omega)
 unfold endOk at a b
 rw [e.1, Bool.and_eq_true] at a
 rw [e.2, Bool.and_eq_true] at b
 exact ⟨a.1, b.1⟩
theorem next_hasQ {p : PlanD} (h : fJoined p = true) {x q : PortD} (hq : mget PortT (fNexts p) x = some q) : fHas p q = true := by
 have hm := mem_of_mget portKey hq
 unfold fNexts at hm
 obtain ⟨j, hj, hm⟩ := List.mem_flatMap.1 hm
 obtain ⟨h1, h2⟩ := joined_ends h hj
 simp only [List.mem_cons, Prod.mk.injEq, List.not_mem_nil, or_false] at hm
 rcases hm with ⟨_, rfl⟩ | ⟨_, rfl⟩
 ·exact h2
 ·exact h1
theorem has_factsQ {p : PlanD} {x : PortD} (h : fHas p x = true) : 0 ≤ x.1 ∧ x.1 < p.1.length ∧ 0 ≤ x.2 ∧ x.2 ≤ 3 ∧ fKind p x.1 = (p.1.getD x.1.toNat zE).2.1 := by
 unfold fHas at h
 simp only [Bool.and_eq_true, decide_eq_true_eq] at h
 obtain ⟨h1, h2, h3, h4⟩ := h
 have hE : fEnds (fKind p x.1) ≤ 4 := by
  unfold fEnds
  generalize fKind p x.1 = k
  cases k == 1 <;> cases k == 2 <;> cases k == 3 <;> cases k == 4 <;> decide
 refine ⟨h1, h2, h3, by omega, ?_⟩
 unfold fKind
 rw [decide_eq_false (by omega), decide_eq_false (by omega)]
 rfl
theorem nexts_small {p : PlanD} (h : fJoined p = true) : smallEnds (fNexts p) := fun x hx => by
 unfold fNexts at hx
 obtain ⟨j, hj, hm⟩ := List.mem_flatMap.1 hx
 obtain ⟨h1, h2⟩ := joined_ends h hj
 simp only [List.mem_cons, List.not_mem_nil, or_false] at hm
 rcases hm with rfl | rfl
 ·have := has_factsQ h2; exact ⟨this.2.2.1, this.2.2.2.1⟩
 ·have := has_factsQ h1; exact ⟨this.2.2.1, this.2.2.2.1⟩
theorem reads_at (p : PlanD) (i : Nat) (hi : i < p.2.2.1.length) : (fReads p (p.2.2.1.getD i zS).2.1 == (i : Int)) = !anyTo (readOf p (p.2.2.1.getD i zS).2.1) i := by
 unfold fReads
 have hr : readOf p (p.2.2.1.getD i zS).2.1 i = true := by unfold readOf; simp
 show (idxOr (firstTo (readOf p (p.2.2.1.getD i zS).2.1) p.2.2.1.length) == (i : Int)) = _
 cases h : anyTo (readOf p (p.2.2.1.getD i zS).2.1) i with
 | false =>
  rw [firstTo_at hi h hr]
  simp [idxOr]
 | true =>
  rw [Bool.not_true, beq_eq_false_iff_ne]
  intro e
  cases hf : firstTo (readOf p (p.2.2.1.getD i zS).2.1) p.2.2.1.length with
  | none => rw [hf] at e; simp [idxOr] at e
  | some j =>
   rw [hf] at e
   have e : (j : Int) = i := by simpa [idxOr] using e
   have e : j = i := by omega
   subst e
   unfold firstTo at hf
   rw [List.find?_range_eq_some] at hf
   have : anyTo (readOf p (p.2.2.1.getD j zS).2.1) j = false := anyTo_none.2 fun k hk => by simpa using hf.2.2 k hk
   rw [this] at h; cases h
theorem ats_spec (p : PlanD) (k : Nat) (hk : k ≤ p.2.2.1.length) (x : PortD) : (mget PortT (atsUp p k) x).getD false = anyTo (readOf p x) k := by
 unfold atsUp
 rw [mget_seen PortT (fun s : SignalD => s.2.1)]
 have := anyTo_take zS (fun s : SignalD => s.2.1 == x) p.2.2.1 k hk
 show _ = anyTo (fun i => (p.2.2.1.getD i zS).2.1 == x) k
 rw [this]
 congr 1
 funext s
 exact beqComm x s.2.1
theorem ats_put (p : PlanD) (k : Nat) (hk : k < p.2.2.1.length) (h : (mget PortT (atsUp p k) (p.2.2.1.getD k zS).2.1).getD false = false) : mput PortT (atsUp p k) (p.2.2.1.getD k zS).2.1 true = atsUp p (k + 1) := by
 have h1 : (mget PortT (atsUp p k) (p.2.2.1.getD k zS).2.1).isSome = false := by
  unfold atsUp at h ⊢
  rw [mget_seen PortT (fun s : SignalD => s.2.1)] at h
  rw [mget_isSome, List.any_map]
  exact h
 rw [mput_new portKey h1]
 unfold atsUp
 rw [map_succ _ zS hk]
theorem reads_any (p : PlanD) (x : PortD) : decide (0 ≤ fReads p x) = anyTo (readOf p x) p.2.2.1.length := by
 unfold fReads
 show decide (0 ≤ idxOr (firstTo (readOf p x) p.2.2.1.length)) = _
 cases hf : firstTo (readOf p x) p.2.2.1.length with
 | none =>
  have : anyTo (readOf p x) p.2.2.1.length = false := anyTo_none.2 fun k hk => by
   unfold firstTo at hf
   rw [List.find?_eq_none] at hf
   simpa using hf k (List.mem_range.2 hk)
  rw [this]; rfl
 | some j =>
  obtain ⟨h1, h2⟩ := firstTo_some hf
  rw [anyTo_yes h1 h2]
  simp [idxOr]
theorem outRow_eq (p : PlanD) (l : List Int) (e : Int) : outRow (fNexts p) l e = outTo p l e := by
 unfold outRow outTo
 rw [next_get]
 cases (fNext p (l.getD 0 0, e)).2 <;> rfl
theorem out0Row_eq (p : PlanD) (l : List Int) : out0Row (fNexts p) l = fOut0 p l := by
 unfold out0Row fOut0
 rw [outRow_eq, outRow_eq]
theorem goRow_eq (p : PlanD) (l : List Int) (out : Int) : ∀ k, goRow (fNexts p) l out k = bif (fEnt p l out k).2.2 then some (fEnt p l out k).2.1 else none
 | 0 => rfl
 | k + 1 => by
  simp only [goRow, fEnt, goRow_eq p l out k]
  cases h : (fEnt p l out k).2.2 with
  | false => rfl
  | true =>
   simp only [cond_true, next_get, entGo, Bool.true_and]
   cases h2 : (fNext p (l.getD k 0, (fEnt p l out k).2.1)).2 with
   | false => rfl
   | true =>
    simp only [cond_true, Bool.true_and]
    cases (fNext p (l.getD k 0, (fEnt p l out k).2.1)).1.1 == l.getD (k + 1) 0 <;> rfl
theorem row_enters (p : PlanD) (l : List Int) (h0 : l.length ≠ 0) (ht : l.all (fun e => fKind p e == 1) = true) : fRow (fNexts p) l = (fEnters p l).2 := by
 unfold fRow fEnters
 rw [decide_eq_false h0, ht, out0Row_eq, goRow_eq]
 simp only [Bool.not_true, Bool.or_self, cond_false]
 by_cases h1 : l.length = 1
 ·rw [decide_eq_true h1, decide_eq_true (by omega)]; rfl
 ·rw [decide_eq_false h1, decide_eq_false (by omega)]
  simp only [cond_false]
  cases decide (fOut0 p l < 0) with
  | true => rfl
  | false =>
   simp only [cond_false]
   cases (fEnt p l (fOut0 p l) (l.length - 1)).2.2 <;> rfl
end YtpnnfimacblhgaaGreat
end Go.Proofs
end

section
set_option maxRecDepth 100000
set_option linter.unusedVariables false
set_option linter.unusedSimpArgs false
set_option maxHeartbeats 1000000
namespace Go.Proofs
open Go Go.Vc
namespace YtpnnfimacblhgaaGreat
theorem v128 (k : Int) : bodyVC (ctxOf tab []) Tryz.f128 c128 noAnn (k, ()) = (
((k == (1 : Int)) = true → (2 : Int) = fEnds k ∧ True) ∧
((k == (1 : Int)) = false →
((k == (2 : Int)) = true → (3 : Int) = fEnds k ∧ True) ∧
((k == (2 : Int)) = false →
((k == (3 : Int)) = true → (4 : Int) = fEnds k ∧ True) ∧
((k == (3 : Int)) = false → ((k == (4 : Int)) = true → (1 : Int) = fEnds k ∧ True) ∧ ((k == (4 : Int)) = false → (0 : Int) = fEnds k ∧ True))))) := by kernel_rfl
theorem ok128 : DOk Tryz.prog 128 c128 :=
 DOk.of' (l := []) (A := fun _ => noAnn) tabOk trivial Tryz.func128 (by kernel_rfl) (by kernel_rfl) fun x _ hp => by
  obtain ⟨k, u⟩ := x
  show bodyVC (ctxOf tab []) Tryz.f128 c128 noAnn (k, ())
  rw [v128]
  unfold fEnds
  cases k == 1 <;> cases k == 2 <;> cases k == 3 <;> cases k == 4 <;> simp
theorem v129 (p : PlanD) (x : Int × Int) : bodyVC (ctxOf tab [(128, c128)]) Tryz.f129 c129 noAnn (p, x, ()) = (
lett (bif bif decide (x.1 ≥ (0 : Int)) then decide (x.1 < (↑p.1.length : Int)) else false then decide (x.2 ≥ (0 : Int)) else false) fun (y2 : Bool) =>
lett (fEnds (p.1.getD x.1.toNat ([], (0 : Int), (0 : Int))).2.1) fun (y3 : Int) =>
(y2 = true → InB x.1 p.1.length) ∧ (y2 = true → True) ∧ (bif y2 then decide (x.2 < y3) else false) = fHas p x ∧ True) := by kernel_rfl
theorem b129 (p : PlanD) (x : PortD) : bodyVC (ctxOf tab [(128, c128)]) Tryz.f129 c129 noAnn (p, x, ()) := by
 rw [v129]
 refine lett.mk fun y2 e2 => lett.mk fun y3 e3 => ?_
 refine ⟨fun h => ?_, fun _ => trivial, ?_, trivial⟩
 ·rw [e2] at h
  by_cases h1 : x.1 ≥ 0
  ·by_cases h2 : x.1 < (p.1.length : Int)
   ·exact ⟨h1, h2⟩
   ·rw [decide_eq_false h2] at h; cases hb : decide (x.1 ≥ 0) <;> rw [hb] at h <;> cases h
  ·rw [decide_eq_false h1] at h; cases h
 ·have hE : y2 = true → y3 = fEnds (fKind p x.1) := fun h => by
   rw [e2] at h
   rw [e3]
   unfold fKind
   by_cases h1 : x.1 ≥ 0
   ·by_cases h2 : x.1 < (p.1.length : Int)
    ·rw [decide_eq_false (show ¬ x.1 < 0 by omega), decide_eq_false (show ¬ (p.1.length : Int) ≤ x.1 by omega)]
     rfl
    ·rw [decide_eq_false h2] at h; cases hb : decide (x.1 ≥ 0) <;> rw [hb] at h <;> cases h
   ·rw [decide_eq_false h1] at h; cases h
  unfold fHas
  cases hy : y2 with
  | true =>
   rw [hE hy]
   rw [hy, geI, geI] at e2
   generalize decide (x.2 < fEnds (fKind p x.1)) = q
   revert e2
   generalize decide (0 ≤ x.1) = a; generalize decide (x.1 < (p.1.length : Int)) = b; generalize decide (0 ≤ x.2) = c
   cases a <;> cases b <;> cases c <;> simp
  | false =>
   rw [hy, geI, geI] at e2
   revert e2
   generalize decide (0 ≤ x.1) = a; generalize decide (x.1 < (p.1.length : Int)) = b; generalize decide (0 ≤ x.2) = c
   cases a <;> cases b <;> cases c <;> simp
theorem ok129 : DOk Tryz.prog 129 c129 :=
 DOk.of' (l := [(128, c128)]) (A := fun _ => noAnn) tabOk ⟨ok128, trivial⟩ Tryz.func129 (by kernel_rfl) (by kernel_rfl) fun x _ hp => b129 x.1 x.2.1
theorem v153 (c : Int) : bodyVC (ctxOf tab []) Tryz.f153 c153 noAnn (c, ()) = (
(bif bif decide (c ≥ (97 : Int)) then decide (c ≤ (122 : Int)) else false then true else bif decide (c ≥ (65 : Int)) then decide (c ≤ (90 : Int)) else false) = fLet c ∧ True) := by kernel_rfl
theorem ok153 : DOk Tryz.prog 153 c153 :=
 DOk.of' (l := []) (A := fun _ => noAnn) tabOk trivial Tryz.func153 (by kernel_rfl) (by kernel_rfl) fun x _ hp => by
  obtain ⟨c, u⟩ := x
  show bodyVC (ctxOf tab []) Tryz.f153 c153 noAnn (c, ())
  rw [v153, geI, geI]
  unfold fLet
  refine ⟨?_, trivial⟩
  generalize decide (97 ≤ c) = a; generalize decide (c ≤ 122) = b; generalize decide (65 ≤ c) = d; generalize decide (c ≤ 90) = e
  cases a <;> cases b <;> cases d <;> cases e <;> rfl
theorem v127 (s : List UInt8) : bodyVC (ctxOf tab [(153, c153)]) Tryz.f127 c127 (a127 (s, ())) (s, ()) = (
lett (bif s == [] then true else decide ((↑s.length : Int) > (8 : Int))) fun (y1 : Bool) =>
lett (bif y1 then true else !fLet (↑(s.getD (Int.toNat (0 : Int)) (0 : UInt8)).toNat : Int)) fun (y2 : Bool) =>
(y1 = false → InB (0 : Int) s.length) ∧
(y1 = false → True) ∧
(y2 = true → false = fName s ∧ True) ∧
(y2 = false →
(∃ (s03 : Nat), (s03 ≤ s.length ∧ from1 (allOf (fNameAt s)) s03) ∧ (↑s03 : Int) = (1 : Int) ∧ s = s ∧ True) ∧
∀ (s3 : Nat),
lett (decide ((↑s3 : Int) < (↑s.length : Int))) fun (y4 : Bool) =>
lett (!fLet (↑(s.getD (↑s3 : Int).toNat (0 : UInt8)).toNat : Int)) fun (y5 : Bool) =>
lett (decide ((↑(s.getD (↑s3 : Int).toNat (0 : UInt8)).toNat : Int) < (48 : Int))) fun (y6 : Bool) =>
lett (bif y5 then bif y6 then true else decide ((↑(s.getD (↑s3 : Int).toNat (0 : UInt8)).toNat : Int) > (57 : Int)) else false) fun (y7 : Bool) =>
s3 ≤ s.length ∧ from1 (allOf (fNameAt s)) s3 →
(y4 = true →
InB (↑s3 : Int) s.length ∧
True ∧
(y5 = true → InB (↑s3 : Int) s.length) ∧
(y5 = true → y6 = false → InB (↑s3 : Int) s.length) ∧
(y7 = true → false = fName s ∧ True) ∧
(y7 = false →
InR IntKind.i64 ((↑s3 : Int) + (1 : Int)) ∧
∃ (s'8 : Nat), (s'8 ≤ s.length ∧ from1 (allOf (fNameAt s)) s'8) ∧ s.length - s'8 < s.length - s3 ∧ (↑s'8 : Int) = (↑s3 : Int) + (1 : Int) ∧ s = s ∧ True)) ∧
(y4 = false → true = fName s ∧ True))) := by kernel_rfl
theorem letter_eq (c : UInt8) : fLet (c.toNat : Int) = fLetter c := by
 unfold fLet fLetter
 have g : ∀ (k : Nat), decide ((k : Int) ≤ (c.toNat : Int)) = decide (k ≤ c.toNat) := fun k => by
  by_cases h : k ≤ c.toNat
  ·rw [decide_eq_true h, decide_eq_true (by omega)]
  ·rw [decide_eq_false h, decide_eq_false (by omega)]
 have g' : ∀ (k : Nat), decide ((c.toNat : Int) ≤ (k : Int)) = decide (c.toNat ≤ k) := fun k => by
  by_cases h : c.toNat ≤ k
  ·rw [decide_eq_true h, decide_eq_true (by omega)]
  ·rw [decide_eq_false h, decide_eq_false (by omega)]
 have a : decide ((97 : Int) ≤ (c.toNat : Int)) = decide (97 ≤ c.toNat) := g 97
 have b : decide ((c.toNat : Int) ≤ (122 : Int)) = decide (c.toNat ≤ 122) := g' 122
 have d : decide ((65 : Int) ≤ (c.toNat : Int)) = decide (65 ≤ c.toNat) := g 65
 have e : decide ((c.toNat : Int) ≤ (90 : Int)) = decide (c.toNat ≤ 90) := g' 90
 rw [a, b, d, e]
theorem b127 (s : Str) (hw : s.length ≤ maxLenI) : bodyVC (ctxOf tab [(153, c153)]) Tryz.f127 c127 (a127 (s, ())) (s, ()) := by
 rw [v127]
 have hN : fName s = (allTo (fNameAt s) s.length && (decide (1 ≤ s.length) && decide (s.length ≤ 8))) := by unfold fName; rfl
 refine lett.mk fun y1 e1 => lett.mk fun y2 e2 => ?_
 simp only [true_and, and_true, eq_self, Int.toNat_natCast]
 have hz : (Int.toNat (0 : Int)) = 0 := rfl
 rw [hz, letter_eq] at e2
 have h8 : decide ((s.length : Int) > 8) = !decide (s.length ≤ 8) := gtN _ 8 8 rfl
 rw [h8] at e1
 have hs0 : y1 = false → 1 ≤ s.length := fun h => by
  rw [h] at e1
  cases s with
  | nil => cases e1
  | cons c s => simp
 have n0 : fNameAt s 0 = fLetter (s.getD 0 0) := by unfold fNameAt; simp
 refine ⟨fun h => ⟨by omega, by have := hs0 h; omega⟩, fun _ => trivial, fun h => ?_, fun h => ?_⟩
 ·rw [hN]
  rw [h] at e2
  cases hy : y1 with
  | true =>
   rw [hy] at e1
   cases hs : s with
   | nil => rfl
   | cons c t =>
    rw [hs] at e1
    have : decide ((c :: t).length ≤ 8) = false := by
     have e1 : true = (bif (c :: t) == [] then true else !decide ((c :: t).length ≤ 8)) := e1
     have : ((c :: t) == ([] : Str)) = false := rfl
     rw [this] at e1
     simpa using e1.symm
    rw [this]; simp
  | false =>
   rw [hy] at e2
   have hl : fLetter (s.getD 0 0) = false := by simpa using e2.symm
   rw [allTo_no (k := 0) (by have := hs0 hy; omega) (by rw [n0, hl])]
   rfl
 have hy1 : y1 = false := by
  cases hy : y1 with
  | false => rfl
  | true => rw [h, hy] at e2; cases e2
 have hl : fLetter (s.getD 0 0) = true := by rw [h, hy1] at e2; simpa using e2.symm
 have hs1 := hs0 hy1
 have hlen : decide (s.length ≤ 8) = true := by
  rw [hy1] at e1
  cases hs : s with
  | nil => rw [hs] at hs1; simp at hs1
  | cons c t =>
   rw [hs] at e1
   have e1 : false = (bif (c :: t) == [] then true else !decide ((c :: t).length ≤ 8)) := e1
   have : ((c :: t) == ([] : Str)) = false := rfl
   rw [this] at e1
   simpa using e1.symm
 refine ⟨⟨1, ⟨by omega, by omega, ?_⟩, rfl⟩, fun i => lett.mk fun y4 e4 => lett.mk fun y5 e5 => lett.mk fun y6 e6 => lett.mk fun y7 e7 => ?_⟩
 ·exact allTo_succ (k := 0) rfl (by rw [n0, hl])
 rintro ⟨g0, g1, g2⟩
 have g2 : allTo (fNameAt s) i = true := g2
 have hc : fNameAt s i = !y7 := by
  rw [letter_eq] at e5
  rw [ltN _ 48 48 rfl] at e6
  rw [gtN _ 57 57 rfl] at e7
  rw [e7, e6, e5]
  unfold fNameAt fDigit
  have : (i == 0) = false := by rw [beq_eq_false_iff_ne]; omega
  rw [this]
  have key : ∀ l e f : Bool, (l || (!false && (e && f))) = !(bif !l then (bif !e then true else !f) else false) := by decide
  exact key _ _ _
 refine ⟨fun hs => ?_, fun hs => ?_⟩
 ·have hs := lt_of_y e4 hs
  refine ⟨⟨by omega, by omega⟩, fun _ => ⟨by omega, by omega⟩, fun _ _ => ⟨by omega, by omega⟩, fun h7 => ?_, fun h7 => ⟨inRlen hs hw, i + 1, ⟨by omega, by omega, ?_⟩, by omega, by omega⟩⟩
  ·rw [hN, allTo_no hs (by rw [hc, h7]; rfl)]
   rfl
  ·exact allTo_succ g2 (by rw [hc, h7]; rfl)
 ·have hs := le_of_y e4 hs
  have : i = s.length := by omega
  subst this
  rw [hN, g2, hlen, decide_eq_true hs1]
  rfl
theorem ok127 : DOk Tryz.prog 127 c127 :=
 DOk.of' (l := [(153, c153)]) (A := a127) tabOk ⟨ok153, trivial⟩ Tryz.func127 (by kernel_rfl) (by kernel_rfl) fun x hw _ => b127 x.1 hw.1
theorem v131 (v : Int) (b : Int) : bodyVC (ctxOf tab []) Tryz.f131 c131 (a131 (v, b, ())) (v, b, ()) = (
lett (bif bif bif decide (v < (0 : Int)) then true else decide (v > (60 : Int)) then true else decide (b < (1 : Int)) then true else decide (b > (10 : Int))) fun (y2 : Bool) =>
(y2 = true → (0 : Int) = fStop v b ∧ True) ∧
(y2 = false →
InR IntKind.i64 (v - b) ∧
(∃ (s03 : Nat), (s03 ≤ (60 : Nat) ∧ noneOf (stopDone v b) s03) ∧ v - b * ((↑s03 : Int) + (1 : Int)) = v - b ∧ stopUp v b s03 = (0 : Int) ∧ b = b ∧ True) ∧
∀ (s3 : Nat),
lett (v - b * ((↑s3 : Int) + (1 : Int))) fun (y4 : Int) =>
lett (stopUp v b s3 + y4) fun (y5 : Int) =>
s3 ≤ (60 : Nat) ∧ noneOf (stopDone v b) s3 →
(decide (y4 > (0 : Int)) = true →
InR IntKind.i64 y5 ∧
InR IntKind.i64 (y4 - b) ∧
∃ (s'6 : Nat),
(s'6 ≤ (60 : Nat) ∧ noneOf (stopDone v b) s'6) ∧ (60 : Nat) - s'6 < (60 : Nat) - s3 ∧ v - b * ((↑s'6 : Int) + (1 : Int)) = y4 - b ∧ stopUp v b s'6 = y5 ∧ b = b ∧ True) ∧
(decide (y4 > (0 : Int)) = false → stopUp v b s3 = fStop v b ∧ True))) := by kernel_rfl
theorem b131 (v : Int) (b : Int) : bodyVC (ctxOf tab []) Tryz.f131 c131 (a131 (v, b, ())) (v, b, ()) := by
 rw [v131]
 refine lett.mk fun y2 e2 => ?_
 simp only [true_and, and_true, eq_self, Int.toNat_natCast]
 have e2 : y2 = !(fIn 0 60 v && fIn 1 10 b) := by
  rw [e2, ltI, gtI, ltI, gtI]
  unfold fIn
  have key : ∀ a b c d : Bool, (bif (bif (bif !a then true else !b) then true else !c) then true else !d) = !((a && b) && (c && d)) := by decide
  exact key _ _ _ _
 refine ⟨fun h => ?_, fun h => ?_⟩
 ·rw [e2] at h
  simp only [Bool.not_eq_true'] at h
  unfold fStop
  rw [h]
  rfl
 rw [e2] at h
 simp only [Bool.not_eq_false'] at h
 have hS : fStop v b = stopUp v b (stopAt v b) := by
  unfold fStop
  rw [h]
  rfl
 rw [Bool.and_eq_true] at h
 unfold fIn at h
 rw [Bool.and_eq_true, Bool.and_eq_true] at h
 obtain ⟨⟨h1, h2⟩, h3, h4⟩ := h
 have h1 := of_decide_eq_true h1
 have h2 := of_decide_eq_true h2
 have h3 := of_decide_eq_true h3
 have h4 := of_decide_eq_true h4
 refine ⟨inR64 (by omega) (by omega), ⟨0, ⟨by omega, rfl⟩, by simp, rfl⟩, fun s => lett.mk fun y4 e4 => lett.mk fun y5 e5 => ?_⟩
 rintro ⟨g1, g2⟩
 have g2 : anyTo (stopDone v b) s = false := g2
 have hr := stop_range ⟨h1, h2⟩ h3 s g2
 have hq := stop_small (v := v) h3 s
 refine ⟨fun h => ?_, fun h => ?_⟩
 ·have h := of_decide_eq_true h
  refine ⟨inR64 (by omega) (by omega), inR64 (by omega) (by omega), s + 1, ⟨by omega, ?_⟩, by omega, ?_, ?_⟩
  ·exact anyTo_succ g2 (decide_eq_false (by omega))
  ·have : ((s + 1 : Nat) : Int) = (s : Int) + 1 := by omega
   rw [this, e4, Int.mul_add b ((s : Int) + 1) 1, Int.mul_one]
   omega
  ·rw [e5, e4]; rfl
 ·have h := of_decide_eq_false h
  rw [hS]
  congr 1
  unfold stopAt
  have hd : stopDone v b s = true := decide_eq_true (by omega)
  show s = (firstTo (stopDone v b) 100).getD 0
  rw [firstTo_at (by omega) g2 hd]
  rfl
theorem ok131 : DOk Tryz.prog 131 c131 :=
 DOk.of' (l := []) (A := a131) tabOk trivial Tryz.func131 (by kernel_rfl) (by kernel_rfl) fun x _ _ => b131 x.1 x.2.1
theorem v83 (i : Int) (p : PlanD) : bodyVC (ctxOf tab []) Tryz.f83 c83 noAnn (i, p, ()) = (
InB i p.1.length ∧ (p.1.getD i.toNat ([], (0 : Int), (0 : Int))).1 = (p.1.getD i.toNat zE).1 ∧ True) := by kernel_rfl
theorem v84 (i : Int) (p : PlanD) : bodyVC (ctxOf tab []) Tryz.f84 c84 noAnn (i, p, ()) = (
InB i p.2.2.1.length ∧ (p.2.2.1.getD i.toNat ([], ((0 : Int), (0 : Int)), false)).1 = (p.2.2.1.getD i.toNat zS).1 ∧ True) := by kernel_rfl
theorem v85 (i : Int) (p : PlanD) : bodyVC (ctxOf tab []) Tryz.f85 c85 noAnn (i, p, ()) = (
InB i p.2.2.2.1.length ∧ (p.2.2.2.1.getD i.toNat ([], [])).1 = (p.2.2.2.1.getD i.toNat zL).1 ∧ True) := by kernel_rfl
theorem ok83 : DOk Tryz.prog 83 c83 :=
 DOk.of' (l := []) (A := fun _ => noAnn) tabOk trivial Tryz.func83 (by kernel_rfl) (by kernel_rfl) fun x _ hp => by
  obtain ⟨i, p, u⟩ := x
  show bodyVC (ctxOf tab []) Tryz.f83 c83 noAnn (i, p, ())
  rw [v83]
  exact ⟨hp, rfl, trivial⟩
theorem ok84 : DOk Tryz.prog 84 c84 :=
 DOk.of' (l := []) (A := fun _ => noAnn) tabOk trivial Tryz.func84 (by kernel_rfl) (by kernel_rfl) fun x _ hp => by
  obtain ⟨i, p, u⟩ := x
  show bodyVC (ctxOf tab []) Tryz.f84 c84 noAnn (i, p, ())
  rw [v84]
  exact ⟨hp, rfl, trivial⟩
theorem ok85 : DOk Tryz.prog 85 c85 :=
 DOk.of' (l := []) (A := fun _ => noAnn) tabOk trivial Tryz.func85 (by kernel_rfl) (by kernel_rfl) fun x _ hp => by
  obtain ⟨i, p, u⟩ := x
  show bodyVC (ctxOf tab []) Tryz.f85 c85 noAnn (i, p, ())
  rw [v85]
  exact ⟨hp, rfl, trivial⟩
theorem twice_round (l : List Str) (s : Nat) (hs : s < l.length) (h : onceUp l s) :
  ((mget .str (seenUp l s) (l.getD s [])).getD false = true → fTwice l = true) ∧
  ((mget .str (seenUp l s) (l.getD s [])).getD false = false → onceUp l (s + 1) ∧ seenUp l (s + 1) = mput .str (seenUp l s) (l.getD s []) true) := by
 have e := seen_spec l s (by omega) (l.getD s [])
 have e2 : anyTo (fun k => l.getD k [] == l.getD s []) s = anyTo (sameText l s) s := by
  congr 1
  funext k
  exact beqComm _ _
 rw [e2] at e
 refine ⟨fun hy => ?_, fun hy => ⟨?_, (seen_put l s hs hy).symm⟩⟩
 ·unfold fTwice
  exact anyTo_yes (p := fun i => anyTo (fun k => l.getD i [] == l.getD k []) i) hs (by rw [e] at hy; exact hy)
 ·exact anyTo_succ (p := fun i => anyTo (sameText l i) i) h (by rw [e] at hy; exact hy)
theorem twice_end (l : List Str) (s : Nat) (hs : l.length ≤ s) (hs' : s ≤ l.length) (h : onceUp l s) : fTwice l = false := by
 have : s = l.length := by omega
 subst this
 unfold fTwice
 exact h
theorem v840082 (n : Int) (f : (PlanD) × Unit) : bodyVC (ctxOf tab [(83, c83)]) Tryz.f82 c840082 (a840082 (n, f, ())) (n, f, ()) = (
(∃ (s02 : Nat), (s02 ≤ (elNames f.1).length ∧ onceUp (elNames f.1) s02) ∧ (↑s02 : Int) = (0 : Int) ∧ f = f ∧ n = n ∧ seenUp (elNames f.1) s02 = [] ∧ True) ∧
∀ (s2 : Nat),
lett (f.1.1.getD (↑s2 : Int).toNat zE).1 fun (y3 : Str) =>
lett ((mget Ty.str (seenUp (elNames f.1) s2) y3).getD false) fun (y4 : Bool) =>
s2 ≤ (elNames f.1).length ∧ onceUp (elNames f.1) s2 →
(decide ((↑s2 : Int) < n) = true →
InB (↑s2 : Int) f.1.1.length ∧
(y4 = true → true = fTwice (elNames f.1) ∧ True) ∧
(y4 = false →
InB (↑s2 : Int) f.1.1.length ∧
InR IntKind.i64 ((↑s2 : Int) + (1 : Int)) ∧
∃ (s'5 : Nat),
(s'5 ≤ (elNames f.1).length ∧ onceUp (elNames f.1) s'5) ∧
(elNames f.1).length - s'5 < (elNames f.1).length - s2 ∧
(↑s'5 : Int) = (↑s2 : Int) + (1 : Int) ∧ f = f ∧ n = n ∧ seenUp (elNames f.1) s'5 = mput Ty.str (seenUp (elNames f.1) s2) y3 true ∧ True)) ∧
(decide ((↑s2 : Int) < n) = false → false = fTwice (elNames f.1) ∧ True)) := by kernel_rfl
theorem v850082 (n : Int) (f : (PlanD) × Unit) : bodyVC (ctxOf tab [(84, c84)]) Tryz.f82 c850082 (a850082 (n, f, ())) (n, f, ()) = (
(∃ (s02 : Nat), (s02 ≤ (sigNames f.1).length ∧ onceUp (sigNames f.1) s02) ∧ (↑s02 : Int) = (0 : Int) ∧ f = f ∧ n = n ∧ seenUp (sigNames f.1) s02 = [] ∧ True) ∧
∀ (s2 : Nat),
lett (f.1.2.2.1.getD (↑s2 : Int).toNat zS).1 fun (y3 : Str) =>
lett ((mget Ty.str (seenUp (sigNames f.1) s2) y3).getD false) fun (y4 : Bool) =>
s2 ≤ (sigNames f.1).length ∧ onceUp (sigNames f.1) s2 →
(decide ((↑s2 : Int) < n) = true →
InB (↑s2 : Int) f.1.2.2.1.length ∧
(y4 = true → true = fTwice (sigNames f.1) ∧ True) ∧
(y4 = false →
InB (↑s2 : Int) f.1.2.2.1.length ∧
InR IntKind.i64 ((↑s2 : Int) + (1 : Int)) ∧
∃ (s'5 : Nat),
(s'5 ≤ (sigNames f.1).length ∧ onceUp (sigNames f.1) s'5) ∧
(sigNames f.1).length - s'5 < (sigNames f.1).length - s2 ∧
(↑s'5 : Int) = (↑s2 : Int) + (1 : Int) ∧ f = f ∧ n = n ∧ seenUp (sigNames f.1) s'5 = mput Ty.str (seenUp (sigNames f.1) s2) y3 true ∧ True)) ∧
(decide ((↑s2 : Int) < n) = false → false = fTwice (sigNames f.1) ∧ True)) := by kernel_rfl
theorem v860082 (n : Int) (f : (PlanD) × Unit) : bodyVC (ctxOf tab [(85, c85)]) Tryz.f82 c860082 (a860082 (n, f, ())) (n, f, ()) = (
(∃ (s02 : Nat), (s02 ≤ (lineNames f.1).length ∧ onceUp (lineNames f.1) s02) ∧ (↑s02 : Int) = (0 : Int) ∧ f = f ∧ n = n ∧ seenUp (lineNames f.1) s02 = [] ∧ True) ∧
∀ (s2 : Nat),
lett (f.1.2.2.2.1.getD (↑s2 : Int).toNat zL).1 fun (y3 : Str) =>
lett ((mget Ty.str (seenUp (lineNames f.1) s2) y3).getD false) fun (y4 : Bool) =>
s2 ≤ (lineNames f.1).length ∧ onceUp (lineNames f.1) s2 →
(decide ((↑s2 : Int) < n) = true →
InB (↑s2 : Int) f.1.2.2.2.1.length ∧
(y4 = true → true = fTwice (lineNames f.1) ∧ True) ∧
(y4 = false →
InB (↑s2 : Int) f.1.2.2.2.1.length ∧
InR IntKind.i64 ((↑s2 : Int) + (1 : Int)) ∧
∃ (s'5 : Nat),
(s'5 ≤ (lineNames f.1).length ∧ onceUp (lineNames f.1) s'5) ∧
(lineNames f.1).length - s'5 < (lineNames f.1).length - s2 ∧
(↑s'5 : Int) = (↑s2 : Int) + (1 : Int) ∧ f = f ∧ n = n ∧ seenUp (lineNames f.1) s'5 = mput Ty.str (seenUp (lineNames f.1) s2) y3 true ∧ True)) ∧
(decide ((↑s2 : Int) < n) = false → false = fTwice (lineNames f.1) ∧ True)) := by kernel_rfl
theorem b840082 (n : Int) (f : PlanD × Unit) (hp : n = (f.1.1.length : Int)) (hl : f.1.1.length ≤ maxLenI) : bodyVC (ctxOf tab [(83, c83)]) Tryz.f82 c840082 (a840082 (n, f, ())) (n, f, ()) := by
 have hlen : (elNames f.1).length = f.1.1.length := by simp [elNames]
 rw [v840082]
 simp only [true_and, and_true, eq_self, Int.toNat_natCast]
 refine ⟨⟨0, ⟨by omega, rfl⟩, rfl, rfl⟩, fun s => lett.mk fun y3 e3 => lett.mk fun y4 e4 => ?_⟩
 rintro ⟨h1, h2⟩
 refine ⟨fun h => ?_, fun h => ?_⟩
 ·have h := of_decide_eq_true h
  have hs : s < (elNames f.1).length := by omega
  have e3 : y3 = (elNames f.1).getD s [] := by
   rw [e3]
   unfold elNames
   rw [getD_at _ (by omega), getD_at _ (by simpa using (by omega : s < f.1.1.length))]
   simp
  rw [e3] at e4
  obtain ⟨k1, k2⟩ := twice_round _ s hs h2
  refine ⟨⟨by omega, by omega⟩, fun hy => (k1 (by rw [← e4, hy])).symm, fun hy => ?_⟩
  obtain ⟨k3, k4⟩ := k2 (by rw [← e4, hy])
  exact ⟨⟨by omega, by omega⟩, inRlen (by omega) hl, s + 1, ⟨by omega, k3⟩, by omega, by omega, by rw [e3]; exact k4⟩
 ·have h := of_decide_eq_false h
  rw [twice_end _ s (by omega) h1 h2]
theorem ok840082 : DOk Tryz.prog 82 c840082 :=
 DOk.of' (l := [(83, c83)]) (A := a840082) tabOk ⟨ok83, trivial⟩ Tryz.func82 (by kernel_rfl) (by kernel_rfl) fun x hw hp => b840082 x.1 x.2.1 hp (plan_wf hw.2.1.1).1
theorem b850082 (n : Int) (f : PlanD × Unit) (hp : n = (f.1.2.2.1.length : Int)) (hl : f.1.2.2.1.length ≤ maxLenI) : bodyVC (ctxOf tab [(84, c84)]) Tryz.f82 c850082 (a850082 (n, f, ())) (n, f, ()) := by
 have hlen : (sigNames f.1).length = f.1.2.2.1.length := by simp [sigNames]
 rw [v850082]
 simp only [true_and, and_true, eq_self, Int.toNat_natCast]
 refine ⟨⟨0, ⟨by omega, rfl⟩, rfl, rfl⟩, fun s => lett.mk fun y3 e3 => lett.mk fun y4 e4 => ?_⟩
 rintro ⟨h1, h2⟩
 refine ⟨fun h => ?_, fun h => ?_⟩
 ·have h := of_decide_eq_true h
  have hs : s < (sigNames f.1).length := by omega
  have e3 : y3 = (sigNames f.1).getD s [] := by
   rw [e3]
   unfold sigNames
   rw [getD_at _ (by omega), getD_at _ (by simpa using (by omega : s < f.1.2.2.1.length))]
   simp
  rw [e3] at e4
  obtain ⟨k1, k2⟩ := twice_round _ s hs h2
  refine ⟨⟨by omega, by omega⟩, fun hy => (k1 (by rw [← e4, hy])).symm, fun hy => ?_⟩
  obtain ⟨k3, k4⟩ := k2 (by rw [← e4, hy])
  exact ⟨⟨by omega, by omega⟩, inRlen (by omega) hl, s + 1, ⟨by omega, k3⟩, by omega, by omega, by rw [e3]; exact k4⟩
 ·have h := of_decide_eq_false h
  rw [twice_end _ s (by omega) h1 h2]
theorem ok850082 : DOk Tryz.prog 82 c850082 :=
 DOk.of' (l := [(84, c84)]) (A := a850082) tabOk ⟨ok84, trivial⟩ Tryz.func82 (by kernel_rfl) (by kernel_rfl) fun x hw hp => b850082 x.1 x.2.1 hp (plan_wf hw.2.1.1).2.2.1
theorem b860082 (n : Int) (f : PlanD × Unit) (hp : n = (f.1.2.2.2.1.length : Int)) (hl : f.1.2.2.2.1.length ≤ maxLenI) : bodyVC (ctxOf tab [(85, c85)]) Tryz.f82 c860082 (a860082 (n, f, ())) (n, f, ()) := by
 have hlen : (lineNames f.1).length = f.1.2.2.2.1.length := by simp [lineNames]
 rw [v860082]
 simp only [true_and, and_true, eq_self, Int.toNat_natCast]
 refine ⟨⟨0, ⟨by omega, rfl⟩, rfl, rfl⟩, fun s => lett.mk fun y3 e3 => lett.mk fun y4 e4 => ?_⟩
 rintro ⟨h1, h2⟩
 refine ⟨fun h => ?_, fun h => ?_⟩
 ·have h := of_decide_eq_true h
  have hs : s < (lineNames f.1).length := by omega
  have e3 : y3 = (lineNames f.1).getD s [] := by
   rw [e3]
   unfold lineNames
   rw [getD_at _ (by omega), getD_at _ (by simpa using (by omega : s < f.1.2.2.2.1.length))]
   simp
  rw [e3] at e4
  obtain ⟨k1, k2⟩ := twice_round _ s hs h2
  refine ⟨⟨by omega, by omega⟩, fun hy => (k1 (by rw [← e4, hy])).symm, fun hy => ?_⟩
  obtain ⟨k3, k4⟩ := k2 (by rw [← e4, hy])
  exact ⟨⟨by omega, by omega⟩, inRlen (by omega) hl, s + 1, ⟨by omega, k3⟩, by omega, by omega, by rw [e3]; exact k4⟩
 ·have h := of_decide_eq_false h
  rw [twice_end _ s (by omega) h1 h2]
theorem ok860082 : DOk Tryz.prog 82 c860082 :=
 DOk.of' (l := [(85, c85)]) (A := a860082) tabOk ⟨ok85, trivial⟩ Tryz.func82 (by kernel_rfl) (by kernel_rfl) fun x hw hp => b860082 x.1 x.2.1 hp (plan_wf hw.2.1.1).2.2.2
end YtpnnfimacblhgaaGreat
end Go.Proofs
end

section
set_option maxRecDepth 100000
set_option linter.unusedVariables false
set_option linter.unusedSimpArgs false
set_option maxHeartbeats 2000000
namespace Go.Proofs
open Go Go.Vc
namespace YtpnnfimacblhgaaGreat
theorem v81 (p : PlanD) : bodyVC (ctxOf tab [(127, c127), (128, c128)]) Tryz.f81 c81 (a81 (p, ())) (p, ()) = (
lett
(bif
bif
bif
bif
bif
bif
bif bif decide (p.2.2.2.2.1 < (1 : Int)) then true else decide (p.2.2.2.2.1 > (60 : Int)) then true
else decide (p.2.2.2.2.2.1 < (1 : Int)) then
true
else decide (p.2.2.2.2.2.1 > (10 : Int)) then
true
else decide (p.2.2.2.2.2.2.1 < (1 : Int)) then
true
else decide (p.2.2.2.2.2.2.1 > (4000 : Int)) then
true
else decide (p.2.2.2.2.2.2.2.1 < (1 : Int)) then
true
else decide (p.2.2.2.2.2.2.2.1 > (20 : Int)) then
true
else (↑p.1.length : Int) == (0 : Int))
fun (y1 : Bool) =>
(y1 = true → false = fArgs p ∧ True) ∧
(y1 = false →
(∃ (s02 : Nat),
(s02 ≤ p.1.length ∧ allT fElemOk p.1 s02) ∧
(↑s02 : Int) = (0 : Int) ∧
p.1 = p.1 ∧
(↑p.1.length : Int) = (↑p.1.length : Int) ∧
keepP p (True)) ∧
∀ (s2 : Nat),
lett (decide ((↑s2 : Int) < (↑p.1.length : Int))) fun (y3 : Bool) =>
lett (p.1.getD (↑s2 : Int).toNat ([], (0 : Int), (0 : Int))) fun (y4 : List UInt8 × Int × Int) =>
lett (bif !fName y4.1 then true else fEnds y4.2.1 == (0 : Int)) fun (y5 : Bool) =>
lett (bif decide (y4.2.2 < (1 : Int)) then true else decide (y4.2.2 > (4000 : Int))) fun (y6 : Bool) =>
s2 ≤ p.1.length ∧ allT fElemOk p.1 s2 →
(y3 = true →
InB (↑s2 : Int) p.1.length ∧
True ∧
((!fName y4.1) = false → True) ∧
(y5 = true → false = fArgs p ∧ True) ∧
(y5 = false →
((y4.2.1 == (4 : Int)) = true →
((y4.2.2 != (0 : Int)) = true → false = fArgs p ∧ True) ∧
((y4.2.2 != (0 : Int)) = false →
InR IntKind.i64 ((↑s2 : Int) + (1 : Int)) ∧
∃ (s'7 : Nat),
(s'7 ≤ p.1.length ∧ allT fElemOk p.1 s'7) ∧
p.1.length - s'7 < p.1.length - s2 ∧
(↑s'7 : Int) = (↑s2 : Int) + (1 : Int) ∧
p.1 = p.1 ∧
(↑p.1.length : Int) = (↑p.1.length : Int) ∧
keepP p (True))) ∧
((y4.2.1 == (4 : Int)) = false →
(y6 = true → false = fArgs p ∧ True) ∧
(y6 = false →
InR IntKind.i64 ((↑s2 : Int) + (1 : Int)) ∧
∃ (s'7 : Nat),
(s'7 ≤ p.1.length ∧ allT fElemOk p.1 s'7) ∧
p.1.length - s'7 < p.1.length - s2 ∧
(↑s'7 : Int) = (↑s2 : Int) + (1 : Int) ∧
p.1 = p.1 ∧
(↑p.1.length : Int) = (↑p.1.length : Int) ∧
keepP p (True))))) ∧
(y3 = false →
(∃ (s07 : Nat),
(s07 ≤ p.2.2.1.length ∧ allT sigName p.2.2.1 s07) ∧
(↑s07 : Int) = (0 : Int) ∧
p.2.2.1 = p.2.2.1 ∧
(↑p.2.2.1.length : Int) = (↑p.2.2.1.length : Int) ∧
keepP p (True)) ∧
∀ (s7 : Nat),
lett (decide ((↑s7 : Int) < (↑p.2.2.1.length : Int))) fun (y8 : Bool) =>
lett (!fName (p.2.2.1.getD (↑s7 : Int).toNat ([], ((0 : Int), (0 : Int)), false)).1) fun (y9 : Bool) =>
s7 ≤ p.2.2.1.length ∧ allT sigName p.2.2.1 s7 →
(y8 = true →
InB (↑s7 : Int) p.2.2.1.length ∧
True ∧
(y9 = true → false = fArgs p ∧ True) ∧
(y9 = false →
InR IntKind.i64 ((↑s7 : Int) + (1 : Int)) ∧
∃ (s'10 : Nat),
(s'10 ≤ p.2.2.1.length ∧ allT sigName p.2.2.1 s'10) ∧
p.2.2.1.length - s'10 < p.2.2.1.length - s7 ∧
(↑s'10 : Int) = (↑s7 : Int) + (1 : Int) ∧
p.2.2.1 = p.2.2.1 ∧
(↑p.2.2.1.length : Int) = (↑p.2.2.1.length : Int) ∧
keepP p (True))) ∧
(y8 = false →
(∃ (s010 : Nat),
(s010 ≤ p.2.2.2.1.length ∧ allT lineName p.2.2.2.1 s010) ∧
(↑s010 : Int) = (0 : Int) ∧ p.2.2.2.1 = p.2.2.2.1 ∧ (↑p.2.2.2.1.length : Int) = (↑p.2.2.2.1.length : Int) ∧ True) ∧
∀ (s10 : Nat),
lett (decide ((↑s10 : Int) < (↑p.2.2.2.1.length : Int))) fun (y11 : Bool) =>
lett (!fName (p.2.2.2.1.getD (↑s10 : Int).toNat ([], [])).1) fun (y12 : Bool) =>
s10 ≤ p.2.2.2.1.length ∧ allT lineName p.2.2.2.1 s10 →
(y11 = true →
InB (↑s10 : Int) p.2.2.2.1.length ∧
True ∧
(y12 = true → false = fArgs p ∧ True) ∧
(y12 = false →
InR IntKind.i64 ((↑s10 : Int) + (1 : Int)) ∧
∃ (s'13 : Nat),
(s'13 ≤ p.2.2.2.1.length ∧ allT lineName p.2.2.2.1 s'13) ∧
p.2.2.2.1.length - s'13 < p.2.2.2.1.length - s10 ∧
(↑s'13 : Int) = (↑s10 : Int) + (1 : Int) ∧
p.2.2.2.1 = p.2.2.2.1 ∧ (↑p.2.2.2.1.length : Int) = (↑p.2.2.2.1.length : Int) ∧ True)) ∧
(y11 = false → true = fArgs p ∧ True))))) := by kernel_rfl
theorem b81 (p : PlanD) (hw : planWf p) : bodyVC (ctxOf tab [(127, c127), (128, c128)]) Tryz.f81 c81 (a81 (p, ())) (p, ()) := by
 rw [v81]
 refine lett.mk fun y1 e1 => ?_
 simp only [keepP_eq, true_and, and_true, eq_self, Int.toNat_natCast]
 have hN : fNums p = !y1 := by
  rw [e1, ltI, gtI, ltI, gtI, ltI, gtI, ltI, gtI, eqN' _ 0 0 rfl]
  unfold fNums fIn
  generalize decide (1 ≤ p.2.2.2.2.1) = a1; generalize decide (p.2.2.2.2.1 ≤ 60) = a2
  generalize decide (1 ≤ p.2.2.2.2.2.1) = a3; generalize decide (p.2.2.2.2.2.1 ≤ 10) = a4
  generalize decide (1 ≤ p.2.2.2.2.2.2.1) = a5; generalize decide (p.2.2.2.2.2.2.1 ≤ 4000) = a6
  generalize decide (1 ≤ p.2.2.2.2.2.2.2.1) = a7; generalize decide (p.2.2.2.2.2.2.2.1 ≤ 20) = a8
  generalize decide (p.1.length = 0) = a9
  cases a1 <;> cases a2 <;> cases a3 <;> cases a4 <;> cases a5 <;> cases a6 <;> cases a7 <;> cases a8 <;> cases a9 <;> rfl
 refine ⟨fun h => ?_, fun h => ?_⟩
 ·unfold fArgs
  rw [hN, h]
  rfl
 have hA : fArgs p = (p.1.all fElemOk && (p.2.2.1.all sigName && p.2.2.2.1.all lineName)) := by
  unfold fArgs
  rw [hN, h]
  rfl
 rw [hA]
 refine ⟨⟨0, ⟨by omega, rfl⟩, rfl⟩, fun s => lett.mk fun y3 e3 => lett.mk fun y4 e4 => lett.mk fun y5 e5 => lett.mk fun y6 e6 => ?_⟩
 rintro ⟨h1, h2⟩
 have h2 : (p.1.take s).all fElemOk = true := h2
 have e4 : y4 = p.1.getD s zE := e4
 rw [ltI, gtI] at e6
 have hE : fElemOk y4 = (!y5 && bif y4.2.1 == 4 then y4.2.2 == 0 else !y6) := by
  rw [e5, e6]
  unfold fElemOk fIn
  generalize fName y4.1 = a; generalize (fEnds y4.2.1 == 0) = b; generalize (y4.2.1 == 4) = c; generalize (y4.2.2 == 0) = d; generalize decide (1 ≤ y4.2.2) = e; generalize decide (y4.2.2 ≤ 4000) = f
  cases a <;> cases b <;> cases c <;> cases d <;> cases e <;> cases f <;> rfl
 refine ⟨fun h => ?_, fun h => ?_⟩
 ·have h := lt_of_y e3 h
  have no : fElemOk y4 = false → false = (p.1.all fElemOk && (p.2.2.1.all sigName && p.2.2.2.1.all lineName)) := fun hf => by
   rw [all_no zE h (by rw [← e4, hf])]; rfl
  have yes : fElemOk y4 = true → ∃ s', (s' ≤ p.1.length ∧ allT fElemOk p.1 s') ∧ p.1.length - s' < p.1.length - s ∧ (s' : Int) = (s : Int) + 1 := fun hf =>
   ⟨s + 1, ⟨by omega, all_succ zE h h2 (by rw [← e4, hf])⟩, by omega, by omega⟩
  refine ⟨⟨by omega, by omega⟩, fun _ => trivial, fun h5 => no (by rw [hE, h5]; rfl), fun h5 => ⟨fun h4 => ⟨fun h6 => no ?_, fun h6 => ⟨inRlen h hw.1, yes ?_⟩⟩, fun h4 => ⟨fun h6 => no ?_, fun h6 => ⟨inRlen h hw.1, yes ?_⟩⟩⟩⟩
  ·rw [bneB] at h6
   rw [hE, h5, h4]
   simpa using h6
  ·rw [bneB] at h6
   rw [hE, h5, h4]
   simpa using h6
  ·rw [hE, h5, h4, h6]; rfl
  ·rw [hE, h5, h4, h6]; rfl
 rw [all_full (le_of_y e3 h) h2, Bool.true_and]
 refine ⟨⟨0, ⟨by omega, rfl⟩, rfl⟩, fun t => lett.mk fun y8 e8 => lett.mk fun y9 e9 => ?_⟩
 rintro ⟨h1, h2⟩
 have h2 : (p.2.2.1.take t).all sigName = true := h2
 have e9 : sigName (p.2.2.1.getD t zS) = !y9 := by rw [e9, Bool.not_not]; rfl
 refine ⟨fun h => ?_, fun h => ?_⟩
 ·have h := lt_of_y e8 h
  refine ⟨⟨by omega, by omega⟩, fun h9 => ?_, fun h9 => ⟨inRlen h hw.2.2.1, t + 1, ⟨by omega, ?_⟩, by omega, by omega⟩⟩
  ·rw [all_no zS h (by rw [e9, h9]; rfl)]
   rfl
  ·exact all_succ zS h h2 (by rw [e9, h9]; rfl)
 rw [all_full (le_of_y e8 h) h2, Bool.true_and]
 refine ⟨⟨0, ⟨by omega, rfl⟩, rfl⟩, fun u => lett.mk fun y11 e11 => lett.mk fun y12 e12 => ?_⟩
 rintro ⟨h1, h2⟩
 have h2 : (p.2.2.2.1.take u).all lineName = true := h2
 have e12 : lineName (p.2.2.2.1.getD u zL) = !y12 := by rw [e12, Bool.not_not]; rfl
 refine ⟨fun h => ?_, fun h => ?_⟩
 ·have h := lt_of_y e11 h
  refine ⟨⟨by omega, by omega⟩, fun h9 => ?_, fun h9 => ⟨inRlen h hw.2.2.2, u + 1, ⟨by omega, ?_⟩, by omega, by omega⟩⟩
  ·rw [all_no zL h (by rw [e12, h9]; rfl)]
  ·exact all_succ zL h h2 (by rw [e12, h9]; rfl)
 rw [all_full (le_of_y e11 h) h2]
theorem ok81 : DOk Tryz.prog 81 c81 :=
 DOk.of' (l := [(127, c127), (128, c128)]) (A := a81) tabOk ⟨ok127, ok128, trivial⟩ Tryz.func81 (by kernel_rfl) (by kernel_rfl) fun x hw hp => b81 x.1 (plan_wf hw.1)
theorem join_round (p : PlanD) (k : Nat) (hk : k < p.2.1.length) (h : endsUp p k) :
  let j := p.2.1.getD k zJ
  let bad := !fHas p j.1 || (!fHas p j.2 || ((mget PortT (nextsUp p k) j.1).isSome || ((mget PortT (nextsUp p k) j.2).isSome || j.1 == j.2)))
  (bad = true → fJoined p = false) ∧ (bad = false → endsUp p (k + 1) ∧ nextsUp p (k + 1) = mput PortT (mput PortT (nextsUp p k) j.1 j.2) j.2 j.1) := by
 intro j bad
 have e := ends_get p k hk
 have n1 := nexts_any p k (by omega) j.1
 have n2 := nexts_any p k (by omega) j.2
 have hA : endOk p (2 * k) = (fHas p j.1 && !(mget PortT (nextsUp p k) j.1).isSome) := by
  unfold endOk
  rw [e.1, n1]
 have hB : endOk p (2 * k + 1) = (fHas p j.2 && !((mget PortT (nextsUp p k) j.2).isSome || j.1 == j.2)) := by
  unfold endOk
  rw [e.2, n2]
  show (_ && !(anyTo _ (2 * k) || (joinEnds p).getD (2 * k) zP == _)) = _
  rw [e.1]
 have hbad : bad = !(endOk p (2 * k) && endOk p (2 * k + 1)) := by
  rw [hA, hB]
  show (!fHas p j.1 || (!fHas p j.2 || ((mget PortT (nextsUp p k) j.1).isSome || ((mget PortT (nextsUp p k) j.2).isSome || j.1 == j.2)))) = _
  generalize fHas p j.1 = a; generalize fHas p j.2 = b; generalize (mget PortT (nextsUp p k) j.1).isSome = c; generalize (mget PortT (nextsUp p k) j.2).isSome = d; generalize (j.1 == j.2) = f
  cases a <;> cases b <;> cases c <;> cases d <;> cases f <;> rfl
 have hlen : 2 * k + 1 < (joinEnds p).length := by rw [ends_lenQ]; omega
 refine ⟨fun hb => ?_, fun hb => ?_⟩
 ·rw [hbad, Bool.not_eq_true', Bool.and_eq_false_iff] at hb
  rw [joined_eq]
  rcases hb with hb | hb
  ·rw [allTo_no (by omega) hb]; rfl
  ·rw [allTo_no hlen hb]; rfl
 ·have hb0 := hb
  rw [hbad, Bool.not_eq_false', Bool.and_eq_true] at hb
  refine ⟨?_, ?_⟩
  ·show allTo (endOk p) (2 * (k + 1)) = true
   rw [show 2 * (k + 1) = 2 * k + 1 + 1 by omega]
   exact allTo_succ (allTo_succ h hb.1) hb.2
  ·rw [hA] at hb
   rw [hB] at hb
   simp only [Bool.and_eq_true, Bool.not_eq_true', Bool.or_eq_false_iff] at hb
   obtain ⟨⟨_, m1⟩, _, m2, m3⟩ := hb
   rw [mput_new portKey m1]
   have m4 : (mget PortT (nextsUp p k ++ [(j.1, j.2)]) j.2).isSome = false := by
    have m2' := mget_isSome PortT (nextsUp p k) j.2
    rw [m2] at m2'
    rw [mget_isSome, List.any_append, ← m2']
    simp only [List.any_cons, List.any_nil, Bool.or_false, Bool.false_or, keqP]
    rw [beqComm]
    exact m3
   rw [mput_new portKey m4]
   unfold nextsUp
   rw [flat_succ _ zJ hk]
   simp [j]
theorem v86 (p : PlanD) : bodyVC (ctxOf tab [(129, c129)]) Tryz.f86 c86 (a86 (p, ())) (p, ()) = (
lett (((0 : Int), (0 : Int)), (0 : Int), (0 : Int)) fun (y1 : (Int × Int) × Int × Int) =>
(∃ (s02 : Nat),
(s02 ≤ p.2.1.length ∧ endsUp p s02) ∧
(↑s02 : Int) = (0 : Int) ∧
p.2.1 = p.2.1 ∧
(↑p.2.1.length : Int) = (↑p.2.1.length : Int) ∧
nextsUp p s02 = [] ∧
keepP p (True)) ∧
∀ (s2 : Nat),
lett (decide ((↑s2 : Int) < (↑p.2.1.length : Int))) fun (y3 : Bool) =>
lett (p.2.1.getD (↑s2 : Int).toNat y1) fun (y4 : (Int × Int) × Int × Int) =>
lett
(bif
bif (mget PortT (nextsUp p s2) y4.1).isSome then true
else (mget PortT (nextsUp p s2) y4.2).isSome then
true
else y4.1.1 == y4.2.1 && (y4.1.2 == y4.2.2 && true))
fun (y5 : Bool) =>
lett (bif y5 then true else !fHas p y4.1) fun (y6 : Bool) =>
lett (bif y6 then true else !fHas p y4.2) fun (y7 : Bool) =>
s2 ≤ p.2.1.length ∧ endsUp p s2 →
(y3 = true →
InB (↑s2 : Int) p.2.1.length ∧
(y5 = false → True) ∧
(y6 = false → True) ∧
(y7 = true → [] = fNexts? p ∧ false = fJoined p ∧ True) ∧
(y7 = false →
InR IntKind.i64 ((↑s2 : Int) + (1 : Int)) ∧
∃ (s'8 : Nat),
(s'8 ≤ p.2.1.length ∧ endsUp p s'8) ∧
p.2.1.length - s'8 < p.2.1.length - s2 ∧
(↑s'8 : Int) = (↑s2 : Int) + (1 : Int) ∧
p.2.1 = p.2.1 ∧
(↑p.2.1.length : Int) = (↑p.2.1.length : Int) ∧
nextsUp p s'8 =
mput PortT (mput PortT (nextsUp p s2) y4.1 y4.2) y4.2
y4.1 ∧
keepP p (True))) ∧
(y3 = false →
(∃ (s08 : Nat),
(s08 ≤ p.1.length ∧ allOf (gateOk p) s08) ∧
(↑s08 : Int) = (0 : Int) ∧
p.1 = p.1 ∧
(↑p.1.length : Int) = (↑p.1.length : Int) ∧
keepP p (nextsUp p s2 = nextsUp p s2 ∧ True)) ∧
∀ (s8 : Nat),
lett (decide ((↑s8 : Int) < (↑p.1.length : Int))) fun (y9 : Bool) =>
lett ((p.1.getD (↑s8 : Int).toNat ([], (0 : Int), (0 : Int))).2.1 != (4 : Int)) fun (y10 : Bool) =>
lett (mget PortT (nextsUp p s2) ((↑s8 : Int), (0 : Int))) fun (y11 : Option (Int × Int)) =>
lett (y11.getD ((0 : Int), (0 : Int))).1 fun (y12 : Int) =>
lett (bif !y11.isSome then true else (p.1.getD y12.toNat ([], (0 : Int), (0 : Int))).2.1 == (4 : Int)) fun (y13 : Bool) =>
s8 ≤ p.1.length ∧ allOf (gateOk p) s8 →
(y9 = true →
InB (↑s8 : Int) p.1.length ∧
(y10 = true →
InR IntKind.i64 ((↑s8 : Int) + (1 : Int)) ∧
∃ (s'14 : Nat),
(s'14 ≤ p.1.length ∧ allOf (gateOk p) s'14) ∧
p.1.length - s'14 < p.1.length - s8 ∧
(↑s'14 : Int) = (↑s8 : Int) + (1 : Int) ∧
p.1 = p.1 ∧
(↑p.1.length : Int) = (↑p.1.length : Int) ∧
keepP p (nextsUp p s2 = nextsUp p s2 ∧ True)) ∧
(y10 = false →
((!y11.isSome) = false → InB y12 p.1.length) ∧
(y13 = true → [] = fNexts? p ∧ false = fJoined p ∧ True) ∧
(y13 = false →
InR IntKind.i64 ((↑s8 : Int) + (1 : Int)) ∧
∃ (s'14 : Nat),
(s'14 ≤ p.1.length ∧ allOf (gateOk p) s'14) ∧
p.1.length - s'14 < p.1.length - s8 ∧
(↑s'14 : Int) = (↑s8 : Int) + (1 : Int) ∧
p.1 = p.1 ∧
(↑p.1.length : Int) = (↑p.1.length : Int) ∧
keepP p (nextsUp p s2 = nextsUp p s2 ∧ True)))) ∧
(y9 = false → nextsUp p s2 = fNexts? p ∧ true = fJoined p ∧ True))) := by kernel_rfl
theorem b86 (p : PlanD) (hw : planWf p) : bodyVC (ctxOf tab [(129, c129)]) Tryz.f86 c86 (a86 (p, ())) (p, ()) := by
 have hno : fJoined p = false → ([] : List (PortD × PortD)) = fNexts? p ∧ false = fJoined p := fun h => by
  unfold fNexts?
  rw [h]; exact ⟨rfl, rfl⟩
 rw [v86]
 refine lett.mk fun y1 e1 => ?_
 simp only [keepP_eq, true_and, and_true, eq_self, Int.toNat_natCast]
 refine ⟨⟨0, ⟨by omega, rfl⟩, rfl, rfl⟩, fun k => lett.mk fun y3 e3 => lett.mk fun y4 e4 => lett.mk fun y5 e5 => lett.mk fun y6 e6 => lett.mk fun y7 e7 => ?_⟩
 rintro ⟨g1, g2⟩
 refine ⟨fun h => ?_, fun h => ?_⟩
 ·have hk := lt_of_y e3 h
  have e4 : y4 = p.2.1.getD k zJ := by rw [e4, e1]; rfl
  obtain ⟨r1, r2⟩ := join_round p k hk g2
  have hbad : (!fHas p (p.2.1.getD k zJ).1 || (!fHas p (p.2.1.getD k zJ).2 || ((mget PortT (nextsUp p k) (p.2.1.getD k zJ).1).isSome || ((mget PortT (nextsUp p k) (p.2.1.getD k zJ).2).isSome || (p.2.1.getD k zJ).1 == (p.2.1.getD k zJ).2)))) = y7 := by
   rw [e7, e6, e5, portBeq, e4]
   generalize fHas p (p.2.1.getD k zJ).1 = a; generalize fHas p (p.2.1.getD k zJ).2 = b; generalize (mget PortT (nextsUp p k) (p.2.1.getD k zJ).1).isSome = c; generalize (mget PortT (nextsUp p k) (p.2.1.getD k zJ).2).isSome = d; generalize ((p.2.1.getD k zJ).1 == (p.2.1.getD k zJ).2) = f
   cases a <;> cases b <;> cases c <;> cases d <;> cases f <;> rfl
  refine ⟨⟨by omega, by omega⟩, fun _ => trivial, fun _ => trivial, fun h7 => hno (r1 (by rw [hbad, h7])), fun h7 => ?_⟩
  obtain ⟨q1, q2⟩ := r2 (by rw [hbad, h7])
  exact ⟨inRlen hk hw.2.1, k + 1, ⟨by omega, q1⟩, by omega, by omega, by rw [e4]; exact q2⟩
 ·have hk := le_of_y e3 h
  have hkk : k = p.2.1.length := by omega
  have hN : nextsUp p k = fNexts p := nexts_full p k hk
  have hends : allTo (endOk p) (joinEnds p).length = true := by rw [ends_lenQ, ← hkk]; exact g2
  refine ⟨⟨0, ⟨by omega, rfl⟩, rfl⟩, fun s => lett.mk fun y9 e9 => lett.mk fun y10 e10 => lett.mk fun y11 e11 => lett.mk fun y12 e12 => lett.mk fun y13 e13 => ?_⟩
  rintro ⟨s1, s2⟩
  rw [hN, next_get] at e11
  have e10 : y10 = !((p.1.getD s zE).2.1 == 4) := by rw [e10, bneB]; rfl
  have hkind : y11.isSome = true → InB y12 p.1.length ∧ fKind p (fNext p ((s : Int), 0)).1.1 = (p.1.getD y12.toNat zE).2.1 ∧ y12 = (fNext p ((s : Int), 0)).1.1 := fun hs => by
   cases hn : (fNext p ((s : Int), 0)).2 with
   | false => rw [e11, hn] at hs; cases hs
   | true =>
    rw [hn] at e11
    have e12 : y12 = (fNext p ((s : Int), 0)).1.1 := by rw [e12, e11]; rfl
    have hm := mem_of_mget portKey (by rw [next_get, hn]; rfl : mget PortT (fNexts p) ((s : Int), 0) = some (fNext p ((s : Int), 0)).1)
    have hh : fHas p (fNext p ((s : Int), 0)).1 = true := by
     unfold fNexts at hm
     obtain ⟨j, hj, hm⟩ := List.mem_flatMap.1 hm
     have hb : fHas p j.1 = true ∧ fHas p j.2 = true := by
      obtain ⟨i, hi, rfl⟩ := List.mem_iff_getElem.1 hj
      have e := ends_get p i hi
      rw [getD_at zJ hi] at e
      have a := allTo_iff.1 hends (2 * i) (by rw [ends_lenQ]; omega)
      have b := allTo_iff.1 hends (2 * i + 1) (by rw [ends_lenQ]; omega)
      unfold endOk at a b
      rw [e.1, Bool.and_eq_true] at a
      rw [e.2, Bool.and_eq_true] at b
      exact ⟨a.1, b.1⟩
     simp only [List.mem_cons, Prod.mk.injEq, List.not_mem_nil, or_false] at hm
     rcases hm with ⟨_, hm⟩ | ⟨_, hm⟩
     ·rw [hm]; exact hb.2
     ·rw [hm]; exact hb.1
    have hf := has_factsQ hh
    rw [e12]
    exact ⟨⟨hf.1, hf.2.1⟩, hf.2.2.2.2, rfl⟩
  have hg : gateOk p s = (y10 || !y13) := by
   unfold gateOk
   rw [e10]
   cases (p.1.getD s zE).2.1 == 4 with
   | false => rfl
   | true =>
    simp only [cond_true, Bool.not_true, Bool.false_or]
    have hs : y11.isSome = (fNext p ((s : Int), 0)).2 := by rw [e11]; cases (fNext p ((s : Int), 0)).2 <;> rfl
    cases hn : (fNext p ((s : Int), 0)).2 with
    | false => rw [hn] at hs; rw [e13, hs]; rfl
    | true =>
     rw [hn] at hs
     have := hkind hs
     rw [this.2.1, e13, hs]
     simp only [Bool.true_and, Bool.not_true, cond_false]
     rfl
  refine ⟨fun h => ?_, fun h => ?_⟩
  ·have hs := lt_of_y e9 h
   have yes : gateOk p s = true → ∃ s', (s' ≤ p.1.length ∧ allOf (gateOk p) s') ∧ p.1.length - s' < p.1.length - s ∧ (s' : Int) = (s : Int) + 1 := fun hf =>
    ⟨s + 1, ⟨by omega, allTo_succ s2 hf⟩, by omega, by omega⟩
   refine ⟨⟨by omega, by omega⟩, fun h10 => ⟨inRlen hs hw.1, yes (by rw [hg, h10]; rfl)⟩, fun h10 => ⟨fun h11 => (hkind (by simpa using h11)).1, fun h13 => hno ?_, fun h13 => ⟨inRlen hs hw.1, yes (by rw [hg, h10, h13]; rfl)⟩⟩⟩
   rw [joined_eq, allTo_no hs (by rw [hg, h10, h13]; rfl), Bool.and_false]
  ·have hs := le_of_y e9 h
   have : s = p.1.length := by omega
   have hJ : fJoined p = true := by
    rw [joined_eq, hends, ← this]
    exact s2
   unfold fNexts?
   rw [hJ, hN]
   exact ⟨rfl, rfl⟩
theorem ok86 : DOk Tryz.prog 86 c86 :=
 DOk.of' (l := [(129, c129)]) (A := a86) tabOk ⟨ok129, trivial⟩ Tryz.func86 (by kernel_rfl) (by kernel_rfl) fun x hw hp => b86 x.1 (plan_wf hw.1)
theorem v87 (p : PlanD) (m : List ((Int × Int) × Int × Int)) : bodyVC (ctxOf tab [(129, c129)]) Tryz.f87 c87 (a87 (p, m, ())) (p, m, ()) = (
lett ([], ((0 : Int), (0 : Int)), false) fun (y2 : List UInt8 × (Int × Int) × Bool) =>
(∃ (s03 : Nat),
(s03 ≤ p.2.2.1.length ∧ allOf (sigOk p) s03) ∧
(↑s03 : Int) = (0 : Int) ∧
m = m ∧
p.2.2.1 = p.2.2.1 ∧
(↑p.2.2.1.length : Int) = (↑p.2.2.1.length : Int) ∧
atsUp p s03 = [] ∧
keepP p (True)) ∧
∀ (s3 : Nat),
lett (decide ((↑s3 : Int) < (↑p.2.2.1.length : Int))) fun (y4 : Bool) =>
lett (p.2.2.1.getD (↑s3 : Int).toNat y2).2.1 fun (y5 : Int × Int) =>
lett (bif !fHas p y5 then true else (mget PortT (atsUp p s3) y5).getD false) fun (y6 : Bool) =>
lett (p.1.getD y5.1.toNat ([], (0 : Int), (0 : Int))).2.1 fun (y7 : Int) =>
lett (bif y7 != (1 : Int) then y7 != (4 : Int) else false) fun (y8 : Bool) =>
lett (mget PortT m y5) fun (y9 : Option (Int × Int)) =>
lett (y9.getD ((0 : Int), (0 : Int))).1 fun (y10 : Int) =>
lett (bif !y9.isSome then true else (p.1.getD y10.toNat ([], (0 : Int), (0 : Int))).2.1 == (4 : Int)) fun (y11 : Bool) =>
s3 ≤ p.2.2.1.length ∧ allOf (sigOk p) s3 →
(y4 = true →
InB (↑s3 : Int) p.2.2.1.length ∧
True ∧
(y6 = true → false = fSignals p ∧ True) ∧
(y6 = false →
InB y5.1 p.1.length ∧
(y8 = true → false = fSignals p ∧ True) ∧
(y8 = false →
((!y9.isSome) = false → InB y10 p.1.length) ∧
(y11 = true → false = fSignals p ∧ True) ∧
(y11 = false →
InR IntKind.i64 ((↑s3 : Int) + (1 : Int)) ∧
∃ (s'12 : Nat),
(s'12 ≤ p.2.2.1.length ∧ allOf (sigOk p) s'12) ∧
p.2.2.1.length - s'12 < p.2.2.1.length - s3 ∧
(↑s'12 : Int) = (↑s3 : Int) + (1 : Int) ∧
m = m ∧
p.2.2.1 = p.2.2.1 ∧
(↑p.2.2.1.length : Int) = (↑p.2.2.1.length : Int) ∧
atsUp p s'12 = mput PortT (atsUp p s3) y5 true ∧
keepP p (True))))) ∧
(y4 = false →
(∃ (s012 : Nat),
(s012 ≤ p.1.length ∧ allOf (gateSig p) s012) ∧
(↑s012 : Int) = (0 : Int) ∧ p.1 = p.1 ∧ (↑p.1.length : Int) = (↑p.1.length : Int) ∧ atsUp p s3 = atsUp p s3 ∧ True) ∧
∀ (s12 : Nat),
lett (decide ((↑s12 : Int) < (↑p.1.length : Int))) fun (y13 : Bool) =>
lett
(bif (p.1.getD (↑s12 : Int).toNat ([], (0 : Int), (0 : Int))).2.1 == (4 : Int) then
!(mget PortT (atsUp p s3) ((↑s12 : Int), (0 : Int))).getD false
else false)
fun (y14 : Bool) =>
s12 ≤ p.1.length ∧ allOf (gateSig p) s12 →
(y13 = true →
InB (↑s12 : Int) p.1.length ∧
(y14 = true → false = fSignals p ∧ True) ∧
(y14 = false →
InR IntKind.i64 ((↑s12 : Int) + (1 : Int)) ∧
∃ (s'15 : Nat),
(s'15 ≤ p.1.length ∧ allOf (gateSig p) s'15) ∧
p.1.length - s'15 < p.1.length - s12 ∧
(↑s'15 : Int) = (↑s12 : Int) + (1 : Int) ∧ p.1 = p.1 ∧ (↑p.1.length : Int) = (↑p.1.length : Int) ∧ atsUp p s3 = atsUp p s3 ∧ True)) ∧
(y13 = false → true = fSignals p ∧ True))) := by kernel_rfl
theorem b87 (p : PlanD) (m : List (PortD × PortD)) (hj : fJoined p = true) (hm : m = fNexts p) (hw : planWf p) : bodyVC (ctxOf tab [(129, c129)]) Tryz.f87 c87 (a87 (p, m, ())) (p, m, ()) := by
 subst hm
 have hS : fSignals p = (allTo (sigOk p) p.2.2.1.length && allTo (gateSig p) p.1.length) := by unfold fSignals; rfl
 rw [v87, hS]
 simp only [keepP_eq, true_and, and_true, eq_self, Int.toNat_natCast]
 refine lett.mk fun y2 e2 => ?_
 refine ⟨⟨0, ⟨by omega, rfl⟩, rfl, rfl⟩, fun k => lett.mk fun y4 e4 => lett.mk fun y5 e5 => lett.mk fun y6 e6 => lett.mk fun y7 e7 => lett.mk fun y8 e8 => lett.mk fun y9 e9 => lett.mk fun y10 e10 => lett.mk fun y11 e11 => ?_⟩
 rintro ⟨g1, g2⟩
 rw [next_get] at e9
 refine ⟨fun h => ?_, fun h => ?_⟩
 ·have hk := lt_of_y e4 h
  have e5 : y5 = (p.2.2.1.getD k zS).2.1 := by rw [e5, e2]; rfl
  have hat : (mget PortT (atsUp p k) y5).getD false = anyTo (readOf p y5) k := ats_spec p k (by omega) y5
  have hreads : (fReads p y5 == (k : Int)) = !(mget PortT (atsUp p k) y5).getD false := by rw [hat, e5]; exact reads_at p k hk
  have hs : y9.isSome = (fNext p y5).2 := by rw [e9]; cases (fNext p y5).2 <;> rfl
  have hK : fHas p y5 = true → InB y5.1 p.1.length ∧ fKind p y5.1 = y7 := fun hh => by
   have hf := has_factsQ hh
   exact ⟨⟨hf.1, hf.2.1⟩, by rw [hf.2.2.2.2, e7]; rfl⟩
  have hK2 : y9.isSome = true → InB y10 p.1.length ∧ fKind p (fNext p y5).1.1 = (p.1.getD y10.toNat zE).2.1 := fun h9 => by
   rw [hs] at h9
   rw [h9] at e9
   have e10 : y10 = (fNext p y5).1.1 := by rw [e10, e9]; rfl
   have hh := next_hasQ hj (by rw [next_get, h9]; rfl : mget PortT (fNexts p) y5 = some (fNext p y5).1)
   have hf := has_factsQ hh
   rw [e10]
   exact ⟨⟨hf.1, hf.2.1⟩, hf.2.2.2.2⟩
  have hok : sigOk p k = (!y6 && (!y8 && !y11)) := by
   unfold sigOk sigOkX
   rw [← e5, hreads, e6, e8, e11, bneB, bneB]
   cases hh : fHas p y5 with
   | false => rfl
   | true =>
    rw [(hK hh).2, hs]
    cases hn : (fNext p y5).2 with
    | false =>
     generalize (mget PortT (atsUp p k) y5).getD false = a; generalize (y7 == 1) = b; generalize (y7 == 4) = c
     cases a <;> cases b <;> cases c <;> rfl
    | true =>
     rw [(hK2 (by rw [hs, hn])).2]
     have e : ((p.1.getD y10.toNat ([], (0 : Int), (0 : Int))).2.1 == 4) = ((p.1.getD y10.toNat zE).2.1 == 4) := rfl
     rw [e]
     generalize (mget PortT (atsUp p k) y5).getD false = a; generalize (y7 == 1) = b; generalize (y7 == 4) = c; generalize ((p.1.getD y10.toNat zE).2.1 == 4) = d
     cases a <;> cases b <;> cases c <;> cases d <;> rfl
  have no : sigOk p k = false → false = (allTo (sigOk p) p.2.2.1.length && allTo (gateSig p) p.1.length) := fun hf => by rw [allTo_no hk hf]; rfl
  refine ⟨⟨by omega, by omega⟩, fun h6 => no (by rw [hok, h6]; rfl), fun h6 => ⟨?_, fun h8 => no (by rw [hok, h8, h6]; rfl), fun h8 => ⟨fun h9 => (hK2 (by simpa using h9)).1, fun h11 => no (by rw [hok, h11, h8, h6]; rfl), fun h11 => ⟨inRlen hk hw.2.2.1, k + 1, ⟨by omega, allTo_succ g2 (by rw [hok, h6, h8, h11]; rfl)⟩, by omega, by omega, ?_⟩⟩⟩⟩
  ·refine (hK ?_).1
   rw [e6] at h6
   cases hh : fHas p y5 with
   | true => rfl
   | false => rw [hh] at h6; cases h6
  ·rw [e5]
   refine (ats_put p k hk ?_).symm
   rw [e6] at h6
   rw [← e5]
   cases hh : fHas p y5 with
   | true => rw [hh] at h6; exact h6
   | false => rw [hh] at h6; cases h6
 ·have hk := le_of_y e4 h
  have hkk : k = p.2.2.1.length := by omega
  have hall : allTo (sigOk p) p.2.2.1.length = true := by rw [← hkk]; exact g2
  rw [hall, Bool.true_and]
  refine ⟨⟨0, ⟨by omega, rfl⟩, rfl⟩, fun s => lett.mk fun y13 e13 => lett.mk fun y14 e14 => ?_⟩
  rintro ⟨s1, s2⟩
  have hg : gateSig p s = !y14 := by
   unfold gateSig
   rw [e14, ats_spec p k (by omega), hkk, ← reads_any]
   have e : ((p.1.getD s ([], (0 : Int), (0 : Int))).2.1 == 4) = ((p.1.getD s zE).2.1 == 4) := rfl
   rw [e]
   generalize ((p.1.getD s zE).2.1 == 4) = a; generalize decide (0 ≤ fReads p ((s : Int), 0)) = b
   cases a <;> cases b <;> rfl
  refine ⟨fun h => ?_, fun h => ?_⟩
  ·have hs := lt_of_y e13 h
   exact ⟨⟨by omega, by omega⟩, fun h14 => by rw [allTo_no hs (by rw [hg, h14]; rfl)], fun h14 => ⟨inRlen hs hw.1, s + 1, ⟨by omega, allTo_succ s2 (by rw [hg, h14]; rfl)⟩, by omega, by omega⟩⟩
  ·have hs := le_of_y e13 h
   have : s = p.1.length := by omega
   rw [← this]
   exact Eq.symm s2
theorem ok87 : DOk Tryz.prog 87 c87 :=
 DOk.of' (l := [(129, c129)]) (A := a87) tabOk ⟨ok129, trivial⟩ Tryz.func87 (by kernel_rfl) (by kernel_rfl) fun x hw hp => b87 x.1 x.2.1 hp.1 hp.2 (plan_wf hw.1)
end YtpnnfimacblhgaaGreat
end Go.Proofs
end

section
set_option maxRecDepth 100000
set_option linter.unusedVariables false
set_option linter.unusedSimpArgs false
set_option maxHeartbeats 2000000
namespace Go.Proofs
open Go Go.Vc
namespace YtpnnfimacblhgaaGreat
theorem v130 (l : List Int) (m : List ((Int × Int) × Int × Int)) : bodyVC (ctxOf tab []) Tryz.f130 c130 (a130 (l, m, ())) (l, m, ()) = (
lett (decide ((↑l.length : Int) < (2 : Int))) fun (y2 : Bool) =>
(y2 = true → true = fRow m l ∧ True) ∧
(y2 = false →
(∃ (s03 : Nat), s03 ≤ (2 : Nat) ∧ (1 : Int) - (↑s03 : Int) = (1 : Int) ∧ outDn m l s03 = (-1 : Int) ∧ l = l ∧ m = m ∧ True) ∧
∀ (s3 : Nat),
lett (decide ((1 : Int) - (↑s3 : Int) ≥ (0 : Int))) fun (y4 : Bool) =>
lett (mget PortT m (l.getD (Int.toNat (0 : Int)) (0 : Int), (1 : Int) - (↑s3 : Int))) fun (y5 : Option (Int × Int)) =>
lett ((1 : Int) - (↑s3 : Int) - (1 : Int)) fun (y6 : Int) =>
lett (decide (outDn m l s3 < (0 : Int))) fun (y7 : Bool) =>
s3 ≤ (2 : Nat) →
(y4 = true →
InB (0 : Int) l.length ∧
(y5.isSome = true → InB (1 : Int) l.length) ∧
InR IntKind.i64 y6 ∧
∃ (s'8 : Nat),
s'8 ≤ (2 : Nat) ∧
(2 : Nat) - s'8 < (2 : Nat) - s3 ∧
(1 : Int) - (↑s'8 : Int) = y6 ∧
(outDn m l s'8 =
bif bif y5.isSome then (y5.getD ((0 : Int), (0 : Int))).1 == l.getD (Int.toNat (1 : Int)) (0 : Int) else false then (1 : Int) - (↑s3 : Int)
else outDn m l s3) ∧
l = l ∧ m = m ∧ True) ∧
(y4 = false →
(y7 = true → false = fRow m l ∧ True) ∧
(y7 = false →
(∃ (s08 : Nat × Int),
(s08.1 < l.length ∧ goRow m l (out0Row m l) s08.1 = some s08.2) ∧ (↑s08.1 : Int) + (1 : Int) = (1 : Int) ∧ s08.2 = outDn m l s3 ∧ l = l ∧ m = m ∧ True) ∧
∀ (s8 : Nat × Int),
lett (decide ((↑s8.1 : Int) + (1 : Int) < (↑l.length : Int))) fun (y9 : Bool) =>
lett ((↑s8.1 : Int) + (1 : Int) - (1 : Int)) fun (y10 : Int) =>
lett (mget PortT m (l.getD y10.toNat (0 : Int), s8.2)) fun (y11 : Option (Int × Int)) =>
lett (bif !y11.isSome then true else (y11.getD ((0 : Int), (0 : Int))).1 != l.getD ((↑s8.1 : Int) + (1 : Int)).toNat (0 : Int)) fun (y12 : Bool) =>
lett ((1 : Int) - (y11.getD ((0 : Int), (0 : Int))).2) fun (y13 : Int) =>
lett ((↑s8.1 : Int) + (1 : Int) + (1 : Int)) fun (y14 : Int) =>
s8.1 < l.length ∧ goRow m l (out0Row m l) s8.1 = some s8.2 →
(y9 = true →
InR IntKind.i64 y10 ∧
InB y10 l.length ∧
((!y11.isSome) = false → InB ((↑s8.1 : Int) + (1 : Int)) l.length) ∧
(y12 = true → false = fRow m l ∧ True) ∧
(y12 = false →
InR IntKind.i64 y13 ∧
InR IntKind.i64 y14 ∧
∃ (s'15 : Nat × Int),
(s'15.1 < l.length ∧ goRow m l (out0Row m l) s'15.1 = some s'15.2) ∧
l.length - s'15.1 < l.length - s8.1 ∧ (↑s'15.1 : Int) + (1 : Int) = y14 ∧ s'15.2 = y13 ∧ l = l ∧ m = m ∧ True)) ∧
(y9 = false → true = fRow m l ∧ True))))) := by kernel_rfl
theorem goRow_some {m : List (PortD × PortD)} {l : List Int} {out : Int} {n : Nat} : ∀ {k : Nat}, k ≤ n → (goRow m l out n).isSome = true → (goRow m l out k).isSome = true := by
 induction n with
 | zero => intro k hk h; have : k = 0 := (by omega); subst this; exact h
 | succ n ih =>
  intro k hk h
  by_cases e : k = n + 1
  ·rw [e]; exact h
  ·refine ih (by omega) ?_
   unfold goRow at h
   cases hg : goRow m l out n with
   | none => rw [hg] at h; cases h
   | some o => rfl
def goNext : Option PortD → Int → Option Int
 | none, _ => none
 | some q, y => bif q.1 == y then some (1 - q.2) else none
theorem goRow_step {m : List (PortD × PortD)} {l : List Int} {out o : Int} {k : Nat} (h : goRow m l out k = some o) : goRow m l out (k + 1) = goNext (mget PortT m (l.getD k 0, o)) (l.getD (k + 1) 0) := by
 unfold goRow
 rw [h]
 simp only
 cases mget PortT m (l.getD k 0, o) <;> rfl
theorem b130 (l : List Int) (m : List (PortD × PortD)) (hm : smallEnds m) (hw : l.length ≤ maxLenI) : bodyVC (ctxOf tab []) Tryz.f130 c130 (a130 (l, m, ())) (l, m, ()) := by
 rw [v130]
 simp only [true_and, and_true, eq_self, Int.toNat_natCast]
 have hR : fRow m l = bif decide (l.length < 2) then true else bif decide (out0Row m l < 0) then false else (goRow m l (out0Row m l) (l.length - 1)).isSome := by unfold fRow; rfl
 refine lett.mk fun y2 e2 => ⟨fun h => ?_, fun h => ?_⟩
 ·rw [h] at e2
  have := of_decide_eq_true e2.symm
  rw [hR, decide_eq_true (by omega)]; rfl
 have hl : 2 ≤ l.length := by
  rw [h] at e2
  have := of_decide_eq_false e2.symm
  omega
 rw [decide_eq_false (by omega)] at hR
 simp only [cond_false] at hR
 refine ⟨⟨0, by omega, by simp, rfl⟩, fun k => lett.mk fun y4 e4 => lett.mk fun y5 e5 => lett.mk fun y6 e6 => lett.mk fun y7 e7 => ?_⟩
 intro hk
 refine ⟨fun h4 => ?_, fun h4 => ?_⟩
 ·rw [h4] at e4
  have h4 := of_decide_eq_true e4.symm
  have hkk : k = 0 ∨ k = 1 := by omega
  refine ⟨⟨by omega, by omega⟩, fun _ => ⟨by omega, by omega⟩, inR64 (by omega) (by omega), k + 1, by omega, by omega, by omega, ?_⟩
  have hr : (bif y5.isSome then (y5.getD ((0 : Int), (0 : Int))).1 == l.getD (Int.toNat (1 : Int)) (0 : Int) else false) = outRow m l (1 - (k : Int)) := by
   rw [e5]
   unfold outRow
   show (bif (mget PortT m (l.getD 0 0, 1 - (k : Int))).isSome then ((mget PortT m (l.getD 0 0, 1 - (k : Int))).getD (0, 0)).1 == l.getD 1 0 else false) = _
   cases mget PortT m (l.getD 0 0, 1 - (k : Int)) <;> rfl
  rw [hr]
  rcases hkk with rfl | rfl
  ·rfl
  ·show out0Row m l = bif outRow m l 0 then 0 else bif outRow m l 1 then 1 else -1
   rfl
 have hk2 : k = 2 := by
  rw [h4] at e4
  have := of_decide_eq_false e4.symm
  omega
 subst hk2
 have hout : outDn m l 2 = out0Row m l := rfl
 rw [hout] at e7
 rw [← e7] at hR
 refine ⟨fun h7 => by rw [hR, h7]; rfl, fun h7 => ?_⟩
 rw [h7] at hR
 simp only [cond_false] at hR
 refine ⟨⟨(0, out0Row m l), ⟨by show 0 < l.length; omega, rfl⟩, rfl, hout.symm⟩, fun s => lett.mk fun y9 e9 => lett.mk fun y10 e10 => lett.mk fun y11 e11 => lett.mk fun y12 e12 => lett.mk fun y13 e13 => lett.mk fun y14 e14 => ?_⟩
 rintro ⟨g1, g2⟩
 have e10 : y10 = (s.1 : Int) := by omega
 have t10 : y10.toNat = s.1 := by omega
 have t11 : ((s.1 : Int) + 1).toNat = s.1 + 1 := by omega
 rw [t10] at e11
 rw [t11] at e12
 have hstep : goRow m l (out0Row m l) (s.1 + 1) = goNext y11 (l.getD (s.1 + 1) 0) := by rw [e11]; exact goRow_step g2
 refine ⟨fun h9 => ?_, fun h9 => ?_⟩
 ·rw [h9] at e9
  have h9 := of_decide_eq_true e9.symm
  have hb : y11.isSome = true → 0 ≤ (y11.getD ((0 : Int), (0 : Int))).2 ∧ (y11.getD ((0 : Int), (0 : Int))).2 ≤ 3 := fun hs => by
   obtain ⟨q, hq⟩ := Option.isSome_iff_exists.1 hs
   rw [hq] at e11 ⊢
   exact hm _ (mem_of_mget portKey e11.symm)
  refine ⟨inR_of (by have : maxLenI = 9223372036854775807 := rfl; omega) (by have : maxLenI = 9223372036854775807 := rfl; omega), ⟨by omega, by omega⟩, fun _ => ⟨by omega, by omega⟩, fun h12 => ?_, fun h12 => ?_⟩
  ·have hno : (goRow m l (out0Row m l) (s.1 + 1)).isSome = false := by
    rw [hstep]
    rw [h12, bneB] at e12
    cases hy : y11 with
    | none => rfl
    | some q =>
     rw [hy] at e12
     simp only [Option.isSome_some, Bool.not_true, cond_false, Option.getD_some] at e12
     have : (q.1 == l.getD (s.1 + 1) 0) = false := by simpa using e12.symm
     simp only [goNext, this, cond_false]
     rfl
   rw [hR]
   symm
   cases hc : (goRow m l (out0Row m l) (l.length - 1)).isSome with
   | false => rfl
   | true => rw [goRow_some (k := s.1 + 1) (by omega) hc] at hno; cases hno
  ·rw [h12, bneB] at e12
   cases hy : y11 with
   | none => rw [hy] at e12; cases e12
   | some q =>
    rw [hy] at e12 e13 hb hstep
    have hq := hb rfl
    simp only [Option.isSome_some, Bool.not_true, cond_false, Option.getD_some] at e12 e13 hq
    have hq1 : (q.1 == l.getD (s.1 + 1) 0) = true := by simpa using e12.symm
    have hs2 : goRow m l (out0Row m l) (s.1 + 1) = some (1 - q.2) := by rw [hstep]; simp only [goNext, hq1, cond_true]
    have hlt : s.1 + 1 < l.length := by omega
    refine ⟨inR64 (by omega) (by omega), inR_of (by have : maxLenI = 9223372036854775807 := rfl; omega) (by have : maxLenI = 9223372036854775807 := rfl; omega), (s.1 + 1, 1 - q.2), ⟨hlt, hs2⟩, ?_, ?_, e13.symm⟩
    ·show l.length - (s.1 + 1) < l.length - s.1; omega
    ·show ((s.1 + 1 : Nat) : Int) + 1 = y14; omega
 ·rw [h9] at e9
  have h9 := of_decide_eq_false e9.symm
  have : s.1 = l.length - 1 := by omega
  rw [hR, ← this, g2]
  rfl
theorem ok130 : DOk Tryz.prog 130 c130 :=
 DOk.of' (l := []) (A := a130) tabOk trivial Tryz.func130 (by kernel_rfl) (by kernel_rfl) fun x hw hp => b130 x.1 x.2.1 hp hw.1.1
theorem met_spec (l : List Int) (y : Int) : (mget I (l.map fun e => (e, true)) y).getD false = fMem l y := by
 rw [mget_seen I (fun e : Int => e)]
 unfold fMem
 congr 1
 funext e
 exact beqComm y e
theorem met_put (l : List Int) (y : Int) (h : fMem l y = false) : mput I (l.map fun e => (e, true)) y true = (l ++ [y]).map fun e => (e, true) := by
 have h1 : (mget I (l.map fun e => (e, true)) y).isSome = false := by
  rw [mget_isSome, List.any_map]
  unfold fMem at h
  rw [← h]
  congr 1
  funext e
  exact beqComm y e
 rw [mput_new intKey h1, List.map_append]
 rfl
theorem metBy_succ (p : PlanD) (i : Nat) (hi : i < p.2.2.2.1.length) : metBy p (i + 1) = metBy p i ++ (p.2.2.2.1.getD i zL).2 := by
 unfold metBy
 rw [flat_succ _ zL hi]
theorem v88 (p : PlanD) (m : List ((Int × Int) × Int × Int)) : bodyVC (ctxOf tab [(130, c130)]) Tryz.f88 c88 (a88 (p, m, ())) (p, m, ()) = (
(∃ (s02 : Nat),
(s02 ≤ p.2.2.2.1.length ∧ allOf (lineOk p) s02) ∧
(↑s02 : Int) = (0 : Int) ∧
m = m ∧
p.2.2.2.1 = p.2.2.2.1 ∧
(↑p.2.2.2.1.length : Int) = (↑p.2.2.2.1.length : Int) ∧
metUp p s02 (0 : Nat) = [] ∧
keepP p (True)) ∧
∀ (s2 : Nat),
lett (decide ((↑s2 : Int) < (↑p.2.2.2.1.length : Int))) fun (y3 : Bool) =>
lett (p.2.2.2.1.getD (↑s2 : Int).toNat ([], [])) fun (y4 : List UInt8 × List Int) =>
lett ((↑y4.2.length : Int) == (0 : Int)) fun (y5 : Bool) =>
lett (p.2.2.2.1.getD (↑s2 : Int).toNat zL).2.length fun (y6 : Nat) =>
s2 ≤ p.2.2.2.1.length ∧ allOf (lineOk p) s2 →
(y3 = true →
InB (↑s2 : Int) p.2.2.2.1.length ∧
(y5 = true → false = fLines p ∧ True) ∧
(y5 = false →
(∃ (s07 : Nat),
(s07 ≤ y6 ∧ lineUp p (↑s2 : Int).toNat s07) ∧
(↑s07 : Int) = (0 : Int) ∧
m = m ∧
p.2.2.2.1 = p.2.2.2.1 ∧
(↑p.2.2.2.1.length : Int) = (↑p.2.2.2.1.length : Int) ∧
(↑s2 : Int) = (↑s2 : Int) ∧
y4.2 = y4.2 ∧
(↑y4.2.length : Int) = (↑y4.2.length : Int) ∧
metUp p (↑s2 : Int).toNat s07 = metUp p s2 (0 : Nat) ∧
keepP p (y4.1 = y4.1 ∧ y4.2 = y4.2 ∧ True)) ∧
∀ (s7 : Nat),
lett (decide ((↑s7 : Int) < (↑y4.2.length : Int))) fun (y8 : Bool) =>
lett (y4.2.getD (↑s7 : Int).toNat (0 : Int)) fun (y9 : Int) =>
lett (bif decide (y9 < (0 : Int)) then true else decide (y9 ≥ (↑p.1.length : Int))) fun (y10 : Bool) =>
lett (metUp p (↑s2 : Int).toNat s7) fun (y11 : List (Int × Bool)) =>
lett (bif bif y10 then true else (p.1.getD y9.toNat ([], (0 : Int), (0 : Int))).2.1 != (1 : Int) then true else (mget I y11 y9).getD false)
fun (y12 : Bool) =>
s7 ≤ y6 ∧ lineUp p (↑s2 : Int).toNat s7 →
(y8 = true →
InB (↑s7 : Int) y4.2.length ∧
(y10 = false → InB y9 p.1.length) ∧
(y12 = true → false = fLines p ∧ True) ∧
(y12 = false →
InR IntKind.i64 ((↑s7 : Int) + (1 : Int)) ∧
∃ (s'13 : Nat),
(s'13 ≤ y6 ∧ lineUp p (↑s2 : Int).toNat s'13) ∧
y6 - s'13 < y6 - s7 ∧
(↑s'13 : Int) = (↑s7 : Int) + (1 : Int) ∧
m = m ∧
p.2.2.2.1 = p.2.2.2.1 ∧
(↑p.2.2.2.1.length : Int) = (↑p.2.2.2.1.length : Int) ∧
(↑s2 : Int) = (↑s2 : Int) ∧
y4.2 = y4.2 ∧
(↑y4.2.length : Int) = (↑y4.2.length : Int) ∧
metUp p (↑s2 : Int).toNat s'13 = mput I y11 y9 true ∧
keepP p (y4.1 = y4.1 ∧ y4.2 = y4.2 ∧ True))) ∧
(y8 = false →
smallEnds m ∧
((!fRow m y4.2) = true → false = fLines p ∧ True) ∧
((!fRow m y4.2) = false →
InR IntKind.i64 ((↑s2 : Int) + (1 : Int)) ∧
∃ (s'13 : Nat),
(s'13 ≤ p.2.2.2.1.length ∧ allOf (lineOk p) s'13) ∧
p.2.2.2.1.length - s'13 < p.2.2.2.1.length - s2 ∧
(↑s'13 : Int) = (↑s2 : Int) + (1 : Int) ∧
m = m ∧
p.2.2.2.1 = p.2.2.2.1 ∧
(↑p.2.2.2.1.length : Int) = (↑p.2.2.2.1.length : Int) ∧
metUp p s'13 (0 : Nat) = y11 ∧
keepP p (True))))) ∧
(y3 = false → true = fLines p ∧ True)) := by kernel_rfl
theorem b88 (p : PlanD) (m : List (PortD × PortD)) (hj : fJoined p = true) (hm : m = fNexts p) (hw : PlanT.wf p) : bodyVC (ctxOf tab [(130, c130)]) Tryz.f88 c88 (a88 (p, m, ())) (p, m, ()) := by
 subst hm
 have hw' := plan_wf hw
 have hL : fLines p = allTo (lineOk p) p.2.2.2.1.length := by unfold fLines; rfl
 rw [v88, hL]
 simp only [keepP_eq, true_and, and_true, eq_self, Int.toNat_natCast]
 refine ⟨⟨0, ⟨by omega, rfl⟩, rfl, rfl⟩, fun i => lett.mk fun y3 e3 => lett.mk fun y4 e4 => lett.mk fun y5 e5 => lett.mk fun y6 e6 => ?_⟩
 rintro ⟨g1, g2⟩
 refine ⟨fun h => ?_, fun h => ?_⟩
 ·have hi := lt_of_y e3 h
  have e4 : y4 = p.2.2.2.1.getD i zL := e4
  have e6 : y6 = y4.2.length := by rw [e6, e4]
  have hok : lineOk p i = (allTo (lineNew p i) y4.2.length && (fEnters p y4.2).2) := by rw [e4]; rfl
  have no : lineOk p i = false → false = allTo (lineOk p) p.2.2.2.1.length := fun hf => by rw [allTo_no hi hf]
  have hlen : y4.2.length ≤ maxLenI := by
   rw [e4]
   exact (hw.2.2.2.1.2 _ (mem_getD zL hi)).2.1
  have noE : (fEnters p y4.2).2 = false → false = allTo (lineOk p) p.2.2.2.1.length := fun hf => no (by rw [hok, hf, Bool.and_false])
  have enters0 : y4.2.length = 0 → (fEnters p y4.2).2 = false := fun h0 => by unfold fEnters; rw [decide_eq_true h0]; rfl
  have entersT : y4.2.all (fun e => fKind p e == 1) = false → (fEnters p y4.2).2 = false := fun h0 => by unfold fEnters; rw [h0]; simp
  refine ⟨⟨by omega, by omega⟩, fun h5 => noE (enters0 ?_), fun h5 => ?_⟩
  ·rw [h5, eqN' _ 0 0 rfl] at e5
   exact of_decide_eq_true e5.symm
  have h0 : y4.2.length ≠ 0 := by
   rw [h5, eqN' _ 0 0 rfl] at e5
   exact of_decide_eq_false e5.symm
  refine ⟨⟨0, ⟨by omega, rfl, rfl⟩, rfl, ?_⟩, fun k => lett.mk fun y8 e8 => lett.mk fun y9 e9 => lett.mk fun y10 e10 => lett.mk fun y11 e11 => lett.mk fun y12 e12 => ?_⟩
  ·unfold metUp; simp
  rintro ⟨s1, s2, s3⟩
  have s3 : (y4.2.take k).all (isTrack p) = true := by rw [e4]; exact s3
  have hy11 : y11 = (metBy p i ++ y4.2.take k).map fun e => (e, true) := by rw [e11, e4]; rfl
  refine ⟨fun h8 => ?_, fun h8 => ?_⟩
  ·have hk := lt_of_y e8 h8
   have hget : (mget I y11 y9).getD false = fMem (metBy p i ++ y4.2.take k) y9 := by rw [hy11]; exact met_spec _ _
   have hnew : lineNew p i k = !(mget I y11 y9).getD false := by
    rw [hget, e9, e4]; rfl
   have hkind : (isTrack p y9) = !(bif y10 then true else (p.1.getD y9.toNat ([], (0 : Int), (0 : Int))).2.1 != 1) := by
    unfold isTrack fKind
    rw [e10, geI, bneB]
    cases decide (y9 < 0) with
    | true => rfl
    | false =>
     cases decide ((p.1.length : Int) ≤ y9) with
     | true => rfl
     | false =>
      simp only [cond_false, Bool.or_self, Bool.not_not]
      rfl
   refine ⟨⟨by omega, by omega⟩, fun h10 => ?_, fun h12 => ?_, fun h12 => ?_⟩
   ·rw [h10] at e10
    cases h1 : decide (y9 < 0) with
    | true => rw [h1] at e10; cases e10
    | false =>
     rw [h1] at e10
     have h1 := of_decide_eq_false h1
     have h2 := of_decide_eq_false e10.symm
     exact ⟨by omega, by omega⟩
   ·rw [e12] at h12
    cases ht : isTrack p y9 with
    | false =>
     refine noE (entersT ?_)
     exact all_no (p := isTrack p) 0 hk (by rw [← e9, ht])
    | true =>
     rw [hkind, Bool.not_eq_true'] at ht
     rw [ht] at h12
     have h12 : (mget I y11 y9).getD false = true := h12
     refine no ?_
     rw [hok, allTo_no hk (by rw [hnew, h12]; rfl)]
     rfl
   ·rw [e12] at h12
    have ht : (bif y10 then true else (p.1.getD y9.toNat ([], (0 : Int), (0 : Int))).2.1 != 1) = false := by
     cases hb : (bif y10 then true else (p.1.getD y9.toNat ([], (0 : Int), (0 : Int))).2.1 != 1) with
     | false => rfl
     | true => rw [hb] at h12; cases h12
    rw [ht] at h12
    have h12 : (mget I y11 y9).getD false = false := h12
    refine ⟨inRlen hk hlen, k + 1, ⟨by omega, allTo_succ s2 (by rw [hnew, h12]; rfl), ?_⟩, by omega, by omega, ?_⟩
    ·have := all_succ 0 hk s3 (by rw [← e9, hkind, ht]; rfl)
     rw [e4] at this
     exact this
    ·rw [hget] at h12
     rw [hy11, met_put _ _ h12]
     unfold metUp
     rw [← e4, take_succ' 0 hk, ← e9, List.append_assoc]
  ·have hk := le_of_y e8 h8
   have hkk : k = y4.2.length := by omega
   have hT : y4.2.all (fun e => fKind p e == 1) = true := by
    rw [List.take_of_length_le (by omega)] at s3
    exact s3
   have hN : allTo (lineNew p i) y4.2.length = true := by rw [← hkk]; exact s2
   have hrow := row_enters p y4.2 h0 hT
   refine ⟨nexts_small hj, fun hf => noE ?_, fun hf => ⟨inRlen hi hw'.2.2.2, i + 1, ⟨by omega, allTo_succ g2 ?_⟩, by omega, by omega, ?_⟩⟩
   ·rw [← hrow]; simpa using hf
   ·rw [hok, hN, ← hrow]; simpa using hf
   ·rw [hy11, List.take_of_length_le (by omega)]
    unfold metUp
    rw [metBy_succ p i hi, ← e4]
    simp
 ·have hi := le_of_y e3 h
  have : i = p.2.2.2.1.length := by omega
  rw [← this]
  exact Eq.symm g2
theorem ok88 : DOk Tryz.prog 88 c88 :=
 DOk.of' (l := [(130, c130)]) (A := a88) tabOk ⟨ok130, trivial⟩ Tryz.func88 (by kernel_rfl) (by kernel_rfl) fun x hw hp => b88 x.1 x.2.1 hp.1 hp.2 hw.1
theorem v89 (p : PlanD) : bodyVC (ctxOf tab [(131, c131)]) Tryz.f89 c89 (a89 (p, ())) (p, ()) = (
lett (p.2.2.2.2.1 + fStop p.2.2.2.2.1 p.2.2.2.2.2.1) fun (y1 : Int) =>
lett (decide (p.2.2.2.2.2.2.1 < y1)) fun (y2 : Bool) =>
True ∧
InR IntKind.i64 y1 ∧
(y2 = true → false = fLong p ∧ True) ∧
(y2 = false →
(∃ (s03 : Nat),
(s03 ≤ p.2.2.1.length ∧ allT (sigLong p) p.2.2.1 s03) ∧
(↑s03 : Int) = (0 : Int) ∧
p.2.2.1 = p.2.2.1 ∧
(↑p.2.2.1.length : Int) = (↑p.2.2.1.length : Int) ∧
keepP p (True)) ∧
∀ (s3 : Nat),
lett (decide ((↑s3 : Int) < (↑p.2.2.1.length : Int))) fun (y4 : Bool) =>
lett (p.2.2.1.getD (↑s3 : Int).toNat ([], ((0 : Int), (0 : Int)), false)).2.1.1 fun (y5 : Int) =>
lett (p.1.getD y5.toNat ([], (0 : Int), (0 : Int))).2 fun (y6 : Int × Int) =>
lett (bif y6.1 == (1 : Int) then decide (y6.2 < p.2.2.2.2.2.2.1) else false) fun (y7 : Bool) =>
s3 ≤ p.2.2.1.length ∧ allT (sigLong p) p.2.2.1 s3 →
(y4 = true →
InB (↑s3 : Int) p.2.2.1.length ∧
InB y5 p.1.length ∧
(y7 = true → false = fLong p ∧ True) ∧
(y7 = false →
InR IntKind.i64 ((↑s3 : Int) + (1 : Int)) ∧
∃ (s'8 : Nat),
(s'8 ≤ p.2.2.1.length ∧ allT (sigLong p) p.2.2.1 s'8) ∧
p.2.2.1.length - s'8 < p.2.2.1.length - s3 ∧
(↑s'8 : Int) = (↑s3 : Int) + (1 : Int) ∧
p.2.2.1 = p.2.2.1 ∧
(↑p.2.2.1.length : Int) = (↑p.2.2.1.length : Int) ∧
keepP p (True))) ∧
(y4 = false →
(∃ (s08 : Nat),
(s08 ≤ p.1.length ∧ allT (elemLong p) p.1 s08) ∧
(↑s08 : Int) = (0 : Int) ∧
p.1 = p.1 ∧
(↑p.1.length : Int) = (↑p.1.length : Int) ∧
keepP p (True)) ∧
∀ (s8 : Nat),
lett (decide ((↑s8 : Int) < (↑p.1.length : Int))) fun (y9 : Bool) =>
lett (p.1.getD (↑s8 : Int).toNat ([], (0 : Int), (0 : Int))).2 fun (y10 : Int × Int) =>
lett (bif y10.1 != (4 : Int) then decide (y10.2 < p.2.2.2.2.1) else false) fun (y11 : Bool) =>
s8 ≤ p.1.length ∧ allT (elemLong p) p.1 s8 →
(y9 = true →
InB (↑s8 : Int) p.1.length ∧
(y11 = true → false = fLong p ∧ True) ∧
(y11 = false →
InR IntKind.i64 ((↑s8 : Int) + (1 : Int)) ∧
∃ (s'12 : Nat),
(s'12 ≤ p.1.length ∧ allT (elemLong p) p.1 s'12) ∧
p.1.length - s'12 < p.1.length - s8 ∧
(↑s'12 : Int) = (↑s8 : Int) + (1 : Int) ∧
p.1 = p.1 ∧
(↑p.1.length : Int) = (↑p.1.length : Int) ∧
keepP p (True))) ∧
(y9 = false → true = fLong p ∧ True)))) := by kernel_rfl
theorem b89 (p : PlanD) (hn : fNums p = true) (hg : fSignals p = true) (hw : planWf p) : bodyVC (ctxOf tab [(131, c131)]) Tryz.f89 c89 (a89 (p, ())) (p, ()) := by
 have hL : fLong p = (!decide (p.2.2.2.2.2.2.1 < p.2.2.2.2.1 + fStop p.2.2.2.2.1 p.2.2.2.2.2.1) && (p.2.2.1.all (sigLong p) && p.1.all (elemLong p))) := by unfold fLong; rfl
 obtain ⟨n1, n2, n3⟩ := nums_facts hn
 have hst := fStop_range p.2.2.2.2.1 p.2.2.2.2.2.1
 rw [v89, hL]
 refine lett.mk fun y1 e1 => lett.mk fun y2 e2 => ?_
 rw [← e1, ← e2]
 simp only [keepP_eq, true_and, and_true, eq_self, Int.toNat_natCast]
 refine ⟨inR64 (by omega) (by omega), fun h => by rw [h]; rfl, fun h => ?_⟩
 rw [h, Bool.not_false, Bool.true_and]
 have hhas : ∀ s, s < p.2.2.1.length → fHas p (p.2.2.1.getD s zS).2.1 = true := fun s hs => by
  unfold fSignals at hg
  rw [Bool.and_eq_true] at hg
  have := allTo_iff.1 hg.1 s hs
  unfold sigOk sigOkX at this
  rw [Bool.and_eq_true] at this
  exact this.1
 refine ⟨⟨0, ⟨by omega, rfl⟩, rfl⟩, fun s => lett.mk fun y4 e4 => lett.mk fun y5 e5 => lett.mk fun y6 e6 => lett.mk fun y7 e7 => ?_⟩
 rintro ⟨h1, h2⟩
 have h2 : (p.2.2.1.take s).all (sigLong p) = true := h2
 have e5 : y5 = (p.2.2.1.getD s zS).2.1.1 := e5
 refine ⟨fun h => ?_, fun h => ?_⟩
 ·have h := lt_of_y e4 h
  have hf := has_factsQ (hhas s h)
  rw [← e5] at hf
  have hlen : fLength p y5 = y6.2 := by
   rw [e6]
   unfold fLength
   rw [decide_eq_false (by omega), decide_eq_false (by omega)]
   rfl
  have hS : sigLong p (p.2.2.1.getD s zS) = !y7 := by
   rw [e7]
   unfold sigLong
   rw [← e5, hf.2.2.2.2, hlen, e6]
   show (!((p.1.getD y5.toNat zE).2.1 == 1 && _)) = !(bif (p.1.getD y5.toNat zE).2.1 == 1 then _ else false)
   cases (p.1.getD y5.toNat zE).2.1 == 1 <;> rfl
  refine ⟨⟨by omega, by omega⟩, ⟨by omega, by omega⟩, fun h6 => ?_, fun h6 => ⟨inRlen h hw.2.2.1, s + 1, ⟨by omega, ?_⟩, by omega, by omega⟩⟩
  ·rw [all_no zS h (by rw [hS, h6]; rfl)]
   rfl
  ·exact all_succ zS h h2 (by rw [hS, h6]; rfl)
 rw [all_full (le_of_y e4 h) h2, Bool.true_and]
 refine ⟨⟨0, ⟨by omega, rfl⟩, rfl⟩, fun u => lett.mk fun y9 e9 => lett.mk fun y10 e10 => lett.mk fun y11 e11 => ?_⟩
 rintro ⟨g1, g2⟩
 have g2 : (p.1.take u).all (elemLong p) = true := g2
 have hS : elemLong p (p.1.getD u zE) = !y11 := by
  have e10 : y10 = (p.1.getD u zE).2 := e10
  rw [e11, bneB]
  unfold elemLong
  rw [← e10]
  have key : ∀ a b : Bool, (!(!a && b)) = !(bif !a then b else false) := by decide
  exact key _ _
 refine ⟨fun h => ?_, fun h => ?_⟩
 ·have h := lt_of_y e9 h
  refine ⟨⟨by omega, by omega⟩, fun h6 => ?_, fun h6 => ⟨inRlen h hw.1, u + 1, ⟨by omega, ?_⟩, by omega, by omega⟩⟩
  ·rw [all_no zE h (by rw [hS, h6]; rfl)]
  ·exact all_succ zE h g2 (by rw [hS, h6]; rfl)
 rw [all_full (le_of_y e9 h) g2]
theorem ok89 : DOk Tryz.prog 89 c89 :=
 DOk.of' (l := [(131, c131)]) (A := a89) tabOk ⟨ok131, trivial⟩ Tryz.func89 (by kernel_rfl) (by kernel_rfl) fun x hw hp => b89 x.1 hp.1 hp.2 (plan_wf hw.1)
end YtpnnfimacblhgaaGreat
end Go.Proofs
end

section
set_option maxRecDepth 100000
set_option linter.unusedVariables false
set_option linter.unusedSimpArgs false
set_option maxHeartbeats 2000000
namespace Go.Proofs
open Go Go.Vc
namespace YtpnnfimacblhgaaGreat
def fTwices (p : PlanD) : Bool := fTwice (elNames p) || (fTwice (sigNames p) || fTwice (lineNames p))
theorem check_eq (p : PlanD) : fCheck p = bif !fSizes p then 3 else bif !fArgs p then 1 else bif fTwices p then 4 else
 bif !fJoined p then 6 else bif !fSignals p then 7 else bif !fLines p then 8 else bif !fLong p then 9 else 0 := by unfold fCheck; rfl
theorem args_numsQ {p : PlanD} (h : fArgs p = true) : fNums p = true := by
 unfold fArgs at h
 rw [Bool.and_eq_true] at h
 exact h.1
theorem check_rest (p : PlanD) (hS : fSizes p = true) (hA : fArgs p = true) (hT : fTwices p = false) :
  ((!fJoined p) = true → (6 : Int) = fCheck p) ∧ ((!fJoined p) = false → (fJoined p = true ∧ fNexts? p = fNexts p) ∧
   ((!fSignals p) = true → (7 : Int) = fCheck p) ∧ ((!fSignals p) = false → (fJoined p = true ∧ fNexts? p = fNexts p) ∧
    ((!fLines p) = true → (8 : Int) = fCheck p) ∧ ((!fLines p) = false → (fNums p = true ∧ fSignals p = true) ∧
     ((!fLong p) = true → (9 : Int) = fCheck p) ∧ ((!fLong p) = false → (0 : Int) = fCheck p)))) := by
 have hC := check_eq p
 rw [hS, hA, hT] at hC
 simp only [Bool.not_true, cond_false] at hC
 refine ⟨fun h => by rw [hC, h]; rfl, fun h => ?_⟩
 have hJ : fJoined p = true ∧ fNexts? p = fNexts p := by
  have : fJoined p = true := by simpa using h
  refine ⟨this, ?_⟩
  unfold fNexts?
  rw [this]; rfl
 rw [h] at hC
 simp only [cond_false] at hC
 refine ⟨hJ, fun h => by rw [hC, h]; rfl, fun h => ?_⟩
 have hG : fSignals p = true := by simpa using h
 rw [h] at hC
 simp only [cond_false] at hC
 refine ⟨hJ, fun h => by rw [hC, h]; rfl, fun h => ⟨⟨(args_numsQ hA), hG⟩, fun h' => ?_, fun h' => ?_⟩⟩
 ·rw [hC, h, h']; rfl
 ·rw [hC, h, h']; rfl
theorem v51 (p : PlanD) : bodyVC (ctxOf tab [(81, c81), (840082, c840082), (850082, c850082), (860082, c860082), (86, c86), (87, c87), (88, c88), (89, c89)] [] [(83, .pair (.ref PlanT) .unit), (84, .pair (.ref PlanT) .unit), (85, .pair (.ref PlanT) .unit)]) Tryz.f51 c51 noAnn (p, ()) = (
lett
(bif bif bif decide ((↑p.1.length : Int) > (40 : Int)) then true else decide ((↑p.2.2.1.length : Int) > (24 : Int)) then true else decide ((↑p.2.2.2.1.length : Int) > (4 : Int)) then
true
else decide ((↑p.2.1.length : Int) > (80 : Int)))
fun (y1 : Bool) =>
lett (p.2.2.2.2.2.1, p.2.2.2.2.2.2.1, p.2.2.2.2.2.2.2.1, p.2.2.2.2.2.2.2.2) fun (y2 : Int × Int × Int × Bool) =>
lett (p.2.2.1, p.2.2.2.1, p.2.2.2.2.1, y2) fun (y3 : List (List UInt8 × (Int × Int) × Bool) × List (List UInt8 × List Int) × Int × Int × Int × Int × Bool) =>
lett (fTwice (sigNames (p.1, p.2.1, y3))) fun (y4 : Bool) =>
lett (p.2.2.2.1, p.2.2.2.2.1, y2).1 fun (y5 : List (List UInt8 × List Int)) =>
lett (fTwice (lineNames (p.1, p.2.1, y3))) fun (y6 : Bool) =>
lett
((p.1, p.2.1, y3).1, (p.2.1, y3).1, y3.1, y5, (p.2.2.2.2.1, y2).1, y2.1,
(p.2.2.2.2.2.2.1, p.2.2.2.2.2.2.2.1, p.2.2.2.2.2.2.2.2).1, p.2.2.2.2.2.2.2.1, p.2.2.2.2.2.2.2.2)
fun (y7 : PlanD) =>
(y1 = true → (3 : Int) = fCheck p ∧ True) ∧
(y1 = false →
True ∧
((!fArgs p) = true → (1 : Int) = fCheck p ∧ True) ∧
((!fArgs p) = false →
(↑p.1.length : Int) = (↑p.1.length : Int) ∧
(fTwice (elNames p) = false →
(↑y3.1.length : Int) = (↑y3.1.length : Int) ∧
(y4 = false →
(↑y5.length : Int) = (↑(p.2.2.2.1, p.2.2.2.2.1, y2).1.length : Int) ∧
(y6 = true → (4 : Int) = fCheck p ∧ True) ∧
(y6 = false →
True ∧
((!fJoined y7) = true → (6 : Int) = fCheck p ∧ True) ∧
((!fJoined y7) = false →
(fJoined y7 = true ∧ fNexts? y7 = fNexts y7) ∧
((!fSignals y7) = true → (7 : Int) = fCheck p ∧ True) ∧
((!fSignals y7) = false →
(fJoined y7 = true ∧ fNexts? y7 = fNexts y7) ∧
((!fLines y7) = true → (8 : Int) = fCheck p ∧ True) ∧
((!fLines y7) = false →
(fNums y7 = true ∧ fSignals y7 = true) ∧
((!fLong y7) = true → (9 : Int) = fCheck p ∧ True) ∧ ((!fLong y7) = false → (0 : Int) = fCheck p ∧ True)))))) ∧
(y4 = !false →
(true = true → (4 : Int) = fCheck p ∧ True) ∧
(true = false →
True ∧
((!fJoined y7) = true → (6 : Int) = fCheck p ∧ True) ∧
((!fJoined y7) = false →
(fJoined y7 = true ∧ fNexts? y7 = fNexts y7) ∧
((!fSignals y7) = true → (7 : Int) = fCheck p ∧ True) ∧
((!fSignals y7) = false →
(fJoined y7 = true ∧ fNexts? y7 = fNexts y7) ∧
((!fLines y7) = true → (8 : Int) = fCheck p ∧ True) ∧
((!fLines y7) = false →
(fNums y7 = true ∧ fSignals y7 = true) ∧
((!fLong y7) = true → (9 : Int) = fCheck p ∧ True) ∧ ((!fLong y7) = false → (0 : Int) = fCheck p ∧ True))))))) ∧
(fTwice (elNames p) = !false →
(true = true → (4 : Int) = fCheck p ∧ True) ∧
(true = false →
True ∧
((!fJoined y7) = true → (6 : Int) = fCheck p ∧ True) ∧
((!fJoined y7) = false →
(fJoined y7 = true ∧ fNexts? y7 = fNexts y7) ∧
((!fSignals y7) = true → (7 : Int) = fCheck p ∧ True) ∧
((!fSignals y7) = false →
(fJoined y7 = true ∧ fNexts? y7 = fNexts y7) ∧
((!fLines y7) = true → (8 : Int) = fCheck p ∧ True) ∧
((!fLines y7) = false →
(fNums y7 = true ∧ fSignals y7 = true) ∧
((!fLong y7) = true → (9 : Int) = fCheck p ∧ True) ∧ ((!fLong y7) = false → (0 : Int) = fCheck p ∧ True))))))))) := by kernel_rfl
theorem b51 (p : PlanD) : bodyVC (ctxOf tab [(81, c81), (840082, c840082), (850082, c850082), (860082, c860082), (86, c86), (87, c87), (88, c88), (89, c89)] [] [(83, .pair (.ref PlanT) .unit), (84, .pair (.ref PlanT) .unit), (85, .pair (.ref PlanT) .unit)]) Tryz.f51 c51 noAnn (p, ()) := by
 rw [v51]
 refine lett.mk fun y1 e1 => lett.mk fun y2 e2 => lett.mk fun y3 e3 => lett.mk fun y4 e4 => lett.mk fun y5 e5 => lett.mk fun y6 e6 => lett.mk fun y7 e7 => ?_
 have hy7 : y7 = p := by rw [e7, e5, e3, e2]
 have hy4 : y4 = fTwice (sigNames p) := by rw [e4, e3, e2]
 have hy6 : y6 = fTwice (lineNames p) := by rw [e6, e3, e2]
 have hS : fSizes p = !y1 := by
  rw [e1, gtN _ 40 40 rfl, gtN _ 24 24 rfl, gtN _ 4 4 rfl, gtN _ 80 80 rfl]
  unfold fSizes
  generalize decide (p.1.length ≤ 40) = a; generalize decide (p.2.2.1.length ≤ 24) = b; generalize decide (p.2.2.2.1.length ≤ 4) = c; generalize decide (p.2.1.length ≤ 80) = d
  cases a <;> cases b <;> cases c <;> cases d <;> rfl
 rw [hy7]
 have hC := check_eq p
 simp only [true_and, and_true, eq_self]
 refine ⟨fun h => by rw [hC, hS, h]; rfl, fun h => ?_⟩
 have hS : fSizes p = true := by rw [hS, h]; rfl
 rw [hS] at hC
 refine ⟨fun h => by rw [hC, h]; rfl, fun h => ?_⟩
 have hA : fArgs p = true := by simpa using h
 have hT : fTwices p = (fTwice (elNames p) || (y4 || y6)) := by rw [hy4, hy6]; rfl
 have four : fTwices p = true → (4 : Int) = fCheck p := fun ht => by rw [hC, hA, ht]; rfl
 have rest := check_rest p hS hA
 exact ⟨fun h1 => ⟨fun h2 => ⟨by rw [e5], fun h3 => four (by rw [hT, h3]; simp), fun h3 => rest (by rw [hT, h1, h2, h3]; rfl)⟩, fun h2 => ⟨fun _ => four (by rw [hT, h2]; simp), fun h => by cases h⟩⟩,
  fun h1 => ⟨fun _ => four (by rw [hT, h1]; simp), fun h => by cases h⟩⟩
theorem ok51 : DOk Tryz.prog 51 c51 :=
 DOk.of' (l := [(81, c81), (840082, c840082), (850082, c850082), (860082, c860082), (86, c86), (87, c87), (88, c88), (89, c89)]) (clos := [(83, .pair (.ref PlanT) .unit), (84, .pair (.ref PlanT) .unit), (85, .pair (.ref PlanT) .unit)]) (A := fun _ => noAnn) tabOk
  ⟨ok81, ok840082, ok850082, ok860082, ok86, ok87, ok88, ok89, trivial⟩ Tryz.func51 (by kernel_rfl) (by kernel_rfl) fun x hw hp => b51 x.1
end YtpnnfimacblhgaaGreat
end Go.Proofs
end

section
set_option maxRecDepth 100000
set_option linter.unusedVariables false
namespace Go.Proofs
open Go Go.Vc
namespace YtpnnfimacblhgaaGreat
def shortL {α : Type} (l : List α) : Prop := l.length ≤ 1000
def c90 : DCon where
 args := [.list ElemT]
 out := .row 146 ElemT
 pre := fun (x : List ElemD × Unit) => shortL x.1
 fn := fun (x : List ElemD × Unit) => (x.1, ())
def c91 : DCon where
 args := [.list JoinT]
 out := .row 128 JoinT
 pre := fun (x : List JoinD × Unit) => shortL x.1
 fn := fun (x : List JoinD × Unit) => (x.1, ())
def c92 : DCon where
 args := [.list SignalT]
 out := .row 130 SignalT
 pre := fun (x : List SignalD × Unit) => shortL x.1
 fn := fun (x : List SignalD × Unit) => (x.1, ())
def c93 : DCon where
 args := [.list LineT]
 out := .row 109 LineT
 pre := fun (x : List LineD × Unit) => shortL x.1
 fn := fun (x : List LineD × Unit) => (x.1, ())
def c94 : DCon where
 args := [.list I]
 out := .row 3 I
 pre := fun (x : List Int × Unit) => shortL x.1
 fn := fun (x : List Int × Unit) => (x.1, ())
def shortP (p : PlanD) : Prop := shortL p.1 ∧ shortL p.2.1 ∧ shortL p.2.2.1 ∧ shortL p.2.2.2.1 ∧ shortLines p
def c52 : DCon where
 args := [PlanT]
 out := .data [PlanT]
 pre := fun (x : PlanD × Unit) => shortP x.1
 fn := fun (x : PlanD × Unit) => (x.1, ())
def a52 (x : PlanD × Unit) : Ann := loopAnn [(4, fun _ => {
 σ := Nat
 ok := fun k => k ≤ x.1.2.2.2.1.length
 mu := fun k => x.1.2.2.2.1.length - k
 sl := fun k => [(23, .one (.dat I (k : Int)))]
 bl := fun k => [(18, .row false 109 LineT x.1.2.2.2.1)]
 keep := [1, 2, 22]
 keepB := [1, 2, 6, 9, 12] })]
def readsUp (p : PlanD) : Nat → List (PortD × Int)
 | 0 => []
 | k + 1 => readsUp p k ++ [((p.2.2.1.getD k zS).2.1, (k : Int))]
def lineRow (i : Int) (l : List Int) : Nat → List (Int × Int × Int)
 | 0 => []
 | k + 1 => lineRow i l k ++ [(l.getD k 0, i, (k : Int))]
def linesUp (p : PlanD) : Nat → List (Int × Int × Int)
 | 0 => []
 | i + 1 => linesUp p i ++ lineRow (i : Int) (p.2.2.2.1.getD i zL).2 (p.2.2.2.1.getD i zL).2.length
def in0 (p : PlanD) (l : List Int) : Int := bif decide ((l.length : Int) > 1) then (bif outRow (fNexts p) l 0 then 1 else 0) else 0
def inUp (p : PlanD) (l : List Int) : Nat → Int
 | 0 => in0 p l
 | k + 1 => ((mget PortT (fNexts p) (l.getD k 0, 1 - inUp p l k)).getD (0, 0)).2
def leadRow (p : PlanD) (l : List Int) : Nat → List (Int × Int)
 | 0 => []
 | k + 1 => leadRow p l k ++ [(l.getD k 0, inUp p l k)]
def leadsUp (p : PlanD) : Nat → List (Int × Int)
 | 0 => []
 | i + 1 => leadsUp p i ++ leadRow p (p.2.2.2.1.getD i zL).2 (p.2.2.2.1.getD i zL).2.length
@[irreducible] def fReadsM (p : PlanD) : List (PortD × Int) := readsUp p p.2.2.1.length
@[irreducible] def fLineM (p : PlanD) : List (Int × Int × Int) := linesUp p p.2.2.2.1.length
@[irreducible] def fLeadM (p : PlanD) : List (Int × Int) := leadsUp p p.2.2.2.1.length
@[irreducible] def fNet (p : PlanD) : NetD := (p, fNexts p, fReadsM p, fLineM p, fLeadM p)
@[irreducible] def fNet? (p : PlanD) : Option NetD := bif fCheck p == 0 then some (fNet p) else none
def c26 : DCon where
 args := [PlanT]
 out := .data [.ptr NetT, I]
 pre := fun (x : PlanD × Unit) => shortLines x.1
 fn := fun (x : PlanD × Unit) => (fNet? x.1, fCheck x.1, ())
def lineAt (p : PlanD) (i : Int) : List Int := (p.2.2.2.1.getD i.toNat zL).2
def a26 (x : PlanD × Unit) : Ann := loopAnn [
 (6, fun _ => mapLoop x.1.2.1.length (fun _ => True) 33 24 PortT PortT (nextsUp x.1) [1, 5, 31, 32] [1, 29, 25, 26, 27]),
 (11, fun _ => mapLoop x.1.2.2.1.length (fun _ => True) 61 25 PortT I (readsUp x.1) [1, 5, 59, 60] [1, 29, 24, 26, 27]),
 (16, fun _ => {
  σ := Nat
  ok := fun k => k ≤ x.1.2.2.2.1.length
  mu := fun k => x.1.2.2.2.1.length - k
  sl := fun k => [(77, .one (.dat I (k : Int)))]
  bl := fun k => [(26, .map false I (.pair I I) (linesUp x.1 k) none), (27, .map false I I (leadsUp x.1 k) none)]
  keep := [1, 5, 75, 76]
  keepB := [1, 29, 24, 25] }),
 (24, fun S => {
  σ := Nat
  ok := fun k => k ≤ (lineAt x.1 (slotI S 77)).length
  mu := fun k => (lineAt x.1 (slotI S 77)).length - k
  sl := fun k => [(112, .one (.dat I (k : Int))), (12, .one (.dat I (inUp x.1 (lineAt x.1 (slotI S 77)) k)))]
  bl := fun k => [(26, .map false I (.pair I I) (linesUp x.1 (slotI S 77).toNat ++ lineRow (slotI S 77) (lineAt x.1 (slotI S 77)) k) none), (27, .map false I I (leadsUp x.1 (slotI S 77).toNat ++ leadRow x.1 (lineAt x.1 (slotI S 77)) k) none)]
  keep := [1, 5, 10, 11, 75, 76, 77, 110, 111]
  keepB := [1, 29, 24, 25, 11] })]
def lineOf (o : Option (Int × Int)) : Int × Int := match o with
 | some x => x
 | none => (-1, -1)
@[irreducible] def gLine (n : NetD) (e : Int) : Int × Int := lineOf (mget I n.2.2.2.1 e)
@[irreducible] def gLead (n : NetD) (e i : Int) : Int := bif !(mget I n.2.2.2.2 e).isSome || (decide (i < 0) || decide (i > 1)) then 0 else bif (mget I n.2.2.2.2 e).getD 0 == i then 1 else 2
def c11 : DCon where
 args := [.ref NetT, I]
 out := .data [I, I]
 pre := fun (x : NetD × Int × Unit) => True
 fn := fun (x : NetD × Int × Unit) => ((gLine x.1 x.2.1).1, (gLine x.1 x.2.1).2, ())
def c12 : DCon where
 args := [.ref NetT, I, I]
 out := .data [I]
 pre := fun (x : NetD × Int × Int × Unit) => True
 fn := fun (x : NetD × Int × Int × Unit) => (gLead x.1 x.2.1 x.2.2.1, ())
def c48 : DCon where
 args := [.ref NetT, I]
 out := .data [PortT, .bool]
 pre := fun (x : NetD × Int × Unit) => True
 fn := fun (x : NetD × Int × Unit) => ((fAt x.1.1 x.2.1).1, (fAt x.1.1 x.2.1).2, ())
def c79 : DCon where
 args := [.ref NetT]
 out := .data [I]
 pre := fun (x : NetD × Unit) => True
 fn := fun (x : NetD × Unit) => ((x.1.1.1.length : Int), ())
@[irreducible] def fMade (p : PlanD) : Option NetD := bif fFine p then some (fNet p) else none
def c8 : DCon where
 args := [PlanT]
 out := .data [.ptr NetT]
 pre := fun (x : PlanD × Unit) => True
 fn := fun (x : PlanD × Unit) => (fMade x.1, ())
end YtpnnfimacblhgaaGreat
end Go.Proofs
end

section
set_option maxRecDepth 100000
set_option linter.unusedVariables false
set_option linter.unusedSimpArgs false
set_option maxHeartbeats 2000000
namespace Go.Proofs
open Go Go.Vc
namespace YtpnnfimacblhgaaGreat
theorem v90 (l : List (List UInt8 × Int × Int)) : bodyVC (ctxOf tab []) Tryz.f90 c90 noAnn (l, ()) = (
lett (List.replicate (0 : Nat) ([], (0 : Int), (0 : Int))) fun (y1 : List (List UInt8 × Int × Int)) =>
∀ (b2 : Bool), (b2 = true → l = []) → (b2 = true → [] = l ∧ True) ∧ (b2 = false → roomFor (y1.length + l.length) (32 : Nat) ∧ y1 ++ l = l ∧ True)) := by kernel_rfl
theorem v91 (l : List ((Int × Int) × Int × Int)) : bodyVC (ctxOf tab []) Tryz.f91 c91 noAnn (l, ()) = (
lett (List.replicate (0 : Nat) (((0 : Int), (0 : Int)), (0 : Int), (0 : Int))) fun (y1 : List ((Int × Int) × Int × Int)) =>
∀ (b2 : Bool), (b2 = true → l = []) → (b2 = true → [] = l ∧ True) ∧ (b2 = false → roomFor (y1.length + l.length) (32 : Nat) ∧ y1 ++ l = l ∧ True)) := by kernel_rfl
theorem v92 (l : List (List UInt8 × (Int × Int) × Bool)) : bodyVC (ctxOf tab []) Tryz.f92 c92 noAnn (l, ()) = (
lett (List.replicate (0 : Nat) ([], ((0 : Int), (0 : Int)), false)) fun (y1 : List (List UInt8 × (Int × Int) × Bool)) =>
∀ (b2 : Bool), (b2 = true → l = []) → (b2 = true → [] = l ∧ True) ∧ (b2 = false → roomFor (y1.length + l.length) (40 : Nat) ∧ y1 ++ l = l ∧ True)) := by kernel_rfl
theorem v93 (l : List (List UInt8 × List Int)) : bodyVC (ctxOf tab []) Tryz.f93 c93 noAnn (l, ()) = (
∀ (b1 : Bool),
(b1 = true → l = []) → (b1 = true → [] = l ∧ True) ∧ (b1 = false → roomFor ((List.replicate (0 : Nat) (([], []) : List Int × List (List Int × Int))).length + l.length) (40 : Nat) ∧ List.replicate (0 : Nat) ([], []) ++ l = l ∧ True)) := by kernel_rfl
theorem v94 (l : List Int) : bodyVC (ctxOf tab []) Tryz.f94 c94 noAnn (l, ()) = (
∀ (b1 : Bool),
(b1 = true → l = []) → (b1 = true → [] = l ∧ True) ∧ (b1 = false → roomFor ((List.replicate (0 : Nat) (0 : Int)).length + l.length) (8 : Nat) ∧ List.replicate (0 : Nat) (0 : Int) ++ l = l ∧ True)) := by kernel_rfl
theorem clone_ok {α : Type} {l : List α} {n b : Nat} (h : l.length ≤ 1000) (hn : n = 0) (hb : b ≤ 1000) : roomFor (n + l.length) b := roomB (by omega) hb
theorem ok90 : DOk Tryz.prog 90 c90 :=
 DOk.of' (l := []) (A := fun _ => noAnn) tabOk trivial Tryz.func90 (by kernel_rfl) (by kernel_rfl) fun x _ hp => by
  obtain ⟨l, u⟩ := x
  show bodyVC (ctxOf tab []) Tryz.f90 c90 noAnn (l, ())
  rw [v90]
  refine lett.mk fun y1 e1 => fun b hb => ⟨fun h => ⟨(hb h).symm, trivial⟩, fun h => ⟨clone_ok hp (by rw [e1]; rfl) (by decide), by rw [e1]; rfl, trivial⟩⟩
theorem ok91 : DOk Tryz.prog 91 c91 :=
 DOk.of' (l := []) (A := fun _ => noAnn) tabOk trivial Tryz.func91 (by kernel_rfl) (by kernel_rfl) fun x _ hp => by
  obtain ⟨l, u⟩ := x
  show bodyVC (ctxOf tab []) Tryz.f91 c91 noAnn (l, ())
  rw [v91]
  refine lett.mk fun y1 e1 => fun b hb => ⟨fun h => ⟨(hb h).symm, trivial⟩, fun h => ⟨clone_ok hp (by rw [e1]; rfl) (by decide), by rw [e1]; rfl, trivial⟩⟩
theorem ok92 : DOk Tryz.prog 92 c92 :=
 DOk.of' (l := []) (A := fun _ => noAnn) tabOk trivial Tryz.func92 (by kernel_rfl) (by kernel_rfl) fun x _ hp => by
  obtain ⟨l, u⟩ := x
  show bodyVC (ctxOf tab []) Tryz.f92 c92 noAnn (l, ())
  rw [v92]
  refine lett.mk fun y1 e1 => fun b hb => ⟨fun h => ⟨(hb h).symm, trivial⟩, fun h => ⟨clone_ok hp (by rw [e1]; rfl) (by decide), by rw [e1]; rfl, trivial⟩⟩
theorem ok93 : DOk Tryz.prog 93 c93 :=
 DOk.of' (l := []) (A := fun _ => noAnn) tabOk trivial Tryz.func93 (by kernel_rfl) (by kernel_rfl) fun x _ hp => by
  obtain ⟨l, u⟩ := x
  show bodyVC (ctxOf tab []) Tryz.f93 c93 noAnn (l, ())
  rw [v93]
  exact fun b hb => ⟨fun h => ⟨(hb h).symm, trivial⟩, fun h => ⟨clone_ok hp rfl (by decide), by first | exact ⟨rfl, trivial⟩ | trivial⟩⟩
theorem ok94 : DOk Tryz.prog 94 c94 :=
 DOk.of' (l := []) (A := fun _ => noAnn) tabOk trivial Tryz.func94 (by kernel_rfl) (by kernel_rfl) fun x _ hp => by
  obtain ⟨l, u⟩ := x
  show bodyVC (ctxOf tab []) Tryz.f94 c94 noAnn (l, ())
  rw [v94]
  exact fun b hb => ⟨fun h => ⟨(hb h).symm, trivial⟩, fun h => ⟨clone_ok hp rfl (by decide), by first | exact ⟨rfl, trivial⟩ | trivial⟩⟩
theorem v52 (p : PlanD) : bodyVC (ctxOf tab [(90, c90), (91, c91), (92, c92), (93, c93), (94, c94)]) Tryz.f52 c52 (a52 (p, ())) (p, ()) = (
shortL p.1 ∧
shortL p.2.1 ∧
shortL p.2.2.1 ∧
shortL p.2.2.2.1 ∧
(∃ (s01 : Nat),
s01 ≤ p.2.2.2.1.length ∧
(↑s01 : Int) = (0 : Int) ∧
(↑p.2.2.2.1.length : Int) = (↑p.2.2.2.1.length : Int) ∧
p.2.2.2.1 = p.2.2.2.1 ∧
p.2.2.2.2.1 = p.2.2.2.2.1 ∧
p.2.2.2.2.2.1 = p.2.2.2.2.2.1 ∧
p.2.2.2.2.2.2.1 = p.2.2.2.2.2.2.1 ∧
p.2.2.2.2.2.2.2.1 = p.2.2.2.2.2.2.2.1 ∧
p.2.2.2.2.2.2.2.2 = p.2.2.2.2.2.2.2.2 ∧
(0 : Int) = (0 : Int) ∧
(0 : Int) = (0 : Int) ∧ (0 : Int) = (0 : Int) ∧ (0 : Int) = (0 : Int) ∧ false = false ∧ p.1 = p.1 ∧ p.2.1 = p.2.1 ∧ p.2.2.1 = p.2.2.1 ∧ True) ∧
∀ (s1 : Nat),
lett (decide ((↑s1 : Int) < (↑p.2.2.2.1.length : Int))) fun (y2 : Bool) =>
lett (p.2.2.2.1.getD (↑s1 : Int).toNat ([], [])) fun (y3 : List UInt8 × List Int) =>
s1 ≤ p.2.2.2.1.length →
(y2 = true →
InB (↑s1 : Int) p.2.2.2.1.length ∧
shortL y3.2 ∧
InB (↑s1 : Int) p.2.2.2.1.length ∧
InR IntKind.i64 ((↑s1 : Int) + (1 : Int)) ∧
∃ (s'4 : Nat),
s'4 ≤ p.2.2.2.1.length ∧
p.2.2.2.1.length - s'4 < p.2.2.2.1.length - s1 ∧
(↑s'4 : Int) = (↑s1 : Int) + (1 : Int) ∧
(↑p.2.2.2.1.length : Int) = (↑p.2.2.2.1.length : Int) ∧
p.2.2.2.1 = p.2.2.2.1.set (↑s1 : Int).toNat y3 ∧
p.2.2.2.2.1 = p.2.2.2.2.1 ∧
p.2.2.2.2.2.1 = p.2.2.2.2.2.1 ∧
p.2.2.2.2.2.2.1 = p.2.2.2.2.2.2.1 ∧
p.2.2.2.2.2.2.2.1 = p.2.2.2.2.2.2.2.1 ∧
p.2.2.2.2.2.2.2.2 = p.2.2.2.2.2.2.2.2 ∧
(0 : Int) = (0 : Int) ∧
(0 : Int) = (0 : Int) ∧
(0 : Int) = (0 : Int) ∧ (0 : Int) = (0 : Int) ∧ false = false ∧ p.1 = p.1 ∧ p.2.1 = p.2.1 ∧ p.2.2.1 = p.2.2.1 ∧ True) ∧
(y2 = false → (p.1, p.2.1, p.2.2.1, p.2.2.2.1, p.2.2.2.2) = p ∧ True)) := by kernel_rfl
theorem b52 (p : PlanD) (hp : shortP p) : bodyVC (ctxOf tab [(90, c90), (91, c91), (92, c92), (93, c93), (94, c94)]) Tryz.f52 c52 (a52 (p, ())) (p, ()) := by
 rw [v52]
 simp only [keepP_eq, true_and, and_true, eq_self, Int.toNat_natCast]
 refine ⟨hp.1, hp.2.1, hp.2.2.1, hp.2.2.2.1, ⟨0, by omega, rfl⟩, fun k => lett.mk fun y2 e2 => lett.mk fun y3 e3 => fun hk => ⟨fun h => ?_, fun _ => trivial⟩⟩
 have hk := lt_of_y e2 h
 have e3 : y3 = p.2.2.2.1.getD k zL := e3
 have hm : y3 ∈ p.2.2.2.1 := by rw [e3]; exact mem_getD zL hk
 have h4 : p.2.2.2.1.length ≤ 1000 := hp.2.2.2.1
 refine ⟨⟨by omega, by omega⟩, hp.2.2.2.2 y3 hm, ⟨by omega, by omega⟩, inR64 (by omega) (by omega), k + 1, by omega, by omega, by omega, ?_⟩
 rw [e3, getD_at zL hk, List.set_getElem_self]
theorem ok52 : DOk Tryz.prog 52 c52 :=
 DOk.of' (l := [(90, c90), (91, c91), (92, c92), (93, c93), (94, c94)]) (A := a52) tabOk ⟨ok90, ok91, ok92, ok93, ok94, trivial⟩ Tryz.func52 (by kernel_rfl) (by kernel_rfl) fun x hw hp => b52 x.1 hp
theorem check_zero {p : PlanD} (h : fCheck p = 0) : fSizes p = true ∧ fArgs p = true ∧ fJoined p = true ∧ fSignals p = true ∧ fLines p = true := by
 rw [check_eq] at h
 cases hS : fSizes p <;> rw [hS] at h
 ·cases h
 cases hA : fArgs p <;> rw [hA] at h
 ·cases h
 cases hT : fTwices p <;> rw [hT] at h
 case true => cases h
 cases hJ : fJoined p <;> rw [hJ] at h
 ·cases h
 cases hG : fSignals p <;> rw [hG] at h
 ·cases h
 cases hL : fLines p <;> rw [hL] at h
 ·cases h
 exact ⟨rfl, rfl, rfl, rfl, rfl⟩
theorem sizes_factsQ {p : PlanD} (h : fSizes p = true) : p.1.length ≤ 40 ∧ p.2.2.1.length ≤ 24 ∧ p.2.2.2.1.length ≤ 4 ∧ p.2.1.length ≤ 80 := by
 unfold fSizes at h
 simpa only [Bool.and_eq_true, decide_eq_true_eq] using h
theorem joins_put {p : PlanD} (h : fJoined p = true) (k : Nat) (hk : k < p.2.1.length) : nextsUp p (k + 1) = mput PortT (mput PortT (nextsUp p k) (p.2.1.getD k zJ).1 (p.2.1.getD k zJ).2) (p.2.1.getD k zJ).2 (p.2.1.getD k zJ).1 := by
 have he : endsUp p k := by
  rw [joined_eq, Bool.and_eq_true] at h
  exact allTo_iff.2 fun i hi => allTo_iff.1 h.1 i (by rw [ends_lenQ]; omega)
 obtain ⟨r1, r2⟩ := join_round p k hk he
 cases hb : (!fHas p (p.2.1.getD k zJ).1 || (!fHas p (p.2.1.getD k zJ).2 || ((mget PortT (nextsUp p k) (p.2.1.getD k zJ).1).isSome || ((mget PortT (nextsUp p k) (p.2.1.getD k zJ).2).isSome || (p.2.1.getD k zJ).1 == (p.2.1.getD k zJ).2)))) with
 | true => rw [r1 hb] at h; cases h
 | false => exact (r2 hb).2
theorem reads_has (p : PlanD) (x : PortD) : ∀ (k : Nat), (mget PortT (readsUp p k) x).isSome = anyTo (readOf p x) k
 | 0 => rfl
 | k + 1 => by
  have ih := reads_has p x k
  rw [mget_isSome] at ih ⊢
  show ((readsUp p k ++ [((p.2.2.1.getD k zS).2.1, (k : Int))]).any _) = (anyTo (readOf p x) k || readOf p x k)
  rw [List.any_append, ih]
  simp only [List.any_cons, List.any_nil, Bool.or_false, keqP]
  rw [beqComm]
  rfl
theorem reads_put {p : PlanD} (h : fSignals p = true) (k : Nat) (hk : k < p.2.2.1.length) : readsUp p (k + 1) = mput PortT (readsUp p k) (p.2.2.1.getD k zS).2.1 (k : Int) := by
 unfold fSignals at h
 rw [Bool.and_eq_true] at h
 have := allTo_iff.1 h.1 k hk
 unfold sigOk sigOkX at this
 simp only [Bool.and_eq_true] at this
 have hr := this.2.2.2.2
 rw [reads_at p k hk] at hr
 rw [mput_new portKey (by rw [reads_has]; simpa using hr)]
 rfl
theorem row_has (i : Int) (l : List Int) (e : Int) : ∀ (k : Nat), k ≤ l.length → ((lineRow i l k).any fun x => Ty.keq I e x.1) = fMem (l.take k) e
 | 0, _ => by unfold fMem; rfl
 | k + 1, h => by
  show ((lineRow i l k ++ [(l.getD k 0, i, (k : Int))]).any _) = _
  rw [List.any_append, row_has i l e k (by omega), take_succ' 0 (by omega)]
  unfold fMem
  rw [List.any_append]
  simp only [List.any_cons, List.any_nil, Bool.or_false, keqI]
  rw [beqComm e]
theorem lrow_has (p : PlanD) (l : List Int) (e : Int) : ∀ (k : Nat), k ≤ l.length → ((leadRow p l k).any fun x => Ty.keq I e x.1) = fMem (l.take k) e
 | 0, _ => by unfold fMem; rfl
 | k + 1, h => by
  show ((leadRow p l k ++ [(l.getD k 0, inUp p l k)]).any _) = _
  rw [List.any_append, lrow_has p l e k (by omega), take_succ' 0 (by omega)]
  unfold fMem
  rw [List.any_append]
  simp only [List.any_cons, List.any_nil, Bool.or_false, keqI]
  rw [beqComm e]
theorem lines_has (p : PlanD) (e : Int) : ∀ (i : Nat), i ≤ p.2.2.2.1.length → ((linesUp p i).any fun x => Ty.keq I e x.1) = fMem (metBy p i) e
 | 0, _ => by unfold fMem; rfl
 | i + 1, h => by
  show ((linesUp p i ++ lineRow (i : Int) (p.2.2.2.1.getD i zL).2 (p.2.2.2.1.getD i zL).2.length).any _) = _
  rw [List.any_append, lines_has p e i (by omega), row_has _ _ e _ (Nat.le_refl _), metBy_succ p i (by omega), List.take_length]
  unfold fMem
  rw [List.any_append]
theorem leads_has (p : PlanD) (e : Int) : ∀ (i : Nat), i ≤ p.2.2.2.1.length → ((leadsUp p i).any fun x => Ty.keq I e x.1) = fMem (metBy p i) e
 | 0, _ => by unfold fMem; rfl
 | i + 1, h => by
  show ((leadsUp p i ++ leadRow p (p.2.2.2.1.getD i zL).2 (p.2.2.2.1.getD i zL).2.length).any _) = _
  rw [List.any_append, leads_has p e i (by omega), lrow_has _ _ e _ (Nat.le_refl _), metBy_succ p i (by omega), List.take_length]
  unfold fMem
  rw [List.any_append]
theorem line_fresh {p : PlanD} (h : fLines p = true) (i k : Nat) (hi : i < p.2.2.2.1.length) (hk : k < (p.2.2.2.1.getD i zL).2.length) :
  fMem (metBy p i ++ (p.2.2.2.1.getD i zL).2.take k) ((p.2.2.2.1.getD i zL).2.getD k 0) = false := by
 unfold fLines at h
 have := allTo_iff.1 h i hi
 unfold lineOk at this
 rw [Bool.and_eq_true] at this
 have := allTo_iff.1 this.1 k hk
 unfold lineNew at this
 simpa using this
theorem lines_put {p : PlanD} (h : fLines p = true) (i k : Nat) (hi : i < p.2.2.2.1.length) (hk : k < (p.2.2.2.1.getD i zL).2.length) :
  (linesUp p i ++ lineRow (i : Int) (p.2.2.2.1.getD i zL).2 (k + 1)) = mput I (linesUp p i ++ lineRow (i : Int) (p.2.2.2.1.getD i zL).2 k) ((p.2.2.2.1.getD i zL).2.getD k 0) ((i : Int), (k : Int)) := by
 have hf := line_fresh h i k hi hk
 rw [mput_new intKey (by
  rw [mget_isSome, List.any_append, lines_has p _ i (by omega), row_has _ _ _ k (by omega)]
  unfold fMem at hf ⊢
  rw [List.any_append] at hf
  exact hf)]
 show linesUp p i ++ (lineRow (i : Int) _ k ++ _) = _
 rw [List.append_assoc]
theorem leads_put {p : PlanD} (h : fLines p = true) (i k : Nat) (hi : i < p.2.2.2.1.length) (hk : k < (p.2.2.2.1.getD i zL).2.length) :
  (leadsUp p i ++ leadRow p (p.2.2.2.1.getD i zL).2 (k + 1)) = mput I (leadsUp p i ++ leadRow p (p.2.2.2.1.getD i zL).2 k) ((p.2.2.2.1.getD i zL).2.getD k 0) (inUp p (p.2.2.2.1.getD i zL).2 k) := by
 have hf := line_fresh h i k hi hk
 rw [mput_new intKey (by
  rw [mget_isSome, List.any_append, leads_has p _ i (by omega), lrow_has _ _ _ k (by omega)]
  unfold fMem at hf ⊢
  rw [List.any_append] at hf
  exact hf)]
 show leadsUp p i ++ (leadRow p _ k ++ _) = _
 rw [List.append_assoc]
theorem in_range {p : PlanD} (h : fJoined p = true) (l : List Int) : ∀ (k : Nat), 0 ≤ inUp p l k ∧ inUp p l k ≤ 3
 | 0 => by
  show 0 ≤ in0 p l ∧ in0 p l ≤ 3
  unfold in0
  cases decide ((l.length : Int) > 1) <;> cases outRow (fNexts p) l 0 <;> decide
 | k + 1 => by
  show 0 ≤ ((mget PortT (fNexts p) (l.getD k 0, 1 - inUp p l k)).getD (0, 0)).2 ∧ ((mget PortT (fNexts p) (l.getD k 0, 1 - inUp p l k)).getD (0, 0)).2 ≤ 3
  cases hm : mget PortT (fNexts p) (l.getD k 0, 1 - inUp p l k) with
  | none => decide
  | some q => exact nexts_small h _ (mem_of_mget portKey hm)
theorem v26 (p : PlanD) : bodyVC (ctxOf tab [(51, c51), (52, c52)]) Tryz.f26 c26 (a26 (p, ())) (p, ()) = (
True ∧
((fCheck p != (0 : Int)) = true → none = fNet? p ∧ fCheck p = fCheck p ∧ True) ∧
((fCheck p != (0 : Int)) = false →
shortP p ∧
(∃ (s01 : Nat),
(s01 ≤ p.2.1.length ∧ True) ∧
(↑s01 : Int) = (0 : Int) ∧
p.2.1 = p.2.1 ∧
(↑p.2.1.length : Int) = (↑p.2.1.length : Int) ∧
nextsUp p s01 = [] ∧
keepP p (keepP p (([] : List ((Int × Int) × Int)) = [] ∧ ([] : List (Int × Int × Int)) = [] ∧ ([] : List (Int × Int)) = [] ∧ True))) ∧
∀ (s1 : Nat),
lett (decide ((↑s1 : Int) < (↑p.2.1.length : Int))) fun (y2 : Bool) =>
lett (p.2.1.getD (↑s1 : Int).toNat (((0 : Int), (0 : Int)), (0 : Int), (0 : Int))) fun (y3 : (Int × Int) × Int × Int) =>
lett
(mset (ment PortT (nextsUp p s1) y3.1 ((0 : Int), (0 : Int)))
(midx PortT (nextsUp p s1) y3.1) y3.2)
fun (y4 : List ((Int × Int) × Int × Int)) =>
s1 ≤ p.2.1.length ∧ True →
(y2 = true →
InB (↑s1 : Int) p.2.1.length ∧
InR IntKind.i64 ((↑s1 : Int) + (1 : Int)) ∧
∃ (s'5 : Nat),
(s'5 ≤ p.2.1.length ∧ True) ∧
p.2.1.length - s'5 < p.2.1.length - s1 ∧
(↑s'5 : Int) = (↑s1 : Int) + (1 : Int) ∧
p.2.1 = p.2.1 ∧
(↑p.2.1.length : Int) = (↑p.2.1.length : Int) ∧
nextsUp p s'5 =
mset (ment PortT y4 y3.2 ((0 : Int), (0 : Int)))
(midx PortT y4 y3.2) y3.1 ∧
keepP p (keepP p (([] : List ((Int × Int) × Int)) = [] ∧ ([] : List (Int × Int × Int)) = [] ∧ ([] : List (Int × Int)) = [] ∧ True))) ∧
(y2 = false →
(∃ (s05 : Nat),
(s05 ≤ p.2.2.1.length ∧ True) ∧
(↑s05 : Int) = (0 : Int) ∧
p.2.2.1 = p.2.2.1 ∧
(↑p.2.2.1.length : Int) = (↑p.2.2.1.length : Int) ∧
readsUp p s05 = [] ∧
keepP p (keepP p (nextsUp p s1 = nextsUp p s1 ∧ ([] : List (Int × Int × Int)) = [] ∧ ([] : List (Int × Int)) = [] ∧ True))) ∧
∀ (s5 : Nat),
lett (decide ((↑s5 : Int) < (↑p.2.2.1.length : Int))) fun (y6 : Bool) =>
s5 ≤ p.2.2.1.length ∧ True →
(y6 = true →
InB (↑s5 : Int) p.2.2.1.length ∧
InR IntKind.i64 ((↑s5 : Int) + (1 : Int)) ∧
∃ (s'7 : Nat),
(s'7 ≤ p.2.2.1.length ∧ True) ∧
p.2.2.1.length - s'7 < p.2.2.1.length - s5 ∧
(↑s'7 : Int) = (↑s5 : Int) + (1 : Int) ∧
p.2.2.1 = p.2.2.1 ∧
(↑p.2.2.1.length : Int) = (↑p.2.2.1.length : Int) ∧
readsUp p s'7 =
mput PortT (readsUp p s5)
(p.2.2.1.getD (↑s5 : Int).toNat ([], ((0 : Int), (0 : Int)), false)).2.1 (↑s5 : Int) ∧
keepP p (keepP p (nextsUp p s1 = nextsUp p s1 ∧ ([] : List (Int × Int × Int)) = [] ∧ ([] : List (Int × Int)) = [] ∧ True))) ∧
(y6 = false →
(∃ (s07 : Nat),
s07 ≤ p.2.2.2.1.length ∧
(↑s07 : Int) = (0 : Int) ∧
p.2.2.2.1 = p.2.2.2.1 ∧
(↑p.2.2.2.1.length : Int) = (↑p.2.2.2.1.length : Int) ∧
linesUp p s07 = [] ∧
leadsUp p s07 = [] ∧
keepP p (keepP p (nextsUp p s1 = nextsUp p s1 ∧ readsUp p s5 = readsUp p s5 ∧ True))) ∧
∀ (s7 : Nat),
lett (decide ((↑s7 : Int) < (↑p.2.2.2.1.length : Int))) fun (y8 : Bool) =>
lett (p.2.2.2.1.getD (↑s7 : Int).toNat ([], [])) fun (y9 : List UInt8 × List Int) =>
lett (decide ((↑y9.2.length : Int) > (1 : Int))) fun (y10 : Bool) =>
lett (mget PortT (nextsUp p s1) (y9.2.getD (Int.toNat (0 : Int)) (0 : Int), (0 : Int)))
fun (y11 : Option (Int × Int)) =>
s7 ≤ p.2.2.2.1.length →
(y8 = true →
InB (↑s7 : Int) p.2.2.2.1.length ∧
(y10 = true → InB (0 : Int) y9.2.length) ∧
(y10 = true → y11.isSome = true → InB (1 : Int) y9.2.length) ∧
(∃ (s012 : Nat),
s012 ≤ (lineAt p (↑s7 : Int)).length ∧
(↑s012 : Int) = (0 : Int) ∧
(inUp p (lineAt p (↑s7 : Int)) s012 =
bif y10 then
bif bif y11.isSome then (y11.getD ((0 : Int), (0 : Int))).1 == y9.2.getD (Int.toNat (1 : Int)) (0 : Int) else false then
(1 : Int)
else (0 : Int)
else (0 : Int)) ∧
(↑s7 : Int) = (↑s7 : Int) ∧
p.2.2.2.1 = p.2.2.2.1 ∧
(↑p.2.2.2.1.length : Int) = (↑p.2.2.2.1.length : Int) ∧
(↑s7 : Int) = (↑s7 : Int) ∧
y9.2 = y9.2 ∧
(↑y9.2.length : Int) = (↑y9.2.length : Int) ∧
linesUp p (↑s7 : Int).toNat ++ lineRow (↑s7 : Int) (lineAt p (↑s7 : Int)) s012 = linesUp p s7 ∧
leadsUp p (↑s7 : Int).toNat ++ leadRow p (lineAt p (↑s7 : Int)) s012 = leadsUp p s7 ∧
keepP p (keepP p (nextsUp p s1 = nextsUp p s1 ∧
readsUp p s5 = readsUp p s5 ∧ y9.1 = y9.1 ∧ y9.2 = y9.2 ∧ True))) ∧
∀ (s12 : Nat),
lett (decide ((↑s12 : Int) < (↑y9.2.length : Int))) fun (y13 : Bool) =>
lett (inUp p (lineAt p (↑s7 : Int)) s12) fun (y14 : Int) =>
lett (y9.2.getD (↑s12 : Int).toNat (0 : Int)) fun (y15 : Int) =>
lett (linesUp p (↑s7 : Int).toNat ++ lineRow (↑s7 : Int) (lineAt p (↑s7 : Int)) s12) fun (y16 : List (Int × Int × Int)) =>
lett (leadsUp p (↑s7 : Int).toNat ++ leadRow p (lineAt p (↑s7 : Int)) s12) fun (y17 : List (Int × Int)) =>
s12 ≤ (lineAt p (↑s7 : Int)).length →
(y13 = true →
InB (↑s12 : Int) y9.2.length ∧
InR IntKind.i64 ((1 : Int) - y14) ∧
InR IntKind.i64 ((↑s12 : Int) + (1 : Int)) ∧
∃ (s'18 : Nat),
s'18 ≤ (lineAt p (↑s7 : Int)).length ∧
(lineAt p (↑s7 : Int)).length - s'18 < (lineAt p (↑s7 : Int)).length - s12 ∧
(↑s'18 : Int) = (↑s12 : Int) + (1 : Int) ∧
inUp p (lineAt p (↑s7 : Int)) s'18 =
((mget PortT (nextsUp p s1) (y15, (1 : Int) - y14)).getD
((0 : Int), (0 : Int))).2 ∧
(↑s7 : Int) = (↑s7 : Int) ∧
p.2.2.2.1 = p.2.2.2.1 ∧
(↑p.2.2.2.1.length : Int) = (↑p.2.2.2.1.length : Int) ∧
(↑s7 : Int) = (↑s7 : Int) ∧
y9.2 = y9.2 ∧
(↑y9.2.length : Int) = (↑y9.2.length : Int) ∧
linesUp p (↑s7 : Int).toNat ++ lineRow (↑s7 : Int) (lineAt p (↑s7 : Int)) s'18 =
mset (ment I y16 y15 ((0 : Int), (0 : Int)))
(midx I y16 y15) ((↑s7 : Int), (↑s12 : Int)) ∧
leadsUp p (↑s7 : Int).toNat ++ leadRow p (lineAt p (↑s7 : Int)) s'18 =
mset (ment I y17 y15 (0 : Int)) (midx I y17 y15)
y14 ∧
keepP p (p.1 = p.1 ∧
p.2.1 = p.2.1 ∧
p.2.2.1 = p.2.2.1 ∧
p.2.2.2.1 = p.2.2.2.1 ∧
p.2.2.2.2.1 = p.2.2.2.2.1 ∧
p.2.2.2.2.2.1 = p.2.2.2.2.2.1 ∧
p.2.2.2.2.2.2.1 =
p.2.2.2.2.2.2.1 ∧
p.2.2.2.2.2.2.2.1 =
p.2.2.2.2.2.2.2.1 ∧
p.2.2.2.2.2.2.2.2 =
p.2.2.2.2.2.2.2.2 ∧
nextsUp p s1 = nextsUp p s1 ∧
readsUp p s5 = readsUp p s5 ∧
y9.1 = y9.1 ∧ y9.2 = y9.2 ∧ True)) ∧
(y13 = false →
InR IntKind.i64 ((↑s7 : Int) + (1 : Int)) ∧
∃ (s'18 : Nat),
s'18 ≤ p.2.2.2.1.length ∧
p.2.2.2.1.length - s'18 < p.2.2.2.1.length - s7 ∧
(↑s'18 : Int) = (↑s7 : Int) + (1 : Int) ∧
p.2.2.2.1 = p.2.2.2.1 ∧
(↑p.2.2.2.1.length : Int) = (↑p.2.2.2.1.length : Int) ∧
linesUp p s'18 = y16 ∧
leadsUp p s'18 = y17 ∧
keepP p (p.1 = p.1 ∧
p.2.1 = p.2.1 ∧
p.2.2.1 = p.2.2.1 ∧
p.2.2.2.1 = p.2.2.2.1 ∧
p.2.2.2.2.1 = p.2.2.2.2.1 ∧
p.2.2.2.2.2.1 = p.2.2.2.2.2.1 ∧
p.2.2.2.2.2.2.1 = p.2.2.2.2.2.2.1 ∧
p.2.2.2.2.2.2.2.1 =
p.2.2.2.2.2.2.2.1 ∧
p.2.2.2.2.2.2.2.2 =
p.2.2.2.2.2.2.2.2 ∧
nextsUp p s1 = nextsUp p s1 ∧
readsUp p s5 = readsUp p s5 ∧ True))) ∧
(y8 = false → some (p, nextsUp p s1, readsUp p s5, linesUp p s7, leadsUp p s7) = fNet? p ∧ (0 : Int) = fCheck p ∧ True))))) := by kernel_rfl
theorem b26 (p : PlanD) (hs : shortLines p) (hw : PlanT.wf p) : bodyVC (ctxOf tab [(51, c51), (52, c52)]) Tryz.f26 c26 (a26 (p, ())) (p, ()) := by
 rw [v26]
 simp only [keepP_eq, true_and, and_true, eq_self, Int.toNat_natCast, mset_ment portKey, mset_ment intKey]
 refine ⟨fun h => ?_, fun h => ?_⟩
 ·unfold fNet?
  rw [bneB] at h
  have : (fCheck p == 0) = false := by simpa using h
  rw [this]; rfl
 have h0 : fCheck p = 0 := by
  rw [bneB] at h
  simpa using h
 obtain ⟨hS, hA, hJ, hG, hL⟩ := check_zero h0
 obtain ⟨z1, z2, z3, z4⟩ := sizes_factsQ hS
 refine ⟨⟨by show p.1.length ≤ 1000; omega, by show p.2.1.length ≤ 1000; omega, by show p.2.2.1.length ≤ 1000; omega, by show p.2.2.2.1.length ≤ 1000; omega, hs⟩, ⟨0, by omega, rfl, rfl⟩, fun k => lett.mk fun y2 e2 => lett.mk fun y3 e3 => lett.mk fun y4 e4 => fun hk => ⟨fun h => ?_, fun h => ?_⟩⟩
 ·have hk := lt_of_y e2 h
  have e3 : y3 = p.2.1.getD k zJ := e3
  refine ⟨⟨by omega, by omega⟩, inR64 (by omega) (by omega), k + 1, by omega, by omega, by omega, ?_⟩
  rw [e4, e3]
  exact joins_put hJ k hk
 have hN : nextsUp p k = fNexts p := nexts_full p k (le_of_y e2 h)
 rw [hN]
 refine ⟨⟨0, by omega, rfl, rfl⟩, fun s => lett.mk fun y6 e6 => fun hk => ⟨fun h => ?_, fun h => ?_⟩⟩
 ·have hk := lt_of_y e6 h
  exact ⟨⟨by omega, by omega⟩, inR64 (by omega) (by omega), s + 1, by omega, by omega, by omega, reads_put hG s hk⟩
 have hR : s = p.2.2.1.length := by have := le_of_y e6 h; omega
 refine ⟨⟨0, by omega, rfl, rfl, rfl⟩, fun i => lett.mk fun y8 e8 => lett.mk fun y9 e9 => lett.mk fun y10 e10 => lett.mk fun y11 e11 => fun hi => ⟨fun h => ?_, fun h => ?_⟩⟩
 ·have hi := lt_of_y e8 h
  have e9 : y9 = p.2.2.2.1.getD i zL := e9
  have hla : lineAt p (i : Int) = y9.2 := by unfold lineAt; rw [Int.toNat_natCast, e9]
  have hsl : y9.2.length ≤ 1000 := by rw [e9]; exact hs _ (mem_getD zL hi)
  rw [hla]
  refine ⟨⟨by omega, by omega⟩, fun h10 => ?_, fun h10 _ => ?_, ⟨0, by omega, rfl, ?_, ?_, ?_⟩, fun k => lett.mk fun y13 e13 => lett.mk fun y14 e14 => lett.mk fun y15 e15 => lett.mk fun y16 e16 => lett.mk fun y17 e17 => fun hk => ⟨fun h => ?_, fun h => ?_⟩⟩
  ·rw [h10] at e10
   have := of_decide_eq_true e10.symm
   exact ⟨by omega, by omega⟩
  ·rw [h10] at e10
   have := of_decide_eq_true e10.symm
   exact ⟨by omega, by omega⟩
  ·show in0 p y9.2 = _
   unfold in0
   rw [← e10]
   cases y10 with
   | false => rfl
   | true =>
    simp only [cond_true]
    have : outRow (fNexts p) y9.2 0 = (bif y11.isSome then (y11.getD ((0 : Int), (0 : Int))).1 == y9.2.getD (Int.toNat (1 : Int)) (0 : Int) else false) := by
     rw [e11]
     unfold outRow
     show (match mget PortT (fNexts p) (y9.2.getD 0 0, 0) with | none => false | some q => q.1 == y9.2.getD 1 0) = (bif (mget PortT (fNexts p) (y9.2.getD 0 0, 0)).isSome then ((mget PortT (fNexts p) (y9.2.getD 0 0, 0)).getD (0, 0)).1 == y9.2.getD 1 0 else false)
     cases mget PortT (fNexts p) (y9.2.getD 0 0, 0) <;> rfl
    rw [this]
  ·show linesUp p i ++ [] = _
   rw [List.append_nil]
  ·show leadsUp p i ++ [] = _
   rw [List.append_nil]
  ·have hk := lt_of_y e13 h
   have hin := in_range hJ y9.2 k
   rw [← e14] at hin
   refine ⟨⟨by omega, by omega⟩, inR64 (by omega) (by omega), inR64 (by omega) (by omega), k + 1, by omega, by omega, by omega, ?_, ?_, ?_⟩
   ·rw [e15, e14]; rfl
   ·rw [e16, e15, e9]
    exact lines_put hL i k hi (by rw [← e9]; exact hk)
   ·rw [e17, e15, e14, e9]
    exact leads_put hL i k hi (by rw [← e9]; exact hk)
  ·have hk' := le_of_y e13 h
   have : k = y9.2.length := by omega
   refine ⟨inR64 (by omega) (by omega), i + 1, by omega, by omega, by omega, ?_, ?_⟩
   ·rw [e16, this, e9]; rfl
   ·rw [e17, this, e9]; rfl
 ·have hi' := le_of_y e8 h
  have : i = p.2.2.2.1.length := by omega
  refine ⟨?_, h0.symm⟩
  unfold fNet? fNet fReadsM fLineM fLeadM
  rw [h0, this, hR]
  rfl
theorem ok26 : DOk Tryz.prog 26 c26 :=
 DOk.of' (l := [(51, c51), (52, c52)]) (A := a26) tabOk ⟨ok51, ok52, trivial⟩ Tryz.func26 (by kernel_rfl) (by kernel_rfl) fun x hw hp => b26 x.1 hp hw.1
theorem v11 (n : (PlanD) × List ((Int × Int) × Int × Int) × List ((Int × Int) × Int) × List (Int × Int × Int) × List (Int × Int)) (e : Int) : bodyVC (ctxOf tab []) Tryz.f11 c11 noAnn (n, e, ()) = (
lett (mget I n.2.2.2.1 e) fun (y2 : Option (Int × Int)) =>
lett (y2.getD ((0 : Int), (0 : Int))).1 fun (y3 : Int) =>
lett (y2.getD ((0 : Int), (0 : Int))).2 fun (y4 : Int) =>
[(0 : Int), (0 : Int)].length = (2 : Nat) ∧
(y2.isSome = true → (InB (0 : Int) (2 : Nat) ∧ [y3, y4].length = (2 : Nat)) ∧ (InB (1 : Int) (2 : Nat) ∧ [y3, y4].length = (2 : Nat)) ∧ y3 = (gLine n e).1 ∧ y4 = (gLine n e).2 ∧ True) ∧
(y2.isSome = false → (-1 : Int) = (gLine n e).1 ∧ (-1 : Int) = (gLine n e).2 ∧ True)) := by kernel_rfl
theorem b11 (n : NetD) (e : Int) : bodyVC (ctxOf tab []) Tryz.f11 c11 noAnn (n, e, ()) := by
 rw [v11]
 refine lett.mk fun y2 e2 => lett.mk fun y3 e3 => lett.mk fun y4 e4 => ⟨rfl, fun h => ?_, fun h => ?_⟩
 ·obtain ⟨q, hq⟩ := Option.isSome_iff_exists.1 h
  have hl : gLine n e = q := by unfold gLine; rw [← e2, hq]; rfl
  rw [hl, e3, e4, hq]
  exact ⟨⟨⟨by decide, by decide⟩, rfl⟩, ⟨⟨by decide, by decide⟩, rfl⟩, rfl, rfl, trivial⟩
 ·have hl : gLine n e = (-1, -1) := by
   unfold gLine
   rw [← e2]
   cases hy : y2 with
   | none => rfl
   | some q => rw [hy] at h; cases h
  rw [hl]
  exact ⟨rfl, rfl, trivial⟩
theorem ok11 : DOk Tryz.prog 11 c11 :=
 DOk.of' (l := []) (A := fun _ => noAnn) tabOk trivial Tryz.func11 (by kernel_rfl) (by kernel_rfl) fun x hw hp => b11 x.1 x.2.1
theorem v12 (n : (PlanD) × List ((Int × Int) × Int × Int) × List ((Int × Int) × Int) × List (Int × Int × Int) × List (Int × Int)) (e : Int) (i : Int) : bodyVC (ctxOf tab []) Tryz.f12 c12 noAnn (n, e, i, ()) = (
lett (mget I n.2.2.2.2 e) fun (y3 : Option Int) =>
lett (bif bif !y3.isSome then true else decide (i < (0 : Int)) then true else decide (i > (1 : Int))) fun (y4 : Bool) =>
(y4 = true → (0 : Int) = gLead n e i ∧ True) ∧
(y4 = false → ((y3.getD (0 : Int) == i) = true → (1 : Int) = gLead n e i ∧ True) ∧ ((y3.getD (0 : Int) == i) = false → (2 : Int) = gLead n e i ∧ True))) := by kernel_rfl
theorem b12 (n : NetD) (e i : Int) : bodyVC (ctxOf tab []) Tryz.f12 c12 noAnn (n, e, i, ()) := by
 rw [v12]
 refine lett.mk fun y3 e3 => lett.mk fun y4 e4 => ?_
 have hl : gLead n e i = bif y4 then 0 else bif y3.getD 0 == i then 1 else 2 := by
  unfold gLead
  rw [← e3, e4]
  cases y3.isSome <;> cases decide (i < 0) <;> cases decide (i > 1) <;> rfl
 rw [hl]
 refine ⟨fun h => by rw [h]; exact ⟨rfl, trivial⟩, fun h => by rw [h]; exact ⟨fun h2 => by rw [h2]; exact ⟨rfl, trivial⟩, fun h2 => by rw [h2]; exact ⟨rfl, trivial⟩⟩⟩
theorem ok12 : DOk Tryz.prog 12 c12 :=
 DOk.of' (l := []) (A := fun _ => noAnn) tabOk trivial Tryz.func12 (by kernel_rfl) (by kernel_rfl) fun x hw hp => b12 x.1 x.2.1 x.2.2.1
theorem v48 (n : (PlanD) × List ((Int × Int) × Int × Int) × List ((Int × Int) × Int) × List (Int × Int × Int) × List (Int × Int)) (s : Int) : bodyVC (ctxOf tab []) Tryz.f48 c48 noAnn (n, s, ()) = (
lett (bif decide (s < (0 : Int)) then true else decide (s ≥ (↑n.1.2.2.1.length : Int))) fun (y2 : Bool) =>
(y2 = true → ((0 : Int), (0 : Int)) = (fAt n.1 s).1 ∧ false = (fAt n.1 s).2 ∧ True) ∧
(y2 = false → InB s n.1.2.2.1.length ∧ (n.1.2.2.1.getD s.toNat ([], ((0 : Int), (0 : Int)), false)).2.1 = (fAt n.1 s).1 ∧ true = (fAt n.1 s).2 ∧ True)) := by kernel_rfl
theorem b48 (n : NetD) (s : Int) : bodyVC (ctxOf tab []) Tryz.f48 c48 noAnn (n, s, ()) := by
 rw [v48]
 have hA : fAt n.1 s = bif decide (s < 0) || decide ((n.1.2.2.1.length : Int) ≤ s) then ((0, 0), false) else ((n.1.2.2.1.getD s.toNat zS).2.1, true) := by unfold fAt; rfl
 refine lett.mk fun y2 e2 => ?_
 rw [geI] at e2
 have hA : fAt n.1 s = bif y2 then ((0, 0), false) else ((n.1.2.2.1.getD s.toNat zS).2.1, true) := by
  rw [hA, e2]
  cases decide (s < 0) <;> rfl
 rw [hA]
 refine ⟨fun h => by rw [h]; exact ⟨rfl, rfl, trivial⟩, fun h => ?_⟩
 rw [h] at e2 ⊢
 cases h1 : decide (s < 0) with
 | true => rw [h1] at e2; cases e2
 | false =>
  rw [h1] at e2
  have h1 := of_decide_eq_false h1
  have h2 := of_decide_eq_false e2.symm
  exact ⟨⟨by omega, by omega⟩, rfl, rfl, trivial⟩
theorem ok48 : DOk Tryz.prog 48 c48 :=
 DOk.of' (l := []) (A := fun _ => noAnn) tabOk trivial Tryz.func48 (by kernel_rfl) (by kernel_rfl) fun x hw hp => b48 x.1 x.2.1
theorem v79 (n : (PlanD) × List ((Int × Int) × Int × Int) × List ((Int × Int) × Int) × List (Int × Int × Int) × List (Int × Int)) : bodyVC (ctxOf tab []) Tryz.f79 c79 noAnn (n, ()) = (
(↑n.1.1.length : Int) = (↑n.1.1.length : Int) ∧ True) := by kernel_rfl
theorem ok79 : DOk Tryz.prog 79 c79 :=
 DOk.of' (l := []) (A := fun _ => noAnn) tabOk trivial Tryz.func79 (by kernel_rfl) (by kernel_rfl) fun x hw hp => by
  obtain ⟨n, u⟩ := x
  show bodyVC (ctxOf tab []) Tryz.f79 c79 noAnn (n, ())
  rw [v79]
  exact ⟨rfl, trivial⟩
theorem v8 (p : PlanD) : bodyVC (ctxOf tab [(25, c25), (26, c26)]) Tryz.f8 c8 noAnn (p, ()) = (
True ∧
((!fFine p) = true → none = fMade p ∧ True) ∧
((!fFine p) = false → shortLines p ∧ ((fCheck p != (0 : Int)) = true → none = fMade p ∧ True) ∧ ((fCheck p != (0 : Int)) = false → fNet? p = fMade p ∧ True))) := by kernel_rfl
theorem fine_facts {p : PlanD} (h : fFine p = true) : fFew p = true ∧ fCheck p = 0 ∧ shortLines p := by
 unfold fFine at h
 rw [Bool.and_eq_true] at h
 refine ⟨h.1, by simpa using h.2, fun l hl => ?_⟩
 have h1 := h.1
 unfold fFew at h1
 simp only [Bool.and_eq_true] at h1
 have := List.all_eq_true.1 h1.2.2.2.2.1 l hl
 simp only [Bool.and_eq_true, decide_eq_true_eq] at this
 omega
theorem ok8 : DOk Tryz.prog 8 c8 :=
 DOk.of' (l := [(25, c25), (26, c26)]) (A := fun _ => noAnn) tabOk ⟨ok25, ok26, trivial⟩ Tryz.func8 (by kernel_rfl) (by kernel_rfl) fun x hw hp => by
  obtain ⟨p, u⟩ := x
  show bodyVC (ctxOf tab [(25, c25), (26, c26)]) Tryz.f8 c8 noAnn (p, ())
  rw [v8]
  refine ⟨trivial, fun h => ?_, fun h => ?_⟩
  ·unfold fMade
   have : fFine p = false := by simpa using h
   rw [this]; exact ⟨rfl, trivial⟩
  ·have hf : fFine p = true := by simpa using h
   obtain ⟨h1, h2, h3⟩ := fine_facts hf
   refine ⟨h3, fun h => ?_, fun h => ?_⟩
   ·rw [h2] at h; cases h
   ·unfold fMade fNet?
    rw [hf, h2]
    exact ⟨rfl, trivial⟩
end YtpnnfimacblhgaaGreat
end Go.Proofs
end

section
set_option maxRecDepth 100000
set_option linter.unusedVariables false
namespace Go.Proofs
open Go Go.Vc
namespace YtpnnfimacblhgaaGreat
abbrev TurnT : Ty := .pair I I
abbrev TurnD := Int × Int
def zT : TurnD := (0, 0)
abbrev Clo28 : Ty := .clo 28 (.pair (.ref I) .unit)
abbrev Clo30 : Ty := .clo 30 .unit
def fFind {α : Type} (p : α → Bool) (xs : List α) : Int := if xs.any p then ((xs.findIdx p : Nat) : Int) else -1
def findLoop {α : Type} (p : α → Bool) (xs : List α) (slot : Nat) (keep : List Nat) : LA where
 σ := Nat
 ok := fun k => k ≤ xs.length ∧ (xs.take k).any p = false
 mu := fun k => xs.length - k
 sl := fun k => [(slot, .one (.dat I (k : Int)))]
 bl := fun _ => []
 keep := keep
 keepB := []
def small (l : List TurnD) : Prop := l.length ≤ 12 ∧ ∀ t ∈ l, -1000 ≤ t.1 ∧ t.1 ≤ 1000
def swapDn (l : List TurnD) (j : Nat) : List TurnD := (l.set (j + 1) (l.getD j zT)).set j (l.getD (j + 1) zT)
def insDn : Nat → List TurnD → List TurnD
 | 0, l => l
 | j + 1, l => bif decide ((l.getD (j + 1) zT).1 - (l.getD j zT).1 < 0) then insDn j (swapDn l j) else l
def sortUp (l : List TurnD) : Nat → List TurnD
 | 0 => l
 | k + 1 => insDn k (sortUp l k)
@[irreducible] def fSort (l : List TurnD) : List TurnD := sortUp l l.length
def c28 : DCon where
 args := [TurnT, .ref I]
 out := .data [.bool]
 pre := fun (x : TurnD × Int × Unit) => True
 fn := fun (x : TurnD × Int × Unit) => (x.1.1 == x.2.1, ())
def c290053 : DCon where
 args := [.list TurnT, Clo28]
 out := .data [I]
 pre := fun (x : List TurnD × (Int × Unit) × Unit) => x.1.length ≤ 1000
 fn := fun (x : List TurnD × (Int × Unit) × Unit) => (fFind (fun t => t.1 == x.2.1.1) x.1, ())
def a290053 (x : List TurnD × (Int × Unit) × Unit) : Ann := loopAnn [(2, fun _ => findLoop (fun t => t.1 == x.2.1.1) x.1 8 [0, 1, 7])]
def c290027 : DCon where
 args := [.list TurnT, Clo28]
 out := .data [.bool]
 pre := fun (x : List TurnD × (Int × Unit) × Unit) => x.1.length ≤ 1000
 fn := fun (x : List TurnD × (Int × Unit) × Unit) => (x.1.any (fun t => t.1 == x.2.1.1), ())
def c30 : DCon where
 args := [TurnT, TurnT]
 out := .data [I]
 pre := fun (x : TurnD × TurnD × Unit) => (-1000 ≤ x.1.1 ∧ x.1.1 ≤ 1000) ∧ -1000 ≤ x.2.1.1 ∧ x.2.1.1 ≤ 1000
 fn := fun (x : TurnD × TurnD × Unit) => (x.1.1 - x.2.1.1, ())
def c310095 : OCon where
 args := [.row 44 TurnT, .dat I, .dat I, .dat Clo30]
 outs := []
 pre := fun (x : List TurnD × Int × Int × Unit × Unit) => x.2.1 = 0 ∧ x.2.2.1 = (x.1.length : Int) ∧ small x.1
 fn := fun _ => ()
 upd := fun (x : List TurnD × Int × Int × Unit × Unit) => (fSort x.1, x.2)
structure InsOk (l : List TurnD) (i j : Nat) (m : List TurnD) : Prop where
 small : small m
 len : m.length = l.length
 le : j ≤ i
 lt : i < l.length
 same : insDn j m = insDn i l
def a310095 (x : List TurnD × Int × Int × Unit × Unit) : Ann := loopAnn [
 (1, fun _ => {
  σ := Nat
  ok := fun k => k ≤ x.1.length - 1
  mu := fun k => x.1.length - k
  sl := fun k => [(8, .one (.dat I ((k : Int) + 1)))]
  bl := fun k => [(1000000, .row false 44 TurnT (sortUp x.1 (k + 1)))]
  keep := [0, 1, 2, 3]
  keepB := [] }),
 (4, fun S => {
  σ := Nat × List TurnD
  ok := fun s => InsOk (sortUp x.1 (slotI S 8).toNat) (slotI S 8).toNat s.1 s.2
  mu := fun s => s.1
  sl := fun s => [(9, .one (.dat I (s.1 : Int)))]
  bl := fun s => [(1000000, .row false 44 TurnT s.2)]
  keep := [0, 1, 2, 3, 8]
  keepB := [] })]
def c310054 : OCon where
 args := [.row 44 TurnT, .dat I, .dat I, .dat I, .dat Clo30]
 outs := []
 pre := fun (x : List TurnD × Int × Int × Int × Unit × Unit) => x.2.1 = 0 ∧ x.2.2.1 = (x.1.length : Int) ∧ small x.1
 fn := fun _ => ()
 upd := fun (x : List TurnD × Int × Int × Int × Unit × Unit) => (fSort x.1, x.2)
def a310054 (x : List TurnD × Int × Int × Int × Unit × Unit) : Ann := loopAnn [
 (2, fun _ => {
  σ := Unit
  ok := fun k => True
  mu := fun k => 0
  sl := fun k => []
  bl := fun k => []
  keep := [0, 1, 2, 3, 4, 10, 11]
  keepB := [1000000] })]
def c310029 : OCon where
 args := [.row 44 TurnT, .dat Clo30]
 outs := []
 pre := fun (x : List TurnD × Unit × Unit) => small x.1
 fn := fun _ => ()
 upd := fun (x : List TurnD × Unit × Unit) => (fSort x.1, x.2)
def fBits (n : Int) : Int := [0, 1, 2, 2, 3, 3, 3, 3, 4, 4, 4, 4, 4].getD n.toNat 0
def c55 : DCon where
 args := [.int .u64]
 out := .data [I]
 pre := fun (x : Int × Unit) => x.1 ≤ 12
 fn := fun (x : Int × Unit) => (fBits x.1, ())
def c104 : DCon := c55
def wantStep (n : NetD) (out : List TurnD) (s : StepD) : List TurnD :=
 bif decide ((gLine n s.1).1 < 0) || out.any (fun t => t.1 == (gLine n s.1).1) then out else out ++ [((gLine n s.1).1, gLead n s.1 s.2.1)]
def wantsUp (n : NetD) (r : RoadD) : Nat → List TurnD
 | 0 => []
 | k + 1 => wantStep n (wantsUp n r k) (r.2.2.2.1.getD k zSt)
@[irreducible] def fWants (n : NetD) (r : RoadD) : List TurnD := fSort (wantsUp n r r.2.2.2.1.length)
def lineIn (n : NetD) : Prop := ∀ x ∈ n.2.2.2.1, 0 ≤ x.2.1 ∧ x.2.1 ≤ 9
def c9 : DCon where
 args := [.ref NetT, RoadT]
 out := .data [.list TurnT]
 pre := fun (x : NetD × RoadD × Unit) => lineIn x.1 ∧ x.2.1.2.2.2.1.length ≤ 1000
 fn := fun (x : NetD × RoadD × Unit) => (fWants x.1 x.2.1, ())
def a9 (x : NetD × RoadD × Unit) : Ann := loopAnn [(3, fun _ => rowLoop x.2.1.2.2.2.1.length 13 5 1000 44 TurnT (wantsUp x.1 x.2.1) [0, 3, 11, 12] [3])]
@[irreducible] def posOf (l : List Int) (e : Int) : Option Nat := firstTo (fun k => l.getD k 0 == e) l.length
def inLine (p : PlanD) (e : Int) (i : Nat) : Bool := (posOf (p.2.2.2.1.getD i zL).2 e).isSome
def lineHit (p : PlanD) (e : Int) (o : Option Nat) : Int × Int := match o with
 | some i => ((i : Int), idxOr (posOf (p.2.2.2.1.getD i zL).2 e))
 | none => (-1, -1)
@[irreducible] def fLineOf (p : PlanD) (e : Int) : Int × Int := lineHit p e (firstTo (inLine p e) p.2.2.2.1.length)
@[irreducible] def fLeadOf (p : PlanD) (e i : Int) : Int :=
 bif decide ((fLineOf p e).1 < 0) || !fHas p (e, i) then 0 else bif (fEnters p (lineAt p (fLineOf p e).1)).1.getD (fLineOf p e).2.toNat 0 == i then 1 else 2
def c31 : DCon where
 args := [PlanT, I]
 out := .data [I, I]
 pre := fun (x : PlanD × Int × Unit) => True
 fn := fun (x : PlanD × Int × Unit) => ((fLineOf x.1 x.2.1).1, (fLineOf x.1 x.2.1).2, ())
def a31 (x : PlanD × Int × Unit) : Ann := loopAnn [(2, fun _ => upLoop x.1.2.2.2.1.length (noneOf (inLine x.1 x.2.1)) 6 [1, 2] [2]),
 (5, fun S => upLoop (x.1.2.2.2.1.getD (slotI S 6).toNat zL).2.length (noneOf (fun k => (x.1.2.2.2.1.getD (slotI S 6).toNat zL).2.getD k 0 == x.2.1)) 7 [1, 2, 6] [2])]
def c32 : DCon where
 args := [PlanT, I, I]
 out := .data [I]
 pre := fun (x : PlanD × Int × Int × Unit) => fCheck x.1 = 0 ∧ shortLines x.1
 fn := fun (x : PlanD × Int × Int × Unit) => (fLeadOf x.1 x.2.1 x.2.2.1, ())
def wantAt (p : PlanD) (r : RoadD) (l : Int) (i : Nat) : Bool := (fLineOf p (r.2.2.2.1.getD i zSt).1).1 == l
def wantOf (p : PlanD) (r : RoadD) (l : Int) : List TurnD := match firstTo (wantAt p r l) r.2.2.2.1.length with
 | some i => [(l, fLeadOf p (r.2.2.2.1.getD i zSt).1 (r.2.2.2.1.getD i zSt).2.1)]
 | none => []
def wantsRef (p : PlanD) (r : RoadD) : Nat → List TurnD
 | 0 => []
 | k + 1 => wantsRef p r k ++ wantOf p r (k : Int)
@[irreducible] def fWantsR (p : PlanD) (r : RoadD) : List TurnD := wantsRef p r p.2.2.2.1.length
def c10 : DCon where
 args := [PlanT, RoadT]
 out := .data [.list TurnT]
 pre := fun (x : PlanD × RoadD × Unit) => (fCheck x.1 = 0 ∧ shortLines x.1) ∧ x.2.1.2.2.2.1.length ≤ 1000
 fn := fun (x : PlanD × RoadD × Unit) => (fWantsR x.1 x.2.1, ())
def a10 (x : PlanD × RoadD × Unit) : Ann := loopAnn [(3, fun _ => rowLoop x.1.2.2.2.1.length 6 5 1000 45 TurnT (wantsRef x.1 x.2.1) [2, 3] [2, 3]),
 (6, fun S => {
  σ := Nat
  ok := fun k => k ≤ x.2.1.2.2.2.1.length ∧ noneOf (wantAt x.1 x.2.1 (slotI S 6)) k
  mu := fun k => x.2.1.2.2.2.1.length - k
  sl := fun k => [(7, .one (.dat I (k : Int)))]
  bl := fun k => []
  keep := [2, 3, 5, 6]
  keepB := [2, 3, 1000] })]
end YtpnnfimacblhgaaGreat
end Go.Proofs
end

section
set_option maxRecDepth 100000
set_option linter.unusedVariables false
set_option linter.unusedSimpArgs false
set_option maxHeartbeats 2000000
namespace Go.Proofs
open Go Go.Vc
namespace YtpnnfimacblhgaaGreat
theorem inR_u64 {n : Int} (h : InR .u64 n) : 0 ≤ n ∧ n ≤ 18446744073709551615 := by
 have h : IntKind.min .u64 ≤ n ∧ n ≤ IntKind.max .u64 := h
 have e1 : IntKind.min .u64 = 0 := by decide
 have e2 : IntKind.max .u64 = 18446744073709551615 := by decide
 omega
theorem wrap_u64 {n : Int} (h1 : 0 ≤ n) (h2 : n < 1000000000) : IntKind.u64.wrap n = n := IntWalk.u64_in _ (by omega)
theorem fFind_any {α : Type} {p : α → Bool} {xs : List α} : decide (fFind p xs ≥ 0) = xs.any p := by
 unfold fFind
 cases h : xs.any p <;> simp
theorem fFind_at {α : Type} {p : α → Bool} {xs : List α} {s : Nat} (d : α) (h : s < xs.length) (h0 : (xs.take s).any p = false) (h1 : p (xs.getD s d) = true) : (s : Int) = fFind p xs := by
 rw [getD_at d h] at h1
 have ha : xs.any p = true := List.any_eq_true.2 ⟨xs[s], List.getElem_mem h, h1⟩
 have hi : xs.findIdx p = s := by
  rw [List.findIdx_eq h]
  refine ⟨h1, fun j hj => ?_⟩
  have := List.any_eq_false.1 h0 xs[j] (by rw [List.mem_take_iff_getElem]; exact ⟨j, by omega, rfl⟩)
  simpa using this
 unfold fFind
 rw [if_pos ha, hi]
theorem fFind_none {α : Type} {p : α → Bool} {xs : List α} {s : Nat} (h : xs.length ≤ s) (h0 : (xs.take s).any p = false) : -1 = fFind p xs := by
 rw [List.take_of_length_le h] at h0
 unfold fFind
 rw [h0]
 rfl
theorem v28 (t : Int × Int) (l : Int) : bodyVC (ctxOf tab []) Tryz.f28 c28 noAnn (t, l, ()) = (
(t.1 == l) = (t.1 == l) ∧ True) := by kernel_rfl
theorem ok28 : DOk Tryz.prog 28 c28 :=
 DOk.of' (l := []) (A := fun _ => noAnn) tabOk trivial Tryz.func28 (by kernel_rfl) (by kernel_rfl) fun x _ _ => by
  obtain ⟨t, l, u⟩ := x
  show bodyVC (ctxOf tab []) Tryz.f28 c28 noAnn (t, l, ())
  rw [v28]
  exact ⟨rfl, trivial⟩
theorem v290053 (xs : List (Int × Int)) (l : Int × Unit) : bodyVC (ctxOf tab [(28, c28)]) Tryz.f53 c290053 (a290053 (xs, l, ())) (xs, l, ()) = (
lett (fFind (fun (t : TurnD) => t.1 == l.1) xs) fun (y2 : Int) =>
(∃ (s03 : Nat),
(s03 ≤ xs.length ∧ ((List.take s03 xs).any fun (t : TurnD) => t.1 == l.1) = false) ∧ (↑s03 : Int) = (0 : Int) ∧ xs = xs ∧ l = l ∧ (↑xs.length : Int) = (↑xs.length : Int) ∧ True) ∧
∀ (s3 : Nat),
lett (decide ((↑s3 : Int) < (↑xs.length : Int))) fun (y4 : Bool) =>
lett ((xs.getD (↑s3 : Int).toNat ((0 : Int), (0 : Int))).1 == l.1) fun (y5 : Bool) =>
s3 ≤ xs.length ∧ ((List.take s3 xs).any fun (t : TurnD) => t.1 == l.1) = false →
(y4 = true →
InB (↑s3 : Int) xs.length ∧
True ∧
(y5 = true → (↑s3 : Int) = y2 ∧ True) ∧
(y5 = false →
InR IntKind.i64 ((↑s3 : Int) + (1 : Int)) ∧
∃ (s'6 : Nat),
(s'6 ≤ xs.length ∧ ((List.take s'6 xs).any fun (t : TurnD) => t.1 == l.1) = false) ∧
xs.length - s'6 < xs.length - s3 ∧ (↑s'6 : Int) = (↑s3 : Int) + (1 : Int) ∧ xs = xs ∧ l = l ∧ (↑xs.length : Int) = (↑xs.length : Int) ∧ True)) ∧
(y4 = false → (-1 : Int) = y2 ∧ True)) := by kernel_rfl
theorem ok290053 : DOk Tryz.prog 53 c290053 :=
 DOk.of' (l := [(28, c28)]) (A := a290053) tabOk ⟨ok28, trivial⟩ Tryz.func53 (by kernel_rfl) (by kernel_rfl) fun x _ hp => by
  obtain ⟨xs, l, ⟨⟩⟩ := x
  have hp : xs.length ≤ 1000 := hp
  rw [v290053]
  refine lett.mk fun y2 e2 => ?_
  simp only [true_and, and_true]
  refine ⟨⟨0, ⟨by omega, by simp⟩, rfl⟩, fun s => lett.mk fun y4 e4 => lett.mk fun y5 e5 => ?_⟩
  rintro ⟨h1, h2⟩
  rw [Int.toNat_natCast] at e5
  refine ⟨fun hs => ?_, fun hs => ?_⟩
  ·have hs := lt_of_y e4 hs
   refine ⟨⟨by omega, by omega⟩, fun e => ?_, fun e => ⟨inR64 (by omega) (by omega), s + 1, ⟨by omega, ?_⟩, by omega, by omega⟩⟩
   ·rw [e2]
    exact fFind_at ((0 : Int), (0 : Int)) hs h2 (by rw [← e5]; exact e)
   ·exact any_succ ((0 : Int), (0 : Int)) hs h2 (by rw [← e5]; exact e)
  ·rw [e2]
   exact fFind_none (s := s) (le_of_y e4 hs) h2
theorem v290027 (xs : List (Int × Int)) (l : Int × Unit) : bodyVC (ctxOf tab [(290053, c290053)]) Tryz.f27 c290027 noAnn (xs, l, ()) = (
lett (fFind (fun (t : TurnD) => t.1 == l.1) xs) fun (y2 : Int) => xs.length ≤ (1000 : Nat) ∧ (decide (y2 ≥ (0 : Int)) = xs.any fun (t : TurnD) => t.1 == l.1) ∧ True) := by kernel_rfl
theorem ok290027 : DOk Tryz.prog 27 c290027 :=
 DOk.of' (l := [(290053, c290053)]) (A := fun _ => noAnn) tabOk ⟨ok290053, trivial⟩ Tryz.func27 (by kernel_rfl) (by kernel_rfl) fun x _ hp => by
  obtain ⟨xs, l, ⟨⟩⟩ := x
  rw [v290027]
  refine lett.mk fun y2 e2 => ⟨hp, ?_, trivial⟩
  rw [e2]
  exact fFind_any
theorem v30 (s : Int × Int) (t : Int × Int) : bodyVC (ctxOf tab []) Tryz.f30 c30 noAnn (s, t, ()) = (
InR IntKind.i64 (s.1 - t.1) ∧ s.1 - t.1 = s.1 - t.1 ∧ True) := by kernel_rfl
theorem b30 (s t : TurnD) (h1 : -1000 ≤ s.1 ∧ s.1 ≤ 1000) (h2 : -1000 ≤ t.1 ∧ t.1 ≤ 1000) : bodyVC (ctxOf tab []) Tryz.f30 c30 noAnn (s, t, ()) := by
 rw [v30]
 exact ⟨inR64 (by omega) (by omega), rfl, trivial⟩
theorem ok30 : DOk Tryz.prog 30 c30 :=
 DOk.of' (l := []) (A := fun _ => noAnn) tabOk trivial Tryz.func30 (by kernel_rfl) (by kernel_rfl) fun x _ hp => b30 x.1 x.2.1 hp.1 hp.2
theorem swap_len (l : List TurnD) (j : Nat) : (swapDn l j).length = l.length := by unfold swapDn; simp
theorem small_at {l : List TurnD} (h : small l) (k : Nat) : -1000 ≤ (l.getD k zT).1 ∧ (l.getD k zT).1 ≤ 1000 := by
 by_cases hk : k < l.length
 ·exact h.2 _ (mem_getD zT hk)
 ·have : l.getD k zT = zT := by simp [List.getD_eq_getElem?_getD, List.getElem?_eq_none (Nat.le_of_not_lt hk)]
  rw [this]
  decide
theorem small_swap {l : List TurnD} (h : small l) (j : Nat) : small (swapDn l j) := by
 refine ⟨by rw [swap_len]; exact h.1, fun t ht => ?_⟩
 unfold swapDn at ht
 rcases List.mem_or_eq_of_mem_set ht with ht | rfl
 ·rcases List.mem_or_eq_of_mem_set ht with ht | rfl
  ·exact h.2 t ht
  ·exact small_at h _
 ·exact small_at h _
theorem ins_len : ∀ (j : Nat) (l : List TurnD), (insDn j l).length = l.length
 | 0, _ => rfl
 | j + 1, l => by
  unfold insDn
  cases decide ((l.getD (j + 1) zT).1 - (l.getD j zT).1 < 0) with
  | true => rw [cond_true, ins_len j, swap_len]
  | false => rw [cond_false]
theorem small_ins : ∀ (j : Nat) {l : List TurnD}, small l → small (insDn j l)
 | 0, _, h => h
 | j + 1, l, h => by
  unfold insDn
  cases decide ((l.getD (j + 1) zT).1 - (l.getD j zT).1 < 0) with
  | true => rw [cond_true]; exact small_ins j (small_swap h j)
  | false => rw [cond_false]; exact h
theorem up_len (l : List TurnD) : ∀ (k : Nat), (sortUp l k).length = l.length
 | 0 => rfl
 | k + 1 => by show (insDn k (sortUp l k)).length = _; rw [ins_len, up_len l k]
theorem small_up {l : List TurnD} (h : small l) : ∀ (k : Nat), small (sortUp l k)
 | 0 => h
 | k + 1 => small_ins k (small_up h k)
theorem v310095 (l : List (Int × Int)) (a : Int) (b : Int) (u : Unit) : obodyVC (ctxOf tab [(30, c30)]) Tryz.f95 c310095 (a310095 (l, a, b, u, ())) (l, a, b, u, ()) = (
InR IntKind.i64 (a + (1 : Int)) ∧
(∃ (s04 : Nat), s04 ≤ l.length - (1 : Nat) ∧ (↑s04 : Int) + (1 : Int) = a + (1 : Int) ∧ a = a ∧ b = b ∧ u = u ∧ sortUp l (s04 + (1 : Nat)) = l ∧ True) ∧
∀ (s4 : Nat),
lett (decide ((↑s4 : Int) + (1 : Int) < b)) fun (y5 : Bool) =>
lett ((↑s4 : Int) + (1 : Int) + (1 : Int)) fun (y6 : Int) =>
s4 ≤ l.length - (1 : Nat) →
(y5 = true →
(∃ (s07 : Nat × List TurnD),
InsOk (sortUp l ((↑s4 : Int) + (1 : Int)).toNat) ((↑s4 : Int) + (1 : Int)).toNat s07.1 s07.2 ∧
(↑s07.1 : Int) = (↑s4 : Int) + (1 : Int) ∧ a = a ∧ b = b ∧ u = u ∧ (↑s4 : Int) + (1 : Int) = (↑s4 : Int) + (1 : Int) ∧ s07.2 = sortUp l (s4 + (1 : Nat)) ∧ True) ∧
∀ (s7 : Nat × List TurnD),
lett (decide ((↑s7.1 : Int) > a)) fun (y8 : Bool) =>
lett (s7.2.getD (↑s7.1 : Int).toNat ((0 : Int), (0 : Int))) fun (y9 : Int × Int) =>
lett (s7.2.getD ((↑s7.1 : Int) - (1 : Int)).toNat ((0 : Int), (0 : Int))) fun (y10 : Int × Int) =>
lett (bif y8 then decide (y9.1 - y10.1 < (0 : Int)) else false) fun (y11 : Bool) =>
lett (s7.2.set (↑s7.1 : Int).toNat y10) fun (y12 : List (Int × Int)) =>
InsOk (sortUp l ((↑s4 : Int) + (1 : Int)).toNat) ((↑s4 : Int) + (1 : Int)).toNat s7.1 s7.2 →
(y8 = true → InB (↑s7.1 : Int) s7.2.length) ∧
(y8 = true → InR IntKind.i64 ((↑s7.1 : Int) - (1 : Int))) ∧
(y8 = true → InB ((↑s7.1 : Int) - (1 : Int)) s7.2.length) ∧
(y8 = true → ((-1000 : Int) ≤ y9.1 ∧ y9.1 ≤ (1000 : Int)) ∧ (-1000 : Int) ≤ y10.1 ∧ y10.1 ≤ (1000 : Int)) ∧
(y11 = true →
InR IntKind.i64 ((↑s7.1 : Int) - (1 : Int)) ∧
InR IntKind.i64 ((↑s7.1 : Int) - (1 : Int)) ∧
InB ((↑s7.1 : Int) - (1 : Int)) s7.2.length ∧
InB (↑s7.1 : Int) s7.2.length ∧
InB (↑s7.1 : Int) s7.2.length ∧
InB ((↑s7.1 : Int) - (1 : Int)) y12.length ∧
InR IntKind.i64 ((↑s7.1 : Int) - (1 : Int)) ∧
∃ (s'13 : Nat × List TurnD),
InsOk (sortUp l ((↑s4 : Int) + (1 : Int)).toNat) ((↑s4 : Int) + (1 : Int)).toNat s'13.1 s'13.2 ∧
s'13.1 < s7.1 ∧
(↑s'13.1 : Int) = (↑s7.1 : Int) - (1 : Int) ∧
a = a ∧
b = b ∧
u = u ∧ (↑s4 : Int) + (1 : Int) = (↑s4 : Int) + (1 : Int) ∧ s'13.2 = y12.set ((↑s7.1 : Int) - (1 : Int)).toNat y9 ∧ True) ∧
(y11 = false →
InR IntKind.i64 y6 ∧
∃ (s'13 : Nat),
s'13 ≤ l.length - (1 : Nat) ∧
l.length - s'13 < l.length - s4 ∧ (↑s'13 : Int) + (1 : Int) = y6 ∧ a = a ∧ b = b ∧ u = u ∧ sortUp l (s'13 + (1 : Nat)) = s7.2 ∧ True)) ∧
(y5 = false → sortUp l (s4 + (1 : Nat)) = fSort l ∧ True)) := by kernel_rfl
theorem b310095 (l : List TurnD) (a b : Int) (h1 : a = 0) (h2 : b = (l.length : Int)) (hs : small l) : obodyVC (ctxOf tab [(30, c30)]) Tryz.f95 c310095 (a310095 (l, a, b, (), ())) (l, a, b, (), ()) := by
 subst h1 h2
 have hl := hs.1
 rw [v310095]
 simp only [true_and, and_true, eq_self, Int.toNat_natCast]
 refine ⟨inR64 (by omega) (by omega), ⟨0, by omega, by omega, rfl⟩, fun k => lett.mk fun y5 e5 => lett.mk fun y6 e6 => fun hk => ⟨fun h => ?_, fun h => ?_⟩⟩
 ·have h5 : (k : Int) + 1 < (l.length : Int) := by rw [h] at e5; exact of_decide_eq_true e5.symm
  have hn : ((k : Int) + 1).toNat = k + 1 := by omega
  rw [hn]
  refine ⟨⟨(k + 1, sortUp l (k + 1)), ⟨small_up hs _, rfl, by omega, by rw [up_len]; omega, rfl⟩, by omega, rfl⟩, fun s => lett.mk fun y8 e8 => lett.mk fun y9 e9 => lett.mk fun y10 e10 => lett.mk fun y11 e11 => lett.mk fun y12 e12 => fun ho => ?_⟩
  obtain ⟨j, m⟩ := s
  obtain ⟨i1, i2, i3, i4, i5⟩ := ho
  have i1 : small m := i1
  have i2 : m.length = (sortUp l (k + 1)).length := i2
  have i3 : j ≤ k + 1 := i3
  have i5 : insDn j m = insDn (k + 1) (sortUp l (k + 1)) := i5
  have i2' : m.length = l.length := by rw [i2, up_len]
  have i4' : k + 1 < l.length := by omega
  have e8 : y8 = decide ((j : Int) > 0) := e8
  have e9 : y9 = m.getD j zT := e9
  have e10 : y10 = m.getD ((j : Int) - 1).toNat zT := e10
  have e12 : y12 = m.set j y10 := e12
  have g9 := small_at i1 j
  have g10 := small_at i1 ((j : Int) - 1).toNat
  rw [← e9] at g9
  rw [← e10] at g10
  show (y8 = true → InB (j : Int) m.length) ∧ (y8 = true → InR IntKind.i64 ((j : Int) - 1)) ∧ (y8 = true → InB ((j : Int) - 1) m.length) ∧ _ ∧ _ ∧ _
  refine ⟨fun h8 => ⟨by omega, by omega⟩, fun h8 => inR64 (by omega) (by omega), fun h8 => ?_, fun h8 => ⟨g9, g10⟩, fun h11 => ?_, fun h11 => ?_⟩
  ·rw [h8] at e8
   have := of_decide_eq_true e8.symm
   exact ⟨by omega, by omega⟩
  ·rw [e11] at h11
   cases h8 : y8 with
   | false => rw [h8] at h11; cases h11
   | true =>
    rw [h8] at h11 e8
    have h11 := of_decide_eq_true h11
    have h8 := of_decide_eq_true e8.symm
    obtain ⟨j', rfl⟩ : ∃ j', j = j' + 1 := ⟨j - 1, by omega⟩
    have hj : (((j' + 1 : Nat) : Int) - 1).toNat = j' := by omega
    rw [hj] at e10
    have hlen : y12.length = m.length := by rw [e12, List.length_set]
    show InR IntKind.i64 (((j' + 1 : Nat) : Int) - 1) ∧ _
    refine ⟨inR64 (by omega) (by omega), inR64 (by omega) (by omega), ⟨by show (0 : Int) ≤ ((j' + 1 : Nat) : Int) - 1; omega, by show ((j' + 1 : Nat) : Int) - 1 < (m.length : Int); omega⟩, ⟨by show (0 : Int) ≤ ((j' + 1 : Nat) : Int); omega, by show ((j' + 1 : Nat) : Int) < (m.length : Int); omega⟩, ⟨by show (0 : Int) ≤ ((j' + 1 : Nat) : Int); omega, by show ((j' + 1 : Nat) : Int) < (m.length : Int); omega⟩, ⟨by show (0 : Int) ≤ ((j' + 1 : Nat) : Int) - 1; omega, by show ((j' + 1 : Nat) : Int) - 1 < (y12.length : Int); omega⟩, inR64 (by omega) (by omega), (j', swapDn m j'), ⟨small_swap i1 _, ?_, ?_, ?_, ?_⟩, ?_, ?_, ?_⟩
    ·show (swapDn m j').length = _; rw [swap_len]; exact i2
    ·show j' ≤ _; omega
    ·rw [up_len]; omega
    ·show insDn j' (swapDn m j') = _
     rw [← i5]
     show _ = insDn (j' + 1) m
     conv => rhs; unfold insDn
     rw [← e9, ← e10, decide_eq_true h11]
     rfl
    ·show j' < j' + 1; omega
    ·show (j' : Int) = ((j' + 1 : Nat) : Int) - 1; omega
    ·show swapDn m j' = y12.set (((j' + 1 : Nat) : Int) - 1).toNat y9
     rw [hj, e12, e9, e10]
     rfl
  ·refine ⟨by rw [e6]; exact inR64 (by omega) (by omega), k + 1, by omega, by omega, by rw [e6]; omega, ?_⟩
   show insDn (k + 1) (sortUp l (k + 1)) = m
   rw [← i5]
   cases j with
   | zero => rfl
   | succ j' =>
    have hj : (((j' + 1 : Nat) : Int) - 1).toNat = j' := by omega
    rw [hj] at e10
    have h8 : y8 = true := by rw [e8]; exact decide_eq_true (by omega)
    rw [h8] at e11
    rw [h11] at e11
    unfold insDn
    rw [← e9, ← e10]
    rw [cond_true] at e11
    rw [← e11]
    rfl
 ·have h5 : ¬ (k : Int) + 1 < (l.length : Int) := by rw [h] at e5; exact of_decide_eq_false e5.symm
  unfold fSort
  by_cases h0 : l.length = 0
  ·have hk : k = 0 := by omega
   rw [h0, hk]
   rfl
  ·have : k + 1 = l.length := by omega
   rw [this]
theorem ok310095 : OOk Tryz.prog 95 c310095 :=
 OOk.of' (l := [(30, c30)]) (A := a310095) tabOk ⟨ok30, trivial⟩ Tryz.func95 (by kernel_rfl) (by kernel_rfl) fun x hw hp => b310095 x.1 x.2.1 x.2.2.1 hp.1 hp.2.1 hp.2.2
theorem v310054 (l : List (Int × Int)) (a : Int) (b : Int) (m : Int) (u : Unit) : obodyVC (ctxOf tab [(310095, c310095)]) Tryz.f54 c310054 (a310054 (l, a, b, m, u, ())) (l, a, b, m, u, ()) = (
lett (decide (b - a ≤ (12 : Int))) fun (y5 : Bool) =>
(∃ (s06 : Unit), True ∧ a = a ∧ b = b ∧ m = m ∧ u = u ∧ true = true ∧ true = true ∧ l = l ∧ True) ∧
∀ (s6 : Unit),
True →
InR IntKind.i64 (b - a) ∧
(y5 = true → (a = (0 : Int) ∧ b = (↑l.length : Int) ∧ small l) ∧ fSort l = fSort l ∧ True) ∧
(y5 = false → ((m == (0 : Int)) = true → False) ∧ ((m == (0 : Int)) = false → ((!true) = true → False) ∧ ((!true) = false → False)))) := by kernel_rfl
theorem b310054 (l : List TurnD) (a b m : Int) (h1 : a = 0) (h2 : b = (l.length : Int)) (h3 : small l) : obodyVC (ctxOf tab [(310095, c310095)]) Tryz.f54 c310054 (a310054 (l, a, b, m, (), ())) (l, a, b, m, (), ()) := by
 subst h1 h2
 have hl := h3.1
 rw [v310054]
 refine lett.mk fun y5 e5 => ?_
 have h5 : y5 = true := by rw [e5]; exact decide_eq_true (by omega)
 simp only [true_and, and_true, eq_self]
 exact ⟨⟨(), trivial⟩, fun _ _ => ⟨inR64 (by omega) (by omega), fun _ => h3, fun h => by rw [h5] at h; cases h⟩⟩
theorem ok310054 : OOk Tryz.prog 54 c310054 :=
 OOk.of' (l := [(310095, c310095)]) (A := a310054) tabOk ⟨ok310095, trivial⟩ Tryz.func54 (by kernel_rfl) (by kernel_rfl) fun x hw hp => b310054 x.1 x.2.1 x.2.2.1 x.2.2.2.1 hp.1 hp.2.1 hp.2.2
theorem v104 (n : Int) : bodyVC (ctxOf tab []) Tryz.f104 c104 noAnn (n, ()) = (
lett (bif decide (n ≥ (4294967296 : Int)) then n.fdiv ((2 : Int) ^ min (Int.toNat (32 : Int)) IntKind.u64.bits) else n) fun (y1 : Int) =>
lett (bif decide (n ≥ (4294967296 : Int)) then (32 : Int) else (0 : Int)) fun (y2 : Int) =>
lett (bif decide (y1 ≥ (65536 : Int)) then y1.fdiv ((2 : Int) ^ min (Int.toNat (16 : Int)) IntKind.u64.bits) else y1) fun (y3 : Int) =>
lett (bif decide (y1 ≥ (65536 : Int)) then y2 + (16 : Int) else y2) fun (y4 : Int) =>
lett (IntKind.u8.wrap (bif decide (y3 ≥ (256 : Int)) then y3.fdiv ((2 : Int) ^ min (Int.toNat (8 : Int)) IntKind.u64.bits) else y3)) fun (y5 : Int) =>
lett
[(8 : UInt8), (8 : UInt8), (8 : UInt8), (8 : UInt8), (8 : UInt8), (8 : UInt8), (8 : UInt8), (8 : UInt8), (8 : UInt8), (8 : UInt8), (8 : UInt8), (8 : UInt8), (8 : UInt8), (8 : UInt8),
(8 : UInt8), (8 : UInt8), (8 : UInt8), (8 : UInt8), (8 : UInt8), (8 : UInt8), (8 : UInt8), (8 : UInt8), (8 : UInt8), (8 : UInt8), (8 : UInt8), (8 : UInt8), (8 : UInt8), (8 : UInt8),
(8 : UInt8), (8 : UInt8), (8 : UInt8), (8 : UInt8), (8 : UInt8), (8 : UInt8), (8 : UInt8), (8 : UInt8), (8 : UInt8), (8 : UInt8), (8 : UInt8), (8 : UInt8), (8 : UInt8), (8 : UInt8),
(8 : UInt8), (8 : UInt8), (8 : UInt8), (8 : UInt8), (8 : UInt8), (8 : UInt8), (8 : UInt8), (8 : UInt8), (8 : UInt8), (8 : UInt8), (8 : UInt8), (8 : UInt8), (8 : UInt8), (8 : UInt8),
(8 : UInt8), (8 : UInt8), (8 : UInt8), (8 : UInt8), (8 : UInt8), (8 : UInt8), (8 : UInt8), (8 : UInt8)]
fun (y6 : List UInt8) =>
lett
(([(0 : UInt8), (1 : UInt8), (2 : UInt8), (2 : UInt8), (3 : UInt8), (3 : UInt8), (3 : UInt8), (3 : UInt8), (4 : UInt8), (4 : UInt8), (4 : UInt8), (4 : UInt8), (4 : UInt8), (4 : UInt8),
(4 : UInt8), (4 : UInt8), (5 : UInt8), (5 : UInt8), (5 : UInt8), (5 : UInt8), (5 : UInt8), (5 : UInt8), (5 : UInt8), (5 : UInt8), (5 : UInt8), (5 : UInt8), (5 : UInt8),
(5 : UInt8), (5 : UInt8), (5 : UInt8), (5 : UInt8), (5 : UInt8), (6 : UInt8), (6 : UInt8), (6 : UInt8), (6 : UInt8), (6 : UInt8), (6 : UInt8), (6 : UInt8), (6 : UInt8),
(6 : UInt8), (6 : UInt8), (6 : UInt8), (6 : UInt8), (6 : UInt8), (6 : UInt8), (6 : UInt8), (6 : UInt8), (6 : UInt8), (6 : UInt8), (6 : UInt8), (6 : UInt8), (6 : UInt8),
(6 : UInt8), (6 : UInt8), (6 : UInt8), (6 : UInt8), (6 : UInt8), (6 : UInt8), (6 : UInt8), (6 : UInt8), (6 : UInt8), (6 : UInt8), (6 : UInt8)].append
[(7 : UInt8), (7 : UInt8), (7 : UInt8), (7 : UInt8), (7 : UInt8), (7 : UInt8), (7 : UInt8), (7 : UInt8), (7 : UInt8), (7 : UInt8), (7 : UInt8), (7 : UInt8), (7 : UInt8),
(7 : UInt8), (7 : UInt8), (7 : UInt8), (7 : UInt8), (7 : UInt8), (7 : UInt8), (7 : UInt8), (7 : UInt8), (7 : UInt8), (7 : UInt8), (7 : UInt8), (7 : UInt8), (7 : UInt8),
(7 : UInt8), (7 : UInt8), (7 : UInt8), (7 : UInt8), (7 : UInt8), (7 : UInt8), (7 : UInt8), (7 : UInt8), (7 : UInt8), (7 : UInt8), (7 : UInt8), (7 : UInt8), (7 : UInt8),
(7 : UInt8), (7 : UInt8), (7 : UInt8), (7 : UInt8), (7 : UInt8), (7 : UInt8), (7 : UInt8), (7 : UInt8), (7 : UInt8), (7 : UInt8), (7 : UInt8), (7 : UInt8), (7 : UInt8),
(7 : UInt8), (7 : UInt8), (7 : UInt8), (7 : UInt8), (7 : UInt8), (7 : UInt8), (7 : UInt8), (7 : UInt8), (7 : UInt8), (7 : UInt8), (7 : UInt8), (7 : UInt8)]).append
(y6.append y6))
fun (y7 : List UInt8) =>
lett ((bif decide (y3 ≥ (256 : Int)) then y4 + (8 : Int) else y4) + (↑(y7.getD y5.toNat (0 : UInt8)).toNat : Int)) fun (y8 : Int) =>
(decide (n ≥ (4294967296 : Int)) = true → (0 : Int) ≤ (32 : Int)) ∧
(decide (y1 ≥ (65536 : Int)) = true → (0 : Int) ≤ (16 : Int)) ∧
(decide (y1 ≥ (65536 : Int)) = true → InR IntKind.i64 (y2 + (16 : Int))) ∧
(decide (y3 ≥ (256 : Int)) = true → (0 : Int) ≤ (8 : Int)) ∧
(decide (y3 ≥ (256 : Int)) = true → InR IntKind.i64 (y4 + (8 : Int))) ∧ InB y5 y7.length ∧ InR IntKind.i64 y8 ∧ y8 = fBits n ∧ True) := by kernel_rfl
theorem b104 (n : Int) (h0 : 0 ≤ n) (hp : n ≤ 12) : bodyVC (ctxOf tab []) Tryz.f104 c104 noAnn (n, ()) := by
 rw [v104]
 have hn : n = 0 ∨ n = 1 ∨ n = 2 ∨ n = 3 ∨ n = 4 ∨ n = 5 ∨ n = 6 ∨ n = 7 ∨ n = 8 ∨ n = 9 ∨ n = 10 ∨ n = 11 ∨ n = 12 := by omega
 rcases hn with rfl | rfl | rfl | rfl | rfl | rfl | rfl | rfl | rfl | rfl | rfl | rfl | rfl <;>
 exact And.intro (fun h => absurd h (by decide)) (And.intro (fun h => absurd h (by decide)) (And.intro (fun h => absurd h (by decide)) (And.intro (fun h => absurd h (by decide)) (And.intro (fun h => absurd h (by decide)) (And.intro (And.intro (by decide) (by decide)) (And.intro (inR64 (by decide) (by decide)) (And.intro (by decide) trivial)))))))
theorem ok104 : DOk Tryz.prog 104 c104 :=
 DOk.of' (l := []) (A := fun _ => noAnn) tabOk trivial Tryz.func104 (by kernel_rfl) (by kernel_rfl) fun x hw hp => b104 x.1 (inR_u64 hw.1).1 hp
theorem v55 (n : Int) : bodyVC (ctxOf tab [(104, c104)]) Tryz.f55 c55 noAnn (n, ()) = (
(false = true → False) ∧ (false = false → n ≤ (12 : Int) ∧ fBits n = fBits n ∧ True)) := by kernel_rfl
theorem b55 (n : Int) (hp : n ≤ 12) : bodyVC (ctxOf tab [(104, c104)]) Tryz.f55 c55 noAnn (n, ()) := by
 rw [v55]
 exact And.intro (fun h => Bool.noConfusion h) (fun _ => ⟨hp, rfl, trivial⟩)
theorem ok55 : DOk Tryz.prog 55 c55 :=
 DOk.of' (l := [(104, c104)]) (A := fun _ => noAnn) tabOk ⟨ok104, trivial⟩ Tryz.func55 (by kernel_rfl) (by kernel_rfl) fun x hw hp => b55 x.1 hp
theorem v310029 (l : List (Int × Int)) (u : Unit) : obodyVC (ctxOf tab [(310054, c310054), (55, c55)]) Tryz.f29 c310029 noAnn (l, u, ()) = (
IntKind.u64.wrap (↑l.length : Int) ≤ (12 : Int) ∧ ((0 : Int) = (0 : Int) ∧ (↑l.length : Int) = (↑l.length : Int) ∧ small l) ∧ fSort l = fSort l ∧ True) := by kernel_rfl
theorem b310029 (l : List TurnD) (h3 : small l) : obodyVC (ctxOf tab [(310054, c310054), (55, c55)]) Tryz.f29 c310029 noAnn (l, (), ()) := by
 have hl := h3.1
 rw [v310029]
 refine ⟨?_, ⟨rfl, rfl, h3⟩, rfl, trivial⟩
 have : IntKind.u64.wrap (l.length : Int) = (l.length : Int) := wrap_u64 (by omega) (by omega)
 omega
theorem ok310029 : OOk Tryz.prog 29 c310029 :=
 OOk.of' (l := [(310054, c310054), (55, c55)]) (A := fun _ => noAnn) tabOk ⟨ok310054, ok55, trivial⟩ Tryz.func29 (by kernel_rfl) (by kernel_rfl) fun x hw hp => b310029 x.1 hp
end YtpnnfimacblhgaaGreat
end Go.Proofs
end
