/-
  Contracts of the reference's roads and flanks (chapters 7 to 11), as far as they are reached.
-/
import Derived.Test.YtpnnfimacblhgaaVlc
set_option maxRecDepth 100000
set_option linter.unusedVariables false
namespace Go.Proofs
open Go Go.Vc

namespace Ytpnnfimacblhgaa
abbrev StepT : Ty := .pair I (.pair I I)
abbrev NeedT : Ty := .pair I I
abbrev RoadT : Ty := .pair I (.pair I (.pair I (.pair (.list StepT) (.pair (.list NeedT) (.pair (.list NeedT) (.pair (.list I) (.pair (.list I) .bool)))))))
abbrev ChartT : Ty := .pair PlanT (.list RoadT)
abbrev LifeT : Ty := .pair I (.pair I (.pair .bool (.list .bool)))

abbrev StepD := Int × Int × Int
abbrev NeedD := Int × Int
abbrev RoadD := Int × Int × Int × List StepD × List NeedD × List NeedD × List Int × List Int × Bool
abbrev ChartD := PlanD × List RoadD
abbrev LifeD := Int × Int × Bool × List Bool

def zSt : StepD := (0, 0, 0)
def zR : RoadD := (0, 0, 0, [], [], [], [], [], false)
def zPlan : PlanD := ([], [], [], [], 0, 0, 0, 0, false)
def zC : ChartD := (zPlan, [])

/-! ### Roads -/

@[irreducible] def fElems (r : RoadD) : List Int := r.2.2.2.1.map fun s => s.1
@[irreducible] def fOwn (r : RoadD) (e : Int) : Bool := fMem (fElems r) e
@[irreducible] def fHasPort (l : List PortD) (x : PortD) : Bool := l.any fun y => y == x
@[irreducible] def fHasNeed (l : List NeedD) (x : NeedD) : Bool := l.any fun y => y == x
@[irreducible] def fWith (r : RoadD) (s : StepD) (pos stop to : Int) : RoadD :=
  (r.1, to, stop, r.2.2.2.1 ++ [s], r.2.2.2.2.1 ++ (bif pos == 0 then [] else [(s.1, pos)]), [], [], [], false)

/-- One way on. -/
@[irreducible] def onWay (p : PlanD) (rec : RoadD → PortD → List Int → List RoadD) (r : RoadD) (x : PortD) (met : List Int) (w : Int × Int) : List RoadD :=
  bif decide (0 ≤ fReads p (x.1, w.1)) then [fWith r (x.1, x.2, w.1) w.2 1 (fReads p (x.1, w.1))] else
  bif !(fNext p (x.1, w.1)).2 then [fWith r (x.1, x.2, w.1) w.2 3 (-1)] else
  rec (fWith r (x.1, x.2, w.1) w.2 0 (-1)) (fNext p (x.1, w.1)).1 met
@[irreducible] def onWays (p : PlanD) (rec : RoadD → PortD → List Int → List RoadD) (r : RoadD) (x : PortD) (met : List Int) (k : Nat) : List RoadD :=
  ((fOuts p x.1 x.2).take k).flatMap (onWay p rec r x met)
@[irreducible] def onStep (p : PlanD) (rec : RoadD → PortD → List Int → List RoadD) (r : RoadD) (x : PortD) (met : List Int) : List RoadD :=
  bif fMem met x.1 || decide (r.2.2.2.1.length = 12) then [] else
  bif fKind p x.1 == 4 then [fWith r (x.1, x.2, -1) 0 2 (-1)] else
  onWays p rec r x (met ++ [x.1]) (fOuts p x.1 x.2).length
def fOn (p : PlanD) : Nat → RoadD → PortD → List Int → List RoadD
  | 0, _, _, _ => []
  | n + 1, r, x, met => onStep p (fOn p n) r x met

def onPre (n : Nat) (r : RoadD) (met : List Int) : Prop := (12 < r.2.2.2.1.length + n ∧ r.2.2.2.1.length ≤ 12 ∧ n ≤ 13) ∧ r.2.2.2.2.1.length ≤ r.2.2.2.1.length ∧ met.length ≤ r.2.2.2.1.length + 1

def roadFrom (s : Int) : RoadD := (s, 0, 0, [], [], [], [], [], false)
@[irreducible] def fOf (p : PlanD) (s : Int) : List RoadD :=
  bif !(fAt p s).2 then [] else bif !(fNext p (fAt p s).1).2 then [] else fOn p 13 (roadFrom s) (fNext p (fAt p s).1).1 [(fAt p s).1.1]
@[irreducible] def allUp (p : PlanD) (k : Nat) : List RoadD := (List.range k).flatMap fun (s : Nat) => fOf p (s : Int)
def allLong (p : PlanD) (k : Nat) : Bool := decide (64 < (allUp p (k + 1)).length)
@[irreducible] def fAll (p : PlanD) : List RoadD × Int := bif anyTo (allLong p) p.2.2.1.length then ([], 3) else (allUp p p.2.2.1.length, 0)

/-! ### What could come in -/

def crossOf (s : StepD) : Int := bif decide (2 ≤ s.2.1) then 0 else 2
@[irreducible] def portsAt (p : PlanD) (s : StepD) : List PortD :=
  bif fKind p s.1 == 2 then [(s.1, 3 - max s.2.1 s.2.2)] else bif fKind p s.1 == 3 then [(s.1, crossOf s), (s.1, crossOf s + 1)] else []
@[irreducible] def portsOn (p : PlanD) (l : List PortD) : List PortD := l.filter fun x => (fNext p x).2
@[irreducible] def portsUp (p : PlanD) (r : RoadD) (k : Nat) : List PortD := (r.2.2.2.1.take k).flatMap fun s => portsOn p (portsAt p s)
@[irreducible] def fPorts (p : PlanD) (r : RoadD) : List PortD := portsUp p r r.2.2.2.1.length
def stepOk (s : StepD) : Prop := (-1 ≤ s.2.1 ∧ s.2.1 ≤ 3) ∧ -1 ≤ s.2.2 ∧ s.2.2 ≤ 3
def stepsOk (r : RoadD) : Prop := r.2.2.2.1.length ≤ 1000 ∧ ∀ s ∈ r.2.2.2.1, stepOk s

/-! ### The search for a flank -/

abbrev SearchD := PlanD × Int × Int × Int × List StepD × List NeedD × List NeedD × List Int × List Int × Bool × List PortD
@[irreducible] def sRoad (s : SearchD) : RoadD := (s.2.1, s.2.2.1, s.2.2.2.1, s.2.2.2.2.1, s.2.2.2.2.2.1, s.2.2.2.2.2.2.1, s.2.2.2.2.2.2.2.1, s.2.2.2.2.2.2.2.2.1, s.2.2.2.2.2.2.2.2.2.1)
def sGuard (s : SearchD) (g : List NeedD) : SearchD := (s.1, s.2.1, s.2.2.1, s.2.2.2.1, s.2.2.2.2.1, s.2.2.2.2.2.1, g, s.2.2.2.2.2.2.2)
def sZone (s : SearchD) (z : List Int) : SearchD := (s.1, s.2.1, s.2.2.1, s.2.2.2.1, s.2.2.2.2.1, s.2.2.2.2.2.1, s.2.2.2.2.2.2.1, z, s.2.2.2.2.2.2.2.2)
def sHold (s : SearchD) (z : List Int) : SearchD := (s.1, s.2.1, s.2.2.1, s.2.2.2.1, s.2.2.2.2.1, s.2.2.2.2.2.1, s.2.2.2.2.2.2.1, s.2.2.2.2.2.2.2.1, z, s.2.2.2.2.2.2.2.2.2)
def sBare (s : SearchD) : SearchD := (s.1, s.2.1, s.2.2.1, s.2.2.2.1, s.2.2.2.2.1, s.2.2.2.2.2.1, s.2.2.2.2.2.2.1, s.2.2.2.2.2.2.2.1, s.2.2.2.2.2.2.2.2.1, true, s.2.2.2.2.2.2.2.2.2.2)
def sMet (s : SearchD) (m : List PortD) : SearchD := (s.1, s.2.1, s.2.2.1, s.2.2.2.1, s.2.2.2.2.1, s.2.2.2.2.2.1, s.2.2.2.2.2.2.1, s.2.2.2.2.2.2.2.1, s.2.2.2.2.2.2.2.2.1, s.2.2.2.2.2.2.2.2.2.1, m)
abbrev gSteps (s : SearchD) : List StepD := s.2.2.2.2.1
abbrev gNeeds (s : SearchD) : List NeedD := s.2.2.2.2.2.1
abbrev gGuards (s : SearchD) : List NeedD := s.2.2.2.2.2.2.1
abbrev gZone (s : SearchD) : List Int := s.2.2.2.2.2.2.2.1
abbrev gHolds (s : SearchD) : List Int := s.2.2.2.2.2.2.2.2.1
abbrev gMet (s : SearchD) : List PortD := s.2.2.2.2.2.2.2.2.2.2

@[irreducible] def fZone (s : SearchD) (e : Int) : Bool × SearchD :=
  bif fMem (gZone s) e then (true, s) else bif decide (12 ≤ (gZone s).length) then (false, sBare s) else (true, sZone s (gZone s ++ [e]))
@[irreducible] def sOn (rec : PortD → SearchD → SearchD) (e stop : Int) (s : SearchD) : SearchD := bif (fNext s.1 (e, stop)).2 then rec (fNext s.1 (e, stop)).1 s else s
@[irreducible] def sPoints (rec : PortD → SearchD → SearchD) (y : PortD) (s : SearchD) : SearchD :=
  bif y.2 == 0 then (bif (fZone s y.1).1 then sOn rec y.1 2 (sOn rec y.1 1 (fZone s y.1).2) else (fZone s y.1).2) else
  bif !fHasNeed (gNeeds s) (y.1, y.2) && !fHasNeed (gGuards s) (y.1, y.2) then (bif fHasNeed (gGuards s) (y.1, 3 - y.2) then s else sGuard s (gGuards s ++ [(y.1, 3 - y.2)])) else
  (bif (fZone s y.1).1 then sOn rec y.1 0 (fZone s y.1).2 else (fZone s y.1).2)
/-- What is done at a port that is met for the first time. -/
@[irreducible] def sNew (rec : PortD → SearchD → SearchD) (y : PortD) (s : SearchD) : SearchD :=
  bif decide (0 ≤ fReads s.1 y) && !s.1.2.2.2.2.2.2.2.2 then (bif fMem (gHolds s) (fReads s.1 y) then s else sHold s (gHolds s ++ [fReads s.1 y])) else
  bif fKind s.1 y.1 == 4 then sBare s else bif fKind s.1 y.1 == 2 then sPoints rec y s else
  (bif (fZone s y.1).1 then sOn rec y.1 (fFrom s.1 y.1 y.2 0).1 (fZone s y.1).2 else (fZone s y.1).2)
@[irreducible] def sStep (rec : PortD → SearchD → SearchD) (y : PortD) (s : SearchD) : SearchD :=
  bif fOwn (sRoad s) y.1 || fHasPort (gMet s) y then s else sNew rec y (sMet s (gMet s ++ [y]))
def sCome : Nat → PortD → SearchD → SearchD
  | 0, _, s => s
  | n + 1, y, s => sStep (sCome n) y s

/-- What holds of a search all the time. -/
structure SInv (s : SearchD) : Prop where
  joined : fJoined s.1 = true
  joins : s.1.2.1.length ≤ 1000
  nodup : (gMet s).Nodup
  sub : ∀ y ∈ gMet s, y ∈ joinEnds s.1
  guards : (gGuards s).length ≤ (gMet s).length
  holds : (gHolds s).length ≤ (gMet s).length
  zone : (gZone s).length ≤ 12
  steps : (gSteps s).length ≤ 1000

def onOk (n : Nat) (s : SearchD) : Prop := SInv s ∧ (joinEnds s.1).length < (gMet s).length + n
def comeOk (n : Nat) (y : PortD) (s : SearchD) : Prop := onOk n s ∧ y ∈ joinEnds s.1
def pointsOk (n : Nat) (y : PortD) (s : SearchD) : Prop := comeOk n y s ∧ (gGuards s).length < (gMet s).length

def s0 (p : PlanD) (r : RoadD) : SearchD := (p, r.1, r.2.1, r.2.2.1, r.2.2.2.1, r.2.2.2.2.1, [], [], [], false, [])
def flankUp (p : PlanD) (r : RoadD) : Nat → SearchD
  | 0 => s0 p r
  | k + 1 => sOn (sCome 161) ((fPorts p r).getD k zP).1 ((fPorts p r).getD k zP).2 (flankUp p r k)
@[irreducible] def fFlank (p : PlanD) (r : RoadD) : RoadD := sRoad (flankUp p r (fPorts p r).length)
def flankPre (p : PlanD) (r : RoadD) : Prop := fCheck p = 0 ∧ stepsOk r ∧ r.2.2.2.2.1.length ≤ 1000

@[irreducible] def fBuild (p : PlanD) : ChartD × Int :=
  bif fCheck p == 0 then (bif (fAll p).2 == 0 then ((p, (fAll p).1.map (fFlank p)), 0) else (zC, (fAll p).2)) else (zC, fCheck p)
@[irreducible] def fRoads (p : PlanD) : List RoadD × Bool := bif fFine p then ((fBuild p).1.2, (fBuild p).2 == 0) else ([], false)

/-! ### Contracts -/

def c49 : DCon where
  args := [RoadT]
  out := .row 3 I
  pre := fun (x : RoadD × Unit) => x.1.2.2.2.1.length ≤ 1000000
  fn := fun (x : RoadD × Unit) => (fElems x.1, ())
def c44 : DCon where
  args := [RoadT, I]
  out := .data [.bool]
  pre := fun (x : RoadD × Int × Unit) => x.1.2.2.2.1.length ≤ 1000000
  fn := fun (x : RoadD × Int × Unit) => (fOwn x.1 x.2.1, ())
def c45 : DCon where
  args := [.list PortT, PortT]
  out := .data [.bool]
  pre := fun (x : List PortD × PortD × Unit) => True
  fn := fun (x : List PortD × PortD × Unit) => (fHasPort x.1 x.2.1, ())
def c50 : DCon where
  args := [.list NeedT, NeedT]
  out := .data [.bool]
  pre := fun (x : List NeedD × NeedD × Unit) => True
  fn := fun (x : List NeedD × NeedD × Unit) => (fHasNeed x.1 x.2.1, ())
def withPre (r : RoadD) : Prop := r.2.2.2.1.length ≤ 1000 ∧ r.2.2.2.2.1.length ≤ 1000
def c42 : DCon where
  args := [RoadT, StepT, I, I, I]
  out := .data [RoadT]
  pre := fun (x : RoadD × StepD × Int × Int × Int × Unit) => withPre x.1
  fn := fun (x : RoadD × StepD × Int × Int × Int × Unit) => (fWith x.1 x.2.1 x.2.2.1 x.2.2.2.1 x.2.2.2.2.1, ())
def c39 (n : Nat) : DCon where
  args := [PlanT, RoadT, PortT, .list I]
  out := .data [.list RoadT]
  pre := fun (x : PlanD × RoadD × PortD × List Int × Unit) => onPre n x.2.1 x.2.2.2.1
  fn := fun (x : PlanD × RoadD × PortD × List Int × Unit) => (fOn x.1 n x.2.1 x.2.2.1 x.2.2.2.1, ())
def c24 : DCon where
  args := [PlanT, I]
  out := .data [.list RoadT]
  pre := fun (x : PlanD × Int × Unit) => True
  fn := fun (x : PlanD × Int × Unit) => (fOf x.1 x.2.1, ())
def c13 : OCon where
  args := [.dat PlanT]
  outs := [.row 42 RoadT, .dat I]
  pre := fun (x : PlanD × Unit) => x.1.2.2.1.length ≤ 1000
  fn := fun (x : PlanD × Unit) => ((fAll x.1).1, (fAll x.1).2, ())
def c25 : DCon where
  args := [PlanT, RoadT]
  out := .data [.list PortT]
  pre := fun (x : PlanD × RoadD × Unit) => stepsOk x.2.1
  fn := fun (x : PlanD × RoadD × Unit) => (fPorts x.1 x.2.1, ())

abbrev SearchO : OTy := .cells true (.pair (.dat PlanT) (.pair (.dat I) (.pair (.dat I) (.pair (.dat I) (.pair (.row 95 StepT) (.pair (.row 107 NeedT) (.pair (.row 107 NeedT) (.pair (.row 3 I) (.pair (.row 3 I) (.pair (.dat .bool) (.row 61 PortT)))))))))))
def c48 : OCon where
  args := [SearchO, .dat I]
  outs := [.dat .bool]
  pre := fun (x : SearchD × Int × Unit) => (gZone x.1).length ≤ 1000
  fn := fun (x : SearchD × Int × Unit) => ((fZone x.1 x.2.1).1, ())
  upd := fun (x : SearchD × Int × Unit) => ((fZone x.1 x.2.1).2, x.2)
def c41 (n : Nat) : OCon where
  args := [SearchO, .dat PortT]
  outs := []
  pre := fun (x : SearchD × PortD × Unit) => comeOk n x.2.1 x.1
  fn := fun _ => ()
  upd := fun (x : SearchD × PortD × Unit) => (sCome n x.2.1 x.1, x.2)
def c26 (n : Nat) : OCon where
  args := [SearchO, .dat I, .dat I]
  outs := []
  pre := fun (x : SearchD × Int × Int × Unit) => onOk n x.1
  fn := fun _ => ()
  upd := fun (x : SearchD × Int × Int × Unit) => (sOn (sCome n) x.2.1 x.2.2.1 x.1, x.2)
def c46 (n : Nat) : OCon where
  args := [SearchO, .dat PortT]
  outs := []
  pre := fun (x : SearchD × PortD × Unit) => pointsOk n x.2.1 x.1
  fn := fun _ => ()
  upd := fun (x : SearchD × PortD × Unit) => (sPoints (sCome n) x.2.1 x.1, x.2)
def smallP : PlanD := (
  [([87], 4, 0), ([65], 1, 20), ([80], 2, 10), ([66], 1, 20), ([67], 1, 30), ([69], 4, 0)],
  [((0, 0), (1, 0)), ((1, 1), (2, 0)), ((2, 1), (3, 0)), ((3, 1), (5, 0)), ((2, 2), (4, 0))],
  [([119], (0, 0), false), ([97], (1, 1), false), ([101], (5, 0), false), ([98], (3, 0), false), ([99], (4, 0), false)],
  [], 10, 5, 15, 2, false)
def c8 : DCon where
  args := []
  out := .data [PlanT]
  pre := fun (x : Unit) => True
  fn := fun (x : Unit) => (smallP, ())
def c14 : DCon where
  args := [PlanT, RoadT]
  out := .data [RoadT]
  pre := fun (x : PlanD × RoadD × Unit) => flankPre x.1 x.2.1
  fn := fun (x : PlanD × RoadD × Unit) => (fFlank x.1 x.2.1, ())
def c7 : DCon where
  args := [PlanT]
  out := .data [ChartT, I]
  pre := fun (x : PlanD × Unit) => shortLines x.1
  fn := fun (x : PlanD × Unit) => ((fBuild x.1).1, (fBuild x.1).2, ())
def c5 : DCon where
  args := [PlanT]
  out := .data [.list RoadT, .bool]
  pre := fun (x : PlanD × Unit) => True
  fn := fun (x : PlanD × Unit) => ((fRoads x.1).1, (fRoads x.1).2, ())

end Ytpnnfimacblhgaa
end Go.Proofs
