/-
  Contracts of the reference's plans (chapters 1 to 6), as far as they are reached.
-/
import Derived.Test.YtpnnfimacblhgaaVla
set_option maxRecDepth 100000
set_option linter.unusedVariables false
namespace Go.Proofs
open Go Go.Vc

namespace Ytpnnfimacblhgaa
abbrev I := Ty.int .i64
abbrev ElemT : Ty := .pair .str (.pair I I)
abbrev PortT : Ty := .pair I I
abbrev JoinT : Ty := .pair PortT PortT
abbrev SignalT : Ty := .pair .str (.pair PortT .bool)
abbrev LineT : Ty := .pair .str (.list I)
abbrev PlanT : Ty := .pair (.list ElemT) (.pair (.list JoinT) (.pair (.list SignalT) (.pair (.list LineT) (.pair I (.pair I (.pair I (.pair I .bool)))))))
abbrev WayT : Ty := .pair I I

abbrev Str := List UInt8
abbrev ElemD := Str × Int × Int
abbrev PortD := Int × Int
abbrev JoinD := PortD × PortD
abbrev SignalD := Str × PortD × Bool
abbrev LineD := Str × List Int
abbrev PlanD := List ElemD × List JoinD × List SignalD × List LineD × Int × Int × Int × Int × Bool

def zE : ElemD := ([], 0, 0)
def zP : PortD := (0, 0)
def zJ : JoinD := ((0, 0), (0, 0))
def zS : SignalD := ([], (0, 0), false)
def zL : LineD := ([], [])

/-! ### Counting up -/

def allTo (p : Nat → Bool) : Nat → Bool
  | 0 => true
  | k + 1 => allTo p k && p k

def anyTo (p : Nat → Bool) : Nat → Bool
  | 0 => false
  | k + 1 => anyTo p k || p k

/-- The first number below another one. -/
def firstTo (p : Nat → Bool) (n : Nat) : Option Nat := (List.range n).find? p

def idxOr (o : Option Nat) : Int := match o with | some i => (i : Int) | none => -1

def fIn (lo hi n : Int) : Bool := decide (lo ≤ n) && decide (n ≤ hi)

/-! ### Plans -/

@[irreducible] def fEnds (k : Int) : Int := bif k == 1 then 2 else bif k == 2 then 3 else bif k == 3 then 4 else bif k == 4 then 1 else 0
@[irreducible] def fKind (p : PlanD) (e : Int) : Int := bif decide (e < 0) || decide ((p.1.length : Int) ≤ e) then 0 else (p.1.getD e.toNat zE).2.1
@[irreducible] def fLength (p : PlanD) (e : Int) : Int := bif decide (e < 0) || decide ((p.1.length : Int) ≤ e) then 0 else (p.1.getD e.toNat zE).2.2
@[irreducible] def fHas (p : PlanD) (x : PortD) : Bool := decide (0 ≤ x.1) && (decide (x.1 < (p.1.length : Int)) && (decide (0 ≤ x.2) && decide (x.2 < fEnds (fKind p x.1))))

def nextOf (o : Option JoinD) (x : PortD) : PortD × Bool := match o with
  | some j => (bif j.1 == x then j.2 else j.1, true)
  | none => ((0, 0), false)
@[irreducible] def fNext (p : PlanD) (x : PortD) : PortD × Bool := nextOf (p.2.1.find? fun j => j.1 == x || j.2 == x) x
@[irreducible] def fReads (p : PlanD) (x : PortD) : Int := idxOr (firstTo (fun i => (p.2.2.1.getD i zS).2.1 == x) p.2.2.1.length)
@[irreducible] def fMem (l : List Int) (n : Int) : Bool := l.any fun y => y == n

/-- What is added up, braking. -/
def stopUp (v b : Int) : Nat → Int
  | 0 => 0
  | k + 1 => stopUp v b k + (v - b * ((k : Int) + 1))
/-- After how many steps one stands. -/
def stopAt (v b : Int) : Nat := (firstTo (fun k => decide (v - b * ((k : Int) + 1) ≤ 0)) 100).getD 0
@[irreducible] def fStop (v b : Int) : Int := bif fIn 0 60 v && fIn 1 10 b then stopUp v b (stopAt v b) else 0

def fLetter (c : UInt8) : Bool := (decide (97 ≤ c.toNat) && decide (c.toNat ≤ 122)) || (decide (65 ≤ c.toNat) && decide (c.toNat ≤ 90))
def fDigit (c : UInt8) : Bool := decide (48 ≤ c.toNat) && decide (c.toNat ≤ 57)
def fNameAt (s : Str) (i : Nat) : Bool := fLetter (s.getD i 0) || (!(i == 0) && fDigit (s.getD i 0))
@[irreducible] def fName (s : Str) : Bool := allTo (fNameAt s) s.length && (decide (1 ≤ s.length) && decide (s.length ≤ 8))

@[irreducible] def fAt (p : PlanD) (s : Int) : PortD × Bool := bif decide (s < 0) || decide ((p.2.2.1.length : Int) ≤ s) then ((0, 0), false) else ((p.2.2.1.getD s.toNat zS).2.1, true)

def fCross (i : Int) : Int := bif i == 0 then 1 else bif i == 1 then 0 else bif i == 2 then 3 else 2
@[irreducible] def fOuts (p : PlanD) (e i : Int) : List (Int × Int) :=
  bif !fHas p (e, i) then [] else bif fKind p e == 1 then [(1 - i, 0)] else bif fKind p e == 3 then [(fCross i, 0)] else bif fKind p e == 2 then (bif i == 0 then [(1, 1), (2, 2)] else [(0, i)]) else []
def wayOf (o : Option (Int × Int)) : Int × Bool := match o with
  | some w => (w.1, true)
  | none => (0, false)
@[irreducible] def fThrough (p : PlanD) (e i pos : Int) : Int × Bool := wayOf ((fOuts p e i).find? fun w => w.2 == 0 || w.2 == pos)
def inOf (o : Option Nat) : Int × Bool := match o with
  | some i => ((i : Int), true)
  | none => (0, false)
@[irreducible] def fFrom (p : PlanD) (e out pos : Int) : Int × Bool := inOf (firstTo (fun i => (fThrough p e (i : Int) pos).2 && (fThrough p e (i : Int) pos).1 == out) (fEnds (fKind p e)).toNat)

@[irreducible] def fTwice (l : List Str) : Bool := anyTo (fun i => anyTo (fun k => l.getD i [] == l.getD k []) i) l.length

@[irreducible] def fElemOk (e : ElemD) : Bool := fName e.1 && (!(fEnds e.2.1 == 0) && (bif e.2.1 == 4 then e.2.2 == 0 else fIn 1 4000 e.2.2))
@[irreducible] def fNums (p : PlanD) : Bool := fIn 1 60 p.2.2.2.2.1 && (fIn 1 10 p.2.2.2.2.2.1 && (fIn 1 4000 p.2.2.2.2.2.2.1 && (fIn 1 20 p.2.2.2.2.2.2.2.1 && !decide (p.1.length = 0))))
@[irreducible] def fArgs (p : PlanD) : Bool := fNums p && (p.1.all fElemOk && ((p.2.2.1.all fun s => fName s.1) && p.2.2.2.1.all fun l => fName l.1))

def joinEnds (p : PlanD) : List PortD := p.2.1.flatMap fun j => [j.1, j.2]
def endOk (p : PlanD) (i : Nat) : Bool := fHas p ((joinEnds p).getD i zP) && !anyTo (fun k => (joinEnds p).getD k zP == (joinEnds p).getD i zP) i
def gateOk (p : PlanD) (i : Nat) : Bool := bif (p.1.getD i zE).2.1 == 4 then (fNext p ((i : Int), 0)).2 && !(fKind p (fNext p ((i : Int), 0)).1.1 == 4) else true
@[irreducible] def fJoined (p : PlanD) : Bool := allTo (endOk p) (joinEnds p).length && allTo (gateOk p) p.1.length

def sigOkX (p : PlanD) (x : PortD) (i : Int) : Bool := fHas p x && ((fKind p x.1 == 1 || fKind p x.1 == 4) && ((fNext p x).2 && (!(fKind p (fNext p x).1.1 == 4) && fReads p x == i)))
def sigOk (p : PlanD) (i : Nat) : Bool := sigOkX p (p.2.2.1.getD i zS).2.1 (i : Int)
def gateSig (p : PlanD) (i : Nat) : Bool := bif (p.1.getD i zE).2.1 == 4 then decide (0 ≤ fReads p ((i : Int), 0)) else true
@[irreducible] def fSignals (p : PlanD) : Bool := allTo (sigOk p) p.2.2.1.length && allTo (gateSig p) p.1.length

def outTo (p : PlanD) (l : List Int) (e : Int) : Bool := (fNext p (l.getD 0 0, e)).2 && (fNext p (l.getD 0 0, e)).1.1 == l.getD 1 0
def fOut0 (p : PlanD) (l : List Int) : Int := bif outTo p l 0 then 0 else bif outTo p l 1 then 1 else -1
def entGo (p : PlanD) (l : List Int) (k : Nat) (out : Int) : PortD × Bool := fNext p (l.getD k 0, out)
def fEnt (p : PlanD) (l : List Int) (out : Int) : Nat → List Int × Int × Bool
  | 0 => ([1 - out], out, true)
  | k + 1 => bif (fEnt p l out k).2.2 && ((entGo p l k (fEnt p l out k).2.1).2 && (entGo p l k (fEnt p l out k).2.1).1.1 == l.getD (k + 1) 0) then
      ((fEnt p l out k).1 ++ [(entGo p l k (fEnt p l out k).2.1).1.2], 1 - (entGo p l k (fEnt p l out k).2.1).1.2, true)
    else ((fEnt p l out k).1, (fEnt p l out k).2.1, false)
@[irreducible] def fEnters (p : PlanD) (l : List Int) : List Int × Bool :=
  bif decide (l.length = 0) || !l.all (fun e => fKind p e == 1) then ([], false) else bif decide (l.length = 1) then ([0], true) else bif decide (fOut0 p l < 0) then ([], false) else
    bif (fEnt p l (fOut0 p l) (l.length - 1)).2.2 then ((fEnt p l (fOut0 p l) (l.length - 1)).1, true) else ([], false)

def metBy (p : PlanD) (i : Nat) : List Int := (p.2.2.2.1.take i).flatMap fun l => l.2
def lineNew (p : PlanD) (i k : Nat) : Bool := !fMem (metBy p i ++ (p.2.2.2.1.getD i zL).2.take k) ((p.2.2.2.1.getD i zL).2.getD k 0)
def lineOk (p : PlanD) (i : Nat) : Bool := allTo (lineNew p i) (p.2.2.2.1.getD i zL).2.length && (fEnters p (p.2.2.2.1.getD i zL).2).2
@[irreducible] def fLines (p : PlanD) : Bool := allTo (lineOk p) p.2.2.2.1.length

def sigLong (p : PlanD) (s : SignalD) : Bool := !(fKind p s.2.1.1 == 1 && decide (fLength p s.2.1.1 < p.2.2.2.2.2.2.1))
def elemLong (p : PlanD) (e : ElemD) : Bool := !(!(e.2.1 == 4) && decide (e.2.2 < p.2.2.2.2.1))
@[irreducible] def fLong (p : PlanD) : Bool := !decide (p.2.2.2.2.2.2.1 < p.2.2.2.2.1 + fStop p.2.2.2.2.1 p.2.2.2.2.2.1) && (p.2.2.1.all (sigLong p) && p.1.all (elemLong p))

@[irreducible] def fSizes (p : PlanD) : Bool := decide (p.1.length ≤ 40) && (decide (p.2.2.1.length ≤ 24) && (decide (p.2.2.2.1.length ≤ 4) && decide (p.2.1.length ≤ 80)))
@[irreducible] def fCheck (p : PlanD) : Int :=
  bif !fSizes p then 3 else bif !fArgs p then 1 else bif fTwice (p.1.map fun e => e.1) || (fTwice (p.2.2.1.map fun s => s.1) || fTwice (p.2.2.2.1.map fun l => l.1)) then 4 else
  bif !fJoined p then 6 else bif !fSignals p then 7 else bif !fLines p then 8 else bif !fLong p then 9 else 0
@[irreducible] def fFew (p : PlanD) : Bool := decide (p.1.length ≤ 60) && (decide (p.2.1.length ≤ 120) && (decide (p.2.2.1.length ≤ 60) && (decide (p.2.2.2.1.length ≤ 20) &&
  ((p.2.2.2.1.all fun l => decide (l.2.length ≤ 60) && decide (l.1.length ≤ 100)) && ((p.1.all fun e => decide (e.1.length ≤ 100)) && p.2.2.1.all fun s => decide (s.1.length ≤ 100))))))
@[irreducible] def fFine (p : PlanD) : Bool := fFew p && fCheck p == 0

def shortLines (p : PlanD) : Prop := ∀ l ∈ p.2.2.2.1, l.2.length ≤ 1000

/-- A plan that stays as it is. -/
def keepP {A B C D E F G H J : Type} (p : A × B × C × D × E × F × G × H × J) (R : Prop) : Prop :=
  p.fst = p.fst ∧ p.snd.fst = p.snd.fst ∧ p.snd.snd.fst = p.snd.snd.fst ∧ p.snd.snd.snd.fst = p.snd.snd.snd.fst ∧ p.snd.snd.snd.snd.fst = p.snd.snd.snd.snd.fst ∧ p.snd.snd.snd.snd.snd.fst = p.snd.snd.snd.snd.snd.fst ∧
  p.snd.snd.snd.snd.snd.snd.fst = p.snd.snd.snd.snd.snd.snd.fst ∧ p.snd.snd.snd.snd.snd.snd.snd.fst = p.snd.snd.snd.snd.snd.snd.snd.fst ∧ p.snd.snd.snd.snd.snd.snd.snd.snd = p.snd.snd.snd.snd.snd.snd.snd.snd ∧ R

theorem keepP_eq {A B C D E F G H J : Type} (p : A × B × C × D × E × F × G × H × J) (R : Prop) : keepP p R = R := by
  unfold keepP
  simp only [true_and]

/-! ### Contracts -/

def c9 : DCon where
  args := [.list I, .list I]
  out := .data [.bool]
  pre := fun (x : List Int × List Int × Unit) => True
  fn := fun (x : List Int × List Int × Unit) => (x.1 == x.2.1, ())
def c10 : DCon where
  args := [I]
  out := .data [.bool]
  pre := fun (x : Int × Unit) => True
  fn := fun (x : Int × Unit) => (x.1 == 1 || x.1 == 2, ())
def c15 : DCon where
  args := [I, I, I, I]
  out := .data [JoinT]
  pre := fun (x : Int × Int × Int × Int × Unit) => True
  fn := fun (x : Int × Int × Int × Int × Unit) => (((x.1, x.2.1), (x.2.2.1, x.2.2.2.1)), ())
def c27 : DCon where
  args := [I, I, I]
  out := .data [.bool]
  pre := fun (x : Int × Int × Int × Unit) => True
  fn := fun (x : Int × Int × Int × Unit) => (fIn x.2.1 x.2.2.1 x.1, ())
def c28 : DCon where
  args := [.str]
  out := .data [.bool]
  pre := fun (x : Str × Unit) => True
  fn := fun (x : Str × Unit) => (fName x.1, ())
def c29 : DCon where
  args := [I]
  out := .data [I]
  pre := fun (x : Int × Unit) => True
  fn := fun (x : Int × Unit) => (fEnds x.1, ())
def c30 : DCon where
  args := [PlanT, PortT]
  out := .data [.bool]
  pre := fun (x : PlanD × PortD × Unit) => True
  fn := fun (x : PlanD × PortD × Unit) => (fHas x.1 x.2.1, ())
def c31 : DCon where
  args := [PlanT, PortT]
  out := .data [PortT, .bool]
  pre := fun (x : PlanD × PortD × Unit) => True
  fn := fun (x : PlanD × PortD × Unit) => ((fNext x.1 x.2.1).1, (fNext x.1 x.2.1).2, ())
def c32 : DCon where
  args := [PlanT, I]
  out := .data [I]
  pre := fun (x : PlanD × Int × Unit) => True
  fn := fun (x : PlanD × Int × Unit) => (fKind x.1 x.2.1, ())
def c40 : DCon := c32
def c33 : DCon where
  args := [PlanT, PortT]
  out := .data [I]
  pre := fun (x : PlanD × PortD × Unit) => True
  fn := fun (x : PlanD × PortD × Unit) => (fReads x.1 x.2.1, ())
def c34 : DCon where
  args := [.list I, I]
  out := .data [.bool]
  pre := fun (x : List Int × Int × Unit) => True
  fn := fun (x : List Int × Int × Unit) => (fMem x.1 x.2.1, ())
def c36 : DCon where
  args := [I, I]
  out := .data [I]
  pre := fun (x : Int × Int × Unit) => True
  fn := fun (x : Int × Int × Unit) => (fStop x.1 x.2.1, ())
def c37 : DCon where
  args := [PlanT, I]
  out := .data [I]
  pre := fun (x : PlanD × Int × Unit) => True
  fn := fun (x : PlanD × Int × Unit) => (fLength x.1 x.2.1, ())
def c38 : DCon where
  args := [PlanT, I]
  out := .data [PortT, .bool]
  pre := fun (x : PlanD × Int × Unit) => True
  fn := fun (x : PlanD × Int × Unit) => ((fAt x.1 x.2.1).1, (fAt x.1 x.2.1).2, ())
def c43 : DCon where
  args := [PlanT, I, I]
  out := .data [.list WayT]
  pre := fun (x : PlanD × Int × Int × Unit) => True
  fn := fun (x : PlanD × Int × Int × Unit) => (fOuts x.1 x.2.1 x.2.2.1, ())
def c51 : DCon where
  args := [PlanT, I, I, I]
  out := .data [I, .bool]
  pre := fun (x : PlanD × Int × Int × Int × Unit) => True
  fn := fun (x : PlanD × Int × Int × Int × Unit) => ((fThrough x.1 x.2.1 x.2.2.1 x.2.2.2.1).1, (fThrough x.1 x.2.1 x.2.2.1 x.2.2.2.1).2, ())
def c47 : DCon where
  args := [PlanT, I, I, I]
  out := .data [I, .bool]
  pre := fun (x : PlanD × Int × Int × Int × Unit) => True
  fn := fun (x : PlanD × Int × Int × Int × Unit) => ((fFrom x.1 x.2.1 x.2.2.1 x.2.2.2.1).1, (fFrom x.1 x.2.1 x.2.2.1 x.2.2.2.1).2, ())
def c19 : DCon where
  args := [.list .str]
  out := .data [.bool]
  pre := fun (x : List Str × Unit) => True
  fn := fun (x : List Str × Unit) => (fTwice x.1, ())
def namesPre (p : PlanD) : Prop := p.1.length ≤ 1000 ∧ p.2.2.1.length ≤ 1000 ∧ p.2.2.2.1.length ≤ 1000
def c17 : DCon where
  args := [PlanT]
  out := .data [.list .str, .list .str, .list .str]
  pre := fun (x : PlanD × Unit) => namesPre x.1
  fn := fun (x : PlanD × Unit) => (x.1.1.map (fun e => e.1), x.1.2.2.1.map (fun s => s.1), x.1.2.2.2.1.map (fun l => l.1), ())
def c18 : DCon where
  args := [PlanT]
  out := .data [.bool]
  pre := fun (x : PlanD × Unit) => True
  fn := fun (x : PlanD × Unit) => (fArgs x.1, ())
def c20 : DCon where
  args := [PlanT]
  out := .data [.bool]
  pre := fun (x : PlanD × Unit) => x.1.2.1.length ≤ 1000
  fn := fun (x : PlanD × Unit) => (fJoined x.1, ())
def c21 : DCon where
  args := [PlanT]
  out := .data [.bool]
  pre := fun (x : PlanD × Unit) => True
  fn := fun (x : PlanD × Unit) => (fSignals x.1, ())
def c35 : DCon where
  args := [PlanT, .list I]
  out := .data [.list I, .bool]
  pre := fun (x : PlanD × List Int × Unit) => fJoined x.1 = true ∧ x.2.1.length ≤ 1000
  fn := fun (x : PlanD × List Int × Unit) => ((fEnters x.1 x.2.1).1, (fEnters x.1 x.2.1).2, ())
def c22 : DCon where
  args := [PlanT]
  out := .data [.bool]
  pre := fun (x : PlanD × Unit) => fJoined x.1 = true ∧ shortLines x.1 ∧ x.1.2.2.2.1.length ≤ 1000
  fn := fun (x : PlanD × Unit) => (fLines x.1, ())
def c23 : DCon where
  args := [PlanT]
  out := .data [.bool]
  pre := fun (x : PlanD × Unit) => fNums x.1 = true
  fn := fun (x : PlanD × Unit) => (fLong x.1, ())
def c12 : DCon where
  args := [PlanT]
  out := .data [I]
  pre := fun (x : PlanD × Unit) => shortLines x.1
  fn := fun (x : PlanD × Unit) => (fCheck x.1, ())
def c16 : DCon where
  args := [PlanT]
  out := .data [.bool]
  pre := fun (x : PlanD × Unit) => True
  fn := fun (x : PlanD × Unit) => (fFew x.1, ())
def c11 : DCon where
  args := [PlanT]
  out := .data [.bool]
  pre := fun (x : PlanD × Unit) => True
  fn := fun (x : PlanD × Unit) => (fFine x.1, ())

end Ytpnnfimacblhgaa
end Go.Proofs
