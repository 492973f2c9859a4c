/-
  Annotations of the great loops: the log, the reference's log, what is read.
-/
import Derived.Test.YtjmmamlipkbckaaVng
set_option maxRecDepth 100000
set_option linter.unusedVariables false
namespace Go.Proofs
open Go Go.Vc

namespace Ytjmmamlipkbckaa

/-- The row that a variable holds. -/
def blkRowIn (S : St) (n : Nat) : List Int :=
  match find S.bl n with
  | some (.cells [.row _ b]) => blkIs S b
  | _ => []

def slotRow (S : St) (n : Nat) : List Int :=
  match find S.sl n with
  | some (_, .one (.row _ b)) => blkIs S b
  | _ => []

def slotPorts (S : St) (n : Nat) : List PortD :=
  match find S.sl n with
  | some (_, .one (.dat (.list (.pair (.int _) (.int _))) xs)) => xs
  | _ => []

def slotBodies (S : St) (n : Nat) : List BodyD :=
  match find S.sl n with
  | some (_, .one (.dat (.list (.pair (.int _) (.pair (.list (.pair (.int _) (.int _))) (.pair (.int _) (.pair (.int _) (.int _)))))) xs)) => xs
  | _ => []

def slotInts (S : St) (n : Nat) : List Int :=
  match find S.sl n with
  | some (_, .one (.dat (.list (.int _)) xs)) => xs
  | _ => []

def a9 (x : List NoteD × Unit) : Ann := loopAnn [(10, fun S => {
  σ := Nat
  ok := fun k => k ≤ x.1.length
  mu := fun k => x.1.length - k
  sl := fun k => [(47, .one (.dat I (k : Int)))]
  bl := fun k => [(3, .cells [.row U8 1000]), (1000, .row false 5 U8 (fHead x.1 ++ (x.1.take k).flatMap fNoteLog))]
  keep := [0, 3, 4, 45, 46]
  keepB := [] }), (15, fun S => {
  σ := Nat
  ok := fun k => k ≤ (slotBodies S 60).length
  mu := fun k => (slotBodies S 60).length - k
  sl := fun k => [(62, .one (.dat I (k : Int)))]
  bl := fun k => [(3, .cells [.row U8 1001]), (1001, .row false 5 U8 (blkRowIn S 3 ++ ((slotBodies S 60).take k).flatMap fBodyLog))]
  keep := [0, 3, 4, 45, 46, 47, 60, 61]
  keepB := [] }), (20, fun S => {
  σ := Nat
  ok := fun k => k ≤ (slotPorts S 78).length
  mu := fun k => (slotPorts S 78).length - k
  sl := fun k => [(80, .one (.dat I (k : Int)))]
  bl := fun k => [(3, .cells [.row U8 1002]), (1002, .row false 5 U8 (blkRowIn S 3 ++ fPorts ((slotPorts S 78).take k)))]
  keep := [0, 3, 4, 8, 45, 46, 47, 60, 61, 62, 78, 79]
  keepB := [8] })] [18]

def a12 (x : List NoteD × Unit) : Ann := loopAnn [(8, fun S => {
  σ := Nat
  ok := fun k => k ≤ x.1.length
  mu := fun k => x.1.length - k
  sl := fun k => [(3, .one (.row U8 1000)), (46, .one (.dat I (k : Int)))]
  bl := fun k => [(1000, .row false 5 U8 (fHead x.1 ++ (x.1.take k).flatMap fNoteLog))]
  keep := [0, 44, 45]
  keepB := [] }), (11, fun S => {
  σ := Nat
  ok := fun k => k ≤ (slotInts S 51).length
  mu := fun k => (slotInts S 51).length - k
  sl := fun k => [(3, .one (.row U8 1001)), (53, .one (.dat I (k : Int)))]
  bl := fun k => [(1001, .row false 5 U8 (slotRow S 3 ++ ((slotInts S 51).take k).flatMap (fBytes 1)))]
  keep := [0, 5, 44, 45, 46, 51, 52]
  keepB := [5] }), (16, fun S => {
  σ := Nat
  ok := fun k => k ≤ (slotInts S 64).length
  mu := fun k => (slotInts S 64).length - k
  sl := fun k => [(3, .one (.row U8 1002)), (66, .one (.dat I (k : Int)))]
  bl := fun k => [(1002, .row false 5 U8 (slotRow S 3 ++ ((slotInts S 64).take k).flatMap (fBytes 1)))]
  keep := [0, 5, 44, 45, 46, 64, 65]
  keepB := [5] }), (21, fun S => {
  σ := Nat
  ok := fun k => k ≤ (slotBodies S 77).length
  mu := fun k => (slotBodies S 77).length - k
  sl := fun k => [(3, .one (.row U8 1003)), (79, .one (.dat I (k : Int)))]
  bl := fun k => [(1003, .row false 5 U8 (slotRow S 3 ++ ((slotBodies S 77).take k).flatMap fBodyLog))]
  keep := [0, 44, 45, 46, 77, 78]
  keepB := [] }), (25, fun S => {
  σ := Nat
  ok := fun k => k ≤ (slotPorts S 94).length
  mu := fun k => (slotPorts S 94).length - k
  sl := fun k => [(3, .one (.row U8 1004)), (96, .one (.dat I (k : Int)))]
  bl := fun k => [(1004, .row false 5 U8 (slotRow S 3 ++ fPorts ((slotPorts S 94).take k)))]
  keep := [0, 11, 44, 45, 46, 77, 78, 79, 94, 95]
  keepB := [11] })] [20]

/-! ### Notes -/

def fTrail (s : StD) : Nat → List PortD × StD
  | 0 => ([], s)
  | k + 1 => bif (fTrail s k).2.2 then fTrail s k else ((fTrail s k).1 ++ [((fTake 1 (fTrail s k).2).1, (fTake 1 (fTake 1 (fTrail s k).2).2).1)], (fTake 1 (fTake 1 (fTrail s k).2).2).2)

/-- A body's trail is read behind its mode and how long it is. -/
@[irreducible] def fMode (s : StD) : Int × StD := fTake 1 s
@[irreducible] def fMany (s : StD) : Int × StD := fTake 2 (fMode s).2
@[irreducible] def fTr (s : StD) : List PortD × StD := fTrail (fMany s).2 (fMany s).1.toNat
@[irreducible] def fLeft (s : StD) : Int × StD := fTake 2 (fTr s).2
@[irreducible] def fOver (s : StD) : Int × StD := fTake 2 (fLeft s).2
@[irreducible] def fV (s : StD) : Int × StD := fTake 1 (fOver s).2
@[irreducible] def fBodyR (s : StD) : BodyD × StD := (((fMode s).1, (fTr s).1, (fLeft s).1, (fOver s).1, (fV s).1), (fV s).2)

def fBodies (s : StD) : Nat → List BodyD × StD
  | 0 => ([], s)
  | k + 1 => bif (fBodies s k).2.2 then fBodies s k else ((fBodies s k).1 ++ [(fBodyR (fBodies s k).2).1], (fBodyR (fBodies s k).2).2)

@[irreducible] def fNoteR (e g t : Int) (s : StD) : NoteD × StD :=
  (((fRow s e.toNat).1, (fRow (fRow s e.toNat).2 g.toNat).1, (fBodies (fRow (fRow s e.toNat).2 g.toNat).2 t.toNat).1), (fBodies (fRow (fRow s e.toNat).2 g.toNat).2 t.toNat).2)

def fNotesUp (e g t : Int) (s : StD) : Nat → List NoteD × StD
  | 0 => ([], s)
  | k + 1 => bif (fNotesUp e g t s k).2.2 then fNotesUp e g t s k else ((fNotesUp e g t s k).1 ++ [(fNoteR e g t (fNotesUp e g t s k).2).1], (fNoteR e g t (fNotesUp e g t s k).2).2)

@[irreducible] def fH0 (b : List Int) : StD := (fTake 3 (b, false)).2
@[irreducible] def fH1 (b : List Int) : Int × StD := fTake 1 (fH0 b)
@[irreducible] def fH2 (b : List Int) : Int × StD := fTake 1 (fH1 b).2
@[irreducible] def fH3 (b : List Int) : Int × StD := fTake 1 (fH2 b).2
@[irreducible] def fH4 (b : List Int) : Int × StD := fTake 2 (fH3 b).2
@[irreducible] def fNotesAll (b : List Int) : List NoteD × StD := fNotesUp (fH1 b).1 (fH2 b).1 (fH3 b).1 (fH4 b).2 (fH4 b).1.toNat
@[irreducible] def fNotes (b : List Int) : List NoteD × Bool := ((fNotesAll b).1, !(fNotesAll b).2.2)

def c31 : DCon where
  args := [.list U8]
  out := .data [.list NoteT, .bool]
  pre := fun (x : List Int × Unit) => x.1.length ≤ 1000000000
  fn := fun (x : List Int × Unit) => ((fNotes x.1).1, (fNotes x.1).2, ())

@[irreducible] def fRead (b : List Int) : List NoteD × Int :=
  bif (fNotes b).2 && (!decide (b.length = 0) && (fLog (fNotes b).1 == b)) then ((fNotes b).1, 0) else ([], 2)

def c14 : DCon where
  args := [.list U8]
  out := .data [.list NoteT, I]
  pre := fun (x : List Int × Unit) => x.1.length ≤ 1000000000
  fn := fun (x : List Int × Unit) => ((fRead x.1).1, (fRead x.1).2, ())

end Ytjmmamlipkbckaa
end Go.Proofs
