/-
  Annotations: what is read.
-/
import Derived.Test.YtjmmamlipkbckaaVnh
set_option maxRecDepth 100000
set_option linter.unusedVariables false
namespace Go.Proofs
open Go Go.Vc

namespace Ytjmmamlipkbckaa

def blkCell (S : St) (n i : Nat) : C :=
  match find S.bl n with
  | some (.cells cs) => cs.getD i .nilsl
  | _ => .nilsl

def blkInts (S : St) (n : Nat) : List Int :=
  match find S.bl n with
  | some (.cells [.dat (.list (.int _)) x]) => x
  | _ => []

def blkBool (S : St) (n : Nat) : Bool :=
  match find S.bl n with
  | some (.cells [.dat .bool x]) => x
  | _ => false

def cellsSt (s : StD) : List (Nat × Blk) := [(1, .cells [.dat (.list U8) s.1]), (4, .cells [.dat .bool s.2])]

def a31 (x : List Int × Unit) : Ann := loopAnn [(8, fun S => {
  σ := Nat
  ok := fun k => k ≤ (fH4 x.1).1.toNat
  mu := fun k => (fH4 x.1).1.toNat - k
  sl := fun k => [(11, .one (.row NoteT 1000)), (12, .one (.dat I (k : Int)))]
  bl := fun k => [(1000, .row false 42 NoteT (fNotesUp (fH1 x.1).1 (fH2 x.1).1 (fH3 x.1).1 (fH4 x.1).2 k).1),
    (1, .cells [.dat (.list U8) (fNotesUp (fH1 x.1).1 (fH2 x.1).1 (fH3 x.1).1 (fH4 x.1).2 k).2.1]), (4, .cells [.dat .bool (fNotesUp (fH1 x.1).1 (fH2 x.1).1 (fH3 x.1).1 (fH4 x.1).2 k).2.2])]
  keep := [1, 4, 5, 6, 7, 8, 9, 10]
  keepB := [5] }), (12, fun S => {
  σ := Nat
  ok := fun k => k ≤ (fH3 x.1).1.toNat
  mu := fun k => (fH3 x.1).1.toNat - k
  sl := fun k => [(14, .one (.dat I (k : Int)))]
  bl := fun k => [(13, .cells [blkCell S 13 0, blkCell S 13 1, .row BodyT 1001]), (1001, .row false 39 BodyT (fBodies (blkInts S 1, blkBool S 4) k).1),
    (1, .cells [.dat (.list U8) (fBodies (blkInts S 1, blkBool S 4) k).2.1]), (4, .cells [.dat .bool (fBodies (blkInts S 1, blkBool S 4) k).2.2])]
  keep := [1, 4, 5, 6, 7, 8, 9, 10, 11, 12, 13]
  keepB := [5, 1000] }), (16, fun S => {
  σ := Nat
  ok := fun k => k ≤ (slotI S 16).toNat
  mu := fun k => (slotI S 16).toNat - k
  sl := fun k => [(16, .one (.dat I (slotI S 16 - (k : Int))))]
  bl := fun k => [(15, .cells [blkCell S 15 0, .row PortT 1002, blkCell S 15 2, blkCell S 15 3, blkCell S 15 4]), (1002, .row false 36 PortT (fTrail (blkInts S 1, blkBool S 4) k).1),
    (1, .cells [.dat (.list U8) (fTrail (blkInts S 1, blkBool S 4) k).2.1]), (4, .cells [.dat .bool (fTrail (blkInts S 1, blkBool S 4) k).2.2])]
  keep := [1, 4, 5, 6, 7, 8, 9, 10, 11, 12, 13, 14, 15]
  keepB := [5, 1000, 1001, 13] })]

/-! ### The law's own -/

def c7 : DCon where
  args := []
  out := .data [.bool]
  pre := fun (x : Unit) => True
  fn := fun (x : Unit) => (true, ())

/-- A law: whatever the arguments, it answers 'true'. -/
def lawCon (ts : List Ty) : DCon where
  args := ts
  out := .data [.bool]
  pre _ := True
  fn _ := (true, ())

def c3 : DCon := lawCon [.list NoteT]
def c4 : DCon := lawCon [.list U8]
def c5 : DCon := lawCon [.list NoteT, I, U8, .list U8]
def c6 : DCon := lawCon [.list NoteT, .list NoteT]

end Ytjmmamlipkbckaa
end Go.Proofs
