/-
  Contracts of the notes' functions.
-/
import Derived.Test.YtjmmamlipkbckaaVna
set_option maxRecDepth 100000
set_option linter.unusedVariables false
namespace Go.Proofs
open Go Go.Vc

namespace Ytjmmamlipkbckaa
abbrev I := Ty.int .i64
abbrev U8 := Ty.int .u8
abbrev PortT : Ty := .pair I I
abbrev BodyT : Ty := .pair I (.pair (.list PortT) (.pair I (.pair I I)))
abbrev NoteT : Ty := .pair (.list I) (.pair (.list I) (.list BodyT))
abbrev PortD := Int × Int
abbrev BodyD := Int × List PortD × Int × Int × Int
abbrev NoteD := List Int × List Int × List BodyD

def short {α : Type} (xs : List α) : Prop := xs.length ≤ 1000000
def shortN (x : NoteD) : Prop := short x.1 ∧ short x.2.1 ∧ short x.2.2 ∧ ∀ b ∈ x.2.2, short b.2.1
def shortL (l : List NoteD) : Prop := short l ∧ ∀ x ∈ l, shortN x
def shortBs (l : List BodyD) : Prop := short l ∧ ∀ b ∈ l, short b.2.1

def fIn (lo hi n : Int) : Bool := decide (lo ≤ n) && decide (n ≤ hi)

def c38 : DCon where
  args := [I, I, I]
  out := .data [.bool]
  pre := fun (x : Int × Int × Int × Unit) => True
  fn := fun (x : Int × Int × Int × Unit) => (fIn x.2.1 x.2.2.1 x.1, ())

def allLoop {α : Type} (p : α → Bool) (xs : List α) (slot : Nat) (keep : List Nat) : LA where
  σ := Nat
  ok := fun k => k ≤ xs.length ∧ (xs.take k).all p = true
  mu := fun k => xs.length - k
  sl := fun k => [(slot, .one (.dat I (k : Int)))]
  bl := fun _ => []
  keep := keep
  keepB := []

def findLoop {α : Type} (p : α → Bool) (xs : List α) (slot : Nat) (keep : List Nat) : LA where
  σ := Nat
  ok := fun k => k ≤ xs.length ∧ (xs.take k).any p = false
  mu := fun k => xs.length - k
  sl := fun k => [(slot, .one (.dat I (k : Int)))]
  bl := fun _ => []
  keep := keep
  keepB := []

def fFind {α : Type} (p : α → Bool) (xs : List α) : Int := if xs.any p then ((xs.findIdx p : Nat) : Int) else -1

def c22 : DCon where
  args := [.list I, I, I]
  out := .data [.bool]
  pre := fun (x : List Int × Int × Int × Unit) => short x.1
  fn := fun (x : List Int × Int × Int × Unit) => (x.1.all (fIn x.2.1 x.2.2.1), ())

def a22 (x : List Int × Int × Int × Unit) : Ann := loopAnn [(2, fun _ => allLoop (fIn x.2.1 x.2.2.1) x.1 11 [1, 2, 9, 10])]

def c36 : DCon where
  args := [I, .ref I]
  out := .data [.bool]
  pre := fun (x : Int × Int × Unit) => True
  fn := fun (x : Int × Int × Unit) => (!fIn 0 x.2.1 x.1, ())

abbrev CloT : Ty := .clo 36 (.pair (.ref I) .unit)

def c370043 : DCon where
  args := [.list I, CloT]
  out := .data [I]
  pre := fun (x : List Int × (Int × Unit) × Unit) => short x.1
  fn := fun (x : List Int × (Int × Unit) × Unit) => (fFind (fun n => !fIn 0 x.2.1.1 n) x.1, ())

def a370043 (x : List Int × (Int × Unit) × Unit) : Ann := loopAnn [(2, fun _ => findLoop (fun n => !fIn 0 x.2.1.1 n) x.1 8 [0, 1, 7])]

def c370035 : DCon where
  args := [.list I, CloT]
  out := .data [.bool]
  pre := fun (x : List Int × (Int × Unit) × Unit) => short x.1
  fn := fun (x : List Int × (Int × Unit) × Unit) => (x.1.any (fun n => !fIn 0 x.2.1.1 n), ())

def c18 : DCon where
  args := [I, .list I]
  out := .data [.bool]
  pre := fun (x : Int × List Int × Unit) => short x.2.1
  fn := fun (x : Int × List Int × Unit) => (x.2.1.all (fIn 0 x.1), ())

/-! ### Which bodies, which notes may be -/

def fPort (h : PortD) : Bool := fIn 0 39 h.1 && fIn 0 3 h.2
@[irreducible] def fBody (b : BodyD) : Bool := decide (b.2.1.length ≤ 5000) && (fIn 1 4 b.1 && (fIn 0 4000 b.2.2.1 && (fIn 0 4000 b.2.2.2.1 && (fIn 0 60 b.2.2.2.2 && b.2.1.all fPort))))
@[irreducible] def fNote (d x : NoteD) : Bool := decide (x.1.length = d.1.length) && (decide (x.2.1.length = d.2.1.length) && (decide (x.2.2.length = d.2.2.length) && (decide (x.1.length ≤ 40) && (decide (x.2.1.length ≤ 24) && (decide (x.2.2.length ≤ 8) && (x.1.all (fIn 0 2) && (x.2.1.all (fIn 0 2) && x.2.2.all fBody)))))))
def zeroN : NoteD := ([], [], [])
def fMay (l : List NoteD) : Bool := decide (l.length ≤ 2001) && l.all (fNote (l.getD 0 zeroN))

def c23 : DCon where
  args := [BodyT]
  out := .data [.bool]
  pre := fun (x : BodyD × Unit) => True
  fn := fun (x : BodyD × Unit) => (fBody x.1, ())

def c21 : DCon where
  args := [BodyT]
  out := .data [.bool]
  pre := fun (x : BodyD × Unit) => short x.1.2.1
  fn := fun (x : BodyD × Unit) => (fBody x.1, ())

def c20 : DCon where
  args := [BodyT]
  out := .data [.bool]
  pre := fun (x : BodyD × Unit) => short x.1.2.1
  fn := fun (x : BodyD × Unit) => (!fBody x.1, ())

abbrev CloB : Ty := .clo 20 .unit

def c210037 : DCon where
  args := [.list BodyT, CloB]
  out := .data [I]
  pre := fun (x : List BodyD × Unit × Unit) => shortBs x.1
  fn := fun (x : List BodyD × Unit × Unit) => (fFind (fun n => !fBody n) x.1, ())

def a210037 (x : List BodyD × Unit × Unit) : Ann := loopAnn [(2, fun _ => findLoop (fun n => !fBody n) x.1 8 [0, 1, 7])]

def c210019 : DCon where
  args := [.list BodyT, CloB]
  out := .data [.bool]
  pre := fun (x : List BodyD × Unit × Unit) => shortBs x.1
  fn := fun (x : List BodyD × Unit × Unit) => (x.1.any (fun n => !fBody n), ())

def c10 : DCon where
  args := [.list NoteT]
  out := .data [.bool]
  pre := fun (x : List NoteD × Unit) => shortL x.1
  fn := fun (x : List NoteD × Unit) => (fMay x.1, ())

def c11 : DCon := c10

/-! ### Equality -/

def sameUp {α : Type} (xs ys : List α) (k : Nat) : Prop := xs.length = ys.length ∧ xs.take k = ys.take k

def eqAnn {α : Type} (xs ys : List α) (slot : Nat) (keep : List Nat) : Ann := loopAnn [(4, fun _ => {
  σ := Nat
  ok := fun k => k ≤ xs.length ∧ sameUp xs ys k
  mu := fun k => xs.length - k
  sl := fun k => [(slot, .one (.dat I (k : Int)))]
  bl := fun _ => []
  keep := keep
  keepB := [] })]

def c33 : DCon where
  args := [.list I, .list I]
  out := .data [.bool]
  pre := fun (x : List Int × List Int × Unit) => short x.1
  fn := fun (x : List Int × List Int × Unit) => (x.1 == x.2.1, ())

def c28 : DCon := c33

def c32 : DCon where
  args := [.list U8, .list U8]
  out := .data [.bool]
  pre := fun (x : List Int × List Int × Unit) => x.1.length ≤ 1000000000
  fn := fun (x : List Int × List Int × Unit) => (x.1 == x.2.1, ())

def c39 : DCon where
  args := [.list PortT, .list PortT]
  out := .data [.bool]
  pre := fun (x : List PortD × List PortD × Unit) => short x.1
  fn := fun (x : List PortD × List PortD × Unit) => (x.1 == x.2.1, ())

def c44 : DCon := c39

def a33 (x : List Int × List Int × Unit) : Ann := eqAnn x.1 x.2.1 5 [0, 1]
def a28 (x : List Int × List Int × Unit) : Ann := eqAnn x.1 x.2.1 13 [0, 1, 12]
def a32 (x : List Int × List Int × Unit) : Ann := eqAnn x.1 x.2.1 13 [0, 1, 12]
def a39 (x : List PortD × List PortD × Unit) : Ann := eqAnn x.1 x.2.1 13 [0, 1, 12]
def a44 (x : List PortD × List PortD × Unit) : Ann := eqAnn x.1 x.2.1 5 [0, 1]

def c42 : DCon where
  args := [BodyT, BodyT]
  out := .data [.bool]
  pre := fun (x : BodyD × BodyD × Unit) => short x.1.2.1
  fn := fun (x : BodyD × BodyD × Unit) => (x.1 == x.2.1, ())

def c30 : DCon := c42

def c34 : DCon where
  args := [.list BodyT, .list BodyT]
  out := .data [.bool]
  pre := fun (x : List BodyD × List BodyD × Unit) => shortBs x.1
  fn := fun (x : List BodyD × List BodyD × Unit) => (x.1 == x.2.1, ())

def c15 : DCon where
  args := [.list NoteT, .list NoteT]
  out := .data [.bool]
  pre := fun (x : List NoteD × List NoteD × Unit) => shortL x.1
  fn := fun (x : List NoteD × List NoteD × Unit) => (x.1 == x.2.1, ())

def c13 : DCon := c15

abbrev CloS : Ty := .clo 30 .unit
abbrev CloN : Ty := .clo 27 .unit

def c310029 : DCon where
  args := [.list BodyT, .list BodyT, CloS]
  out := .data [.bool]
  pre := fun (x : List BodyD × List BodyD × Unit × Unit) => shortBs x.1
  fn := fun (x : List BodyD × List BodyD × Unit × Unit) => (x.1 == x.2.1, ())

def c27 : DCon where
  args := [NoteT, NoteT]
  out := .data [.bool]
  pre := fun (x : NoteD × NoteD × Unit) => shortN x.1
  fn := fun (x : NoteD × NoteD × Unit) => (x.1 == x.2.1, ())

def c280026 : DCon where
  args := [.list NoteT, .list NoteT, CloN]
  out := .data [.bool]
  pre := fun (x : List NoteD × List NoteD × Unit × Unit) => shortL x.1
  fn := fun (x : List NoteD × List NoteD × Unit × Unit) => (x.1 == x.2.1, ())

def c8 : DCon where
  args := [.list NoteT]
  out := .data [.bool]
  pre := fun (x : List NoteD × Unit) => True
  fn := fun (x : List NoteD × Unit) => (decide (x.1.length ≤ 40) && x.1.all fun n => decide (n.1.length ≤ 100) && (decide (n.2.1.length ≤ 100) && (decide (n.2.2.length ≤ 20) && n.2.2.all fun b => decide (b.2.1.length ≤ 200))), ())

/-! ### Loops -/

def eqAnnK {α : Type} (xs ys : List α) (slot : Nat) (keep : List Nat) : Ann := eqAnn xs ys slot keep

def a34 (x : List BodyD × List BodyD × Unit) : Ann := eqAnn x.1 x.2.1 13 [0, 1, 12]
def a15 (x : List NoteD × List NoteD × Unit) : Ann := eqAnn x.1 x.2.1 13 [0, 1, 12]
def a310029 (x : List BodyD × List BodyD × Unit × Unit) : Ann := eqAnn x.1 x.2.1 17 [1, 2, 15, 16]
def a280026 (x : List NoteD × List NoteD × Unit × Unit) : Ann := eqAnn x.1 x.2.1 17 [1, 2, 15, 16]
def a23 (x : BodyD × Unit) : Ann := loopAnn [(4, fun _ => allLoop fPort x.1.2.1 36 [34, 35])]
def a21 (x : BodyD × Unit) : Ann := loopAnn [(2, fun _ => {
  σ := Nat
  ok := fun k => k ≤ x.1.2.1.length ∧ (x.1.2.1.take k).all fPort = true
  mu := fun k => x.1.2.1.length - k
  sl := fun k => [(8, .one (.dat I (k : Int)))]
  bl := fun _ => []
  keep := [1, 6, 7]
  keepB := [1] })]

/-- A slot's number. -/
def slotI (S : St) (n : Nat) : Int :=
  match find S.sl n with
  | some (_, .one (.dat (.int _) x)) => Ty.I x
  | _ => 0

def a10 (x : List NoteD × Unit) : Ann := loopAnn [(4, fun _ => allLoop (fNote (x.1.getD 0 zeroN)) x.1 10 [0, 8, 9])]
def a11 (x : List NoteD × Unit) : Ann := loopAnn [(4, fun _ => allLoop (fNote (x.1.getD 0 zeroN)) x.1 12 [0, 10, 11])]
def fFewN (n : NoteD) : Bool := decide (n.1.length ≤ 100) && (decide (n.2.1.length ≤ 100) && (decide (n.2.2.length ≤ 20) && n.2.2.all fun b => decide (b.2.1.length ≤ 200)))
def a8 (x : List NoteD × Unit) : Ann := loopAnn [(4, fun _ => allLoop fFewN x.1 12 [10, 11])]

end Ytjmmamlipkbckaa
end Go.Proofs
