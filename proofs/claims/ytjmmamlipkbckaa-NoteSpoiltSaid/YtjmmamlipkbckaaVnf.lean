/-
  Contracts of the notes' functions, second part: sums, the log, what is read.
-/
import Derived.Test.YtjmmamlipkbckaaVnb
set_option maxRecDepth 100000
set_option linter.unusedVariables false
namespace Go.Proofs
open Go Go.Vc

namespace Ytjmmamlipkbckaa
abbrev U32 := Ty.int .u32

/-! ### Sums -/

def fSumUp (b : List Int) : Nat → Int
  | 0 => 0
  | s + 1 => (fSumUp b s + b.getD s 0 * (2 * (s : Int) + 1)) % 4294967296
def fSum (b : List Int) : Int := fSumUp b b.length

def c17 : DCon where
  args := [.list U8]
  out := .data [U32]
  pre := fun (x : List Int × Unit) => x.1.length ≤ 1000000000
  fn := fun (x : List Int × Unit) => (fSum x.1, ())

def sumLoop (b : List Int) (keep : List Nat) (keepB : List Nat) : LA where
  σ := Nat
  ok := fun k => k ≤ b.length
  mu := fun k => b.length - k
  sl := fun k => [(3, .one (.dat U32 (fSumUp b k))), (8, .one (.dat I (k : Int)))]
  bl := fun _ => []
  keep := keep
  keepB := keepB

def a17 (x : List Int × Unit) : Ann := loopAnn [(3, fun _ => sumLoop x.1 [6, 7] [])]

def fFour (n : Int) : List Int := [n / 16777216 % 256, n / 65536 % 256, n / 256 % 256, n % 256]
def fTwo (n : Int) : List Int := [n / 256 % 256, n % 256]

def c25 : OCon where
  args := [.gone (.row 5 U8)]
  outs := [.row 5 U8]
  pre := fun (x : List Int × Unit) => x.1.length ≤ 1000000000
  fn := fun (x : List Int × Unit) => (x.1 ++ fFour (fSum x.1), ())

def a25 (x : List Int × Unit) : Ann := loopAnn [(3, fun _ => sumLoop x.1 [0, 6, 7] [1000000])]

def c24 : OCon where
  args := [.gone (.row 5 U8), .dat I]
  outs := [.row 5 U8]
  pre := fun (x : List Int × Int × Unit) => x.1.length ≤ 1000000000 ∧ 0 ≤ x.2.1
  fn := fun (x : List Int × Int × Unit) => (x.1 ++ fTwo x.2.1, ())

/-! ### Bytes of numbers -/

/-- So many bytes of a number, the greatest first. -/
def fBytes : Nat → Int → List Int
  | 0, _ => []
  | s + 1, x => (x / 256 ^ s % 256) :: fBytes s x

def c16 : OCon where
  args := [.dat I, .dat (.list I), .cells true (.row 5 U8)]
  outs := []
  pre := fun (x : Int × List Int × List Int × Unit) => 0 ≤ x.1 ∧ x.1 ≤ 4 ∧ x.2.1.length ≤ 1000000 ∧ x.2.2.1.length ≤ 1000000000
  fn := fun _ => ()
  upd := fun (x : Int × List Int × List Int × Unit) => (x.1, x.2.1, x.2.2.1 ++ x.2.1.flatMap (fBytes x.1.toNat), ())

/-! ### The log -/

@[irreducible] def fPorts (l : List PortD) : List Int := l.flatMap fun h => fBytes 1 h.1 ++ fBytes 1 h.2
@[irreducible] def fBodyLog (b : BodyD) : List Int := fBytes 1 b.1 ++ fBytes 2 b.2.1.length ++ fPorts b.2.1 ++ (fBytes 2 b.2.2.1 ++ fBytes 2 b.2.2.2.1) ++ fBytes 1 b.2.2.2.2
@[irreducible] def fNoteLog (x : NoteD) : List Int := x.1.flatMap (fBytes 1) ++ x.2.1.flatMap (fBytes 1) ++ x.2.2.flatMap fBodyLog
@[irreducible] def fHead (l : List NoteD) : List Int := [83, 69, 77] ++ (fBytes 1 (l.getD 0 zeroN).1.length ++ fBytes 1 (l.getD 0 zeroN).2.1.length ++ fBytes 1 (l.getD 0 zeroN).2.2.length) ++ fBytes 2 l.length
@[irreducible] def fLogBody (l : List NoteD) : List Int := fHead l ++ l.flatMap fNoteLog
@[irreducible] def fLog (l : List NoteD) : List Int := bif fMay l then fLogBody l ++ fBytes 4 (fSum (fLogBody l)) else []

def c9 : DCon where
  args := [.list NoteT]
  out := .data [.list U8]
  pre := fun (x : List NoteD × Unit) => shortL x.1
  fn := fun (x : List NoteD × Unit) => (fLog x.1, ())

def c12 : DCon := c9

/-! ### What is read -/

abbrev StD := List Int × Bool

/-- The number that so many bytes are. -/
def fVal (b : List Int) : Int := b.foldl (fun x c => x * 256 + c) 0
@[irreducible] def fTake (n : Nat) (s : StD) : Int × StD := bif decide (s.1.length < n) then (0, [], true) else (fVal (s.1.take n), s.1.drop n, s.2)

def c40 : OCon where
  args := [.dat I, .cells true (.dat (.list U8)), .cells true (.dat .bool)]
  outs := [.dat I]
  pre := fun (x : Int × List Int × Bool × Unit) => 0 ≤ x.1 ∧ x.1 ≤ 4
  fn := fun (x : Int × List Int × Bool × Unit) => ((fTake x.1.toNat (x.2.1, x.2.2.1)).1, ())
  upd := fun (x : Int × List Int × Bool × Unit) => (x.1, (fTake x.1.toNat (x.2.1, x.2.2.1)).2.1, (fTake x.1.toNat (x.2.1, x.2.2.1)).2.2, ())

/-- A row of numbers, as far as there are bytes. -/
def fRow (s : StD) : Nat → List Int × StD
  | 0 => ([], s)
  | k + 1 => bif (fRow s k).2.2 then fRow s k else ((fRow s k).1 ++ [(fTake 1 (fRow s k).2).1], (fTake 1 (fRow s k).2).2)

def c41 : OCon where
  args := [.dat I, .cells true (.mclo 40 (.pair (.cells true (.dat (.list U8))) (.pair (.cells true (.dat .bool)) .unit)))]
  outs := [.dat (.list I)]
  pre := fun (x : Int × (List Int × Bool × Unit) × Unit) => x.1 ≤ 1000
  fn := fun (x : Int × (List Int × Bool × Unit) × Unit) => ((fRow (x.2.1.1, x.2.1.2.1) x.1.toNat).1, ())
  upd := fun (x : Int × (List Int × Bool × Unit) × Unit) => (x.1, ((fRow (x.2.1.1, x.2.1.2.1) x.1.toNat).2.1, (fRow (x.2.1.1, x.2.1.2.1) x.1.toNat).2.2, ()), ())
  al := some (1, [1, 0, 2, 1, 0])

end Ytjmmamlipkbckaa
end Go.Proofs
