/-
  The laws' contracts.
-/
import Derived.Test.YtpjgggcaamigdaaVti
set_option maxRecDepth 100000
set_option linter.unusedVariables false
namespace Go.Proofs
open Go.Vc
namespace Ytpjgggcaamigdaa

/-- A law: whatever the arguments, it answers 'true'. -/
def lawCon (ts : List Ty) : DCon where
  args := ts
  out := .data [.bool]
  pre _ := True
  fn _ := (true, ())

def c3 : DCon := lawCon [LifeT, ViewT]

def c4 : DCon := lawCon [I, .list ViewT]

def a4 (x : Int × List ViewD × Unit) : Ann := loopAnn [(9, fun _ => {
  σ := Nat × LifeD
  ok := fun s => s.1 ≤ x.2.1.length ∧ s.2.2.2.2.length ≤ 12
  mu := fun s => x.2.1.length - s.1
  sl := fun s => [(7, .one (.dat I (s.1 : Int)))]
  bl := fun s => [(5, .cells (flat LifeT s.2)), (6, .cells (flat LifeT s.2))]
  keep := [1, 5, 6]
  keepB := [] })]

/-- What holds of a life on its way. -/
def good (n : Nat) (l : LifeD) (off : Bool) : Prop :=
  l.1 = 0 ∨ (1 ≤ l.1 ∧ l.1 ≤ 3 ∧ l.2.2.2.length = n ∧ 0 ≤ l.2.1 ∧ l.2.1 < n ∧ l.2.2.1 = off ∧ (l.1 ≠ 3 → l.2.1 = 0))

def c8 : DCon := lawCon [.int .u8, .list ViewT]

def a8 (x : Int × List ViewD × Unit) : Ann := loopAnn [(9, fun _ => {
  σ := Nat × LifeD × Bool
  ok := fun s => s.1 ≤ x.2.1.length ∧ s.2.1.2.2.2.length ≤ 12 ∧ good (x.1.tmod 12 + 1).toNat s.2.1 s.2.2
  mu := fun s => x.2.1.length - s.1
  sl := fun s => [(8, .one (.dat I (s.1 : Int))), (7, .one (.dat .bool s.2.2))]
  bl := fun s => [(6, .cells (flat LifeT s.2.1))]
  keep := [1, 5, 6]
  keepB := [] })]

end Ytpjgggcaamigdaa
end Go.Proofs
