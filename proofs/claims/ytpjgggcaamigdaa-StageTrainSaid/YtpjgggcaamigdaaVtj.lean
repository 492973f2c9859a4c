/-
  The laws' contracts.
-/
import Derived.Test.YtpjgggcaamigdaaVti
set_option maxRecDepth 100000
set_option linter.unusedVariables false
namespace Go.Proofs
open Go.Vc
namespace Ytpjgggcaamigdaa

/-- A law: whatever the arguments, it answers 'true'. -/
def lawCon (ts : List Ty) : DCon where
  args := ts
  out := .data [.bool]
  pre _ := True
  fn _ := (true, ())

def c3 : DCon := lawCon [LifeT, ViewT]

def c4 : DCon := lawCon [I, .list ViewT]

def a4 (x : Int × List ViewD × Unit) : Ann := loopAnn [(9, fun _ => {
  σ := Nat × LifeD
  ok := fun s => s.1 ≤ x.2.1.length ∧ s.2.2.2.2.length ≤ 12
  mu := fun s => x.2.1.length - s.1
  sl := fun s => [(7, .one (.dat I (s.1 : Int)))]
  bl := fun s => [(5, .cells (flat LifeT s.2)), (6, .cells (flat LifeT s.2))]
  keep := [1, 5, 6]
  keepB := [] })]

/-- What holds of a life on its way. -/
def good (n : Nat) (l : LifeD) (off : Bool) : Prop :=
  l.1 = 0 ∨ (1 ≤ l.1 ∧ l.1 ≤ 3 ∧ l.2.2.2.length = n ∧ 0 ≤ l.2.1 ∧ l.2.1 < n ∧ l.2.2.1 = off ∧ (l.1 ≠ 3 → l.2.1 = 0))

def c8 : DCon := lawCon [.int .u8, .list ViewT]

def a8 (x : Int × List ViewD × Unit) : Ann := loopAnn [(9, fun _ => {
  σ := Nat × LifeD × Bool
  ok := fun s => s.1 ≤ x.2.1.length ∧ s.2.1.2.2.2.length ≤ 12 ∧ good (x.1.tmod 12 + 1).toNat s.2.1 s.2.2
  mu := fun s => x.2.1.length - s.1
  sl := fun s => [(8, .one (.dat I (s.1 : Int))), (7, .one (.dat .bool s.2.2))]
  bl := fun s => [(6, .cells (flat LifeT s.2.1))]
  keep := [1, 5, 6]
  keepB := [] })]

/-- A slot's number, and a slot's numbers. -/
def slotI (S : St) (n : Nat) : Int :=
  match find S.sl n with
  | some (_, .one (.dat (.int _) x)) => Ty.I x
  | _ => 0

def slotLI (S : St) (n : Nat) : List Int :=
  match find S.sl n with
  | some (_, .one (.dat (.list (.int _)) x)) => Ty.L x
  | _ => []

def c5 : DCon := lawCon [.int .u8, .list ViewT]

def a5 (x : Int × List ViewD × Unit) : Ann := loopAnn [(9, fun _ => {
  σ := Nat × LifeD × Int
  ok := fun s => s.1 ≤ x.2.1.length ∧ s.2.1.2.2.2.length ≤ 12 ∧ good (x.1.tmod 12 + 1).toNat s.2.1 s.2.1.2.2.1 ∧ 0 ≤ s.2.2 ∧ s.2.2 ≤ x.1.tmod 12 + 1 ∧ (s.2.1.1 ≠ 0 → s.2.2 = s.2.1.2.1)
  mu := fun s => x.2.1.length - s.1
  sl := fun s => [(8, .one (.dat I (s.1 : Int))), (7, .one (.dat I s.2.2))]
  bl := fun s => [(6, .cells (flat LifeT s.2.1))]
  keep := [1, 5, 6]
  keepB := [] }),
  (13, fun S => {
  σ := Nat
  ok := fun k => k ≤ (slotLI S 10).length
  mu := fun k => (slotLI S 10).length - k
  sl := fun k => [(11, .one (.dat I (k : Int))), (7, .one (.dat I (slotI S 7 + k : Int)))]
  bl := fun _ => []
  keep := [1, 5, 6, 8, 9, 10]
  keepB := [6, 9] })]

def c7 : DCon := lawCon [.int .u8, .list ViewT, .int .u8]

def a7 (x : Int × List ViewD × Int × Unit) : Ann := loopAnn [(9, fun _ => {
  σ := Nat × LifeD × Bool
  ok := fun s => s.1 ≤ x.2.1.length ∧ s.2.1.2.2.2.length ≤ 12 ∧ good (x.1.tmod 12 + 1).toNat s.2.1 s.2.2
  mu := fun s => x.2.1.length - s.1
  sl := fun s => [(10, .one (.dat I (s.1 : Int))), (9, .one (.dat .bool s.2.2))]
  bl := fun s => [(8, .cells (flat LifeT s.2.1))]
  keep := [1, 2, 7, 8]
  keepB := [] })]

end Ytpjgggcaamigdaa
end Go.Proofs
