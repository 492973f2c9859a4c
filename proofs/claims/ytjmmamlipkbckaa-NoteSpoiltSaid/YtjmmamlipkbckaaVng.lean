/-
  Annotations of the loops of take, row, put.
-/
import Derived.Test.YtjmmamlipkbckaaVnf
set_option maxRecDepth 100000
set_option linter.unusedVariables false
namespace Go.Proofs
open Go Go.Vc

namespace Ytjmmamlipkbckaa

def blkIs (S : St) (n : Nat) : List Int :=
  match find S.bl n with
  | some (.row _ _ (.int _) x) => x
  | _ => []

def a40 (x : Int × List Int × Bool × Unit) : Ann := loopAnn [(6, fun _ => {
  σ := Nat
  ok := fun k => k ≤ x.1.toNat
  mu := fun k => x.1.toNat - k
  sl := fun k => [(5, .one (.dat I (fVal (x.2.1.take k)))), (16, .one (.dat I (k : Int)))]
  bl := fun _ => []
  keep := [0, 1, 14, 15]
  keepB := [1000000, 1000001] })]

def a41 (x : Int × (List Int × Bool × Unit) × Unit) : Ann := loopAnn [(3, fun _ => {
  σ := Nat
  ok := fun k => k ≤ x.1.toNat
  mu := fun k => x.1.toNat - k
  sl := fun k => [(5, .one (.row I 1003)), (6, .one (.dat I (k : Int)))]
  bl := fun k => [(1003, .row false 3 I (fRow (x.2.1.1, x.2.1.2.1) k).1), (1000001, .cells [.dat (.list U8) (fRow (x.2.1.1, x.2.1.2.1) k).2.1]), (1000002, .cells [.dat .bool (fRow (x.2.1.1, x.2.1.2.1) k).2.2])]
  keep := [0, 1, 2]
  keepB := [1000000] })]

def a16 (x : Int × List Int × List Int × Unit) : Ann := loopAnn [(1, fun _ => {
  σ := Nat
  ok := fun k => k ≤ x.2.1.length
  mu := fun k => x.2.1.length - k
  sl := fun k => [(10, .one (.dat I (k : Int)))]
  bl := fun k => [(1000000, .cells [.row U8 1003]), (1003, .row false 5 U8 (x.2.2.1 ++ (x.2.1.take k).flatMap (fBytes x.1.toNat)))]
  keep := [0, 2, 8, 9]
  keepB := [] }), (4, fun S => {
  σ := Nat
  ok := fun j => j ≤ x.1.toNat
  mu := fun j => x.1.toNat - j
  sl := fun j => [(7, .one (.dat I (x.1 - 1 - (j : Int))))]
  bl := fun j => [(1000000, .cells [.row U8 1004]), (1004, .row false 5 U8 (blkIs S 1003 ++ (fBytes x.1.toNat (slotI S 6)).take j))]
  keep := [0, 2, 6, 8, 9, 10]
  keepB := [] })]

/-! ### Loops within loops -/

def a11' (x : List NoteD × Unit) : Ann := loopAnn [(4, fun _ => allLoop (fNote (x.1.getD 0 zeroN)) x.1 12 [0, 10, 11]), (9, fun S => allLoop fBody (x.1.getD (slotI S 12).toNat zeroN).2.2 80 [0, 10, 11, 12, 78, 79])]
def a8' (x : List NoteD × Unit) : Ann := loopAnn [(4, fun _ => allLoop fFewN x.1 12 [10, 11]), (9, fun S => allLoop (fun b => decide (b.2.1.length ≤ 200)) (x.1.getD (slotI S 12).toNat zeroN).2.2 35 [10, 11, 12, 33, 34])]

end Ytjmmamlipkbckaa
end Go.Proofs
