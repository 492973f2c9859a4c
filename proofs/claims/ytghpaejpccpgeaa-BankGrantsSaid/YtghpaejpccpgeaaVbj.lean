/-
  Annotations: who may go.
-/
import Derived.Test.YtghpaejpccpgeaaVbb
set_option maxRecDepth 100000
set_option linter.unusedVariables false
namespace Go.Proofs
open Go Go.Vc
namespace Ytghpaejpccpgeaa

def a20 (x : List ClaimD × Int × List Int × Unit) : Ann := loopAnn [(5, fun _ => {
  σ := Nat
  ok := fun s => s ≤ x.1.length
  mu := fun s => x.1.length - s
  sl := fun s => [(7, .one (.row I 1000)), (27, .one (.dat I (s : Int)))]
  bl := fun s => [(1000, .row false 3 I (fGoes x.1 x.2.1 x.2.2.1 s))]
  keep := [0, 1, 2, 25, 26]
  keepB := [] }), (11, fun S => {
  σ := Nat
  ok := fun m => 1 ≤ m ∧ m ≤ 2 ^ (blkIs S 1000).length ∧ (List.range m).all (fSafeAt x.1 (blkIs S 1000)) = true
  mu := fun m => 2 ^ (blkIs S 1000).length - m
  sl := fun m => [(10, .one (.dat I (m : Int)))]
  bl := fun _ => []
  keep := [0, 7]
  keepB := [1000] }), (15, fun S => {
  σ := Nat
  ok := fun s => s ≤ (blkIs S 1000).length
  mu := fun s => (blkIs S 1000).length - s
  sl := fun s => [(11, .one (.row ClaimT 1001)), (62, .one (.dat I (s : Int)))]
  bl := fun s => [(1001, .row false 35 ClaimT (fThen x.1 (blkIs S 1000) (slotI S 10).toNat s))]
  keep := [0, 7, 10, 60, 61]
  keepB := [1000] })] [45, 71]

/-! ### The reference -/

def fWho (l : List ClaimD) (k : Int) (asking : List Int) : Nat → List Int
  | 0 => [k]
  | s + 1 => bif (bif (bif decide (0 ≤ asking.getD s 0) then decide (asking.getD s 0 < l.length) else false) then decide (0 < (l.getD (asking.getD s 0).toNat zeroC).2.length) else false) && !(fWho l k asking s).contains (asking.getD s 0)
    then fWho l k asking s ++ [asking.getD s 0] else fWho l k asking s

def fThenR (l : List ClaimD) (who : List Int) (m : Nat) : Nat → List ClaimD
  | 0 => l
  | s + 1 => bif m.testBit s then (fThenR l who m s).set (who.getD s 0).toNat (fAfter ((fThenR l who m s).getD (who.getD s 0).toNat zeroC)) else fThenR l who m s

def fSafeAtR (l : List ClaimD) (who : List Int) (m : Nat) : Bool := m == 0 || (fOrder (fThenR l who m who.length)).isSome
def fGrantR (l : List ClaimD) (k : Int) (asking : List Int) : Bool := fFree l k && (List.range (2 ^ (fWho l k asking asking.length).length)).all (fSafeAtR l (fWho l k asking asking.length))

def c21 : DCon where
  args := [.list ClaimT, I, .list I]
  out := .data [.bool]
  pre := fun (x : List ClaimD × Int × List Int × Unit) => fMay x.1 = true ∧ x.2.2.1.length ≤ 20
  fn := fun (x : List ClaimD × Int × List Int × Unit) => (fGrantR x.1 x.2.1 x.2.2.1, ())

def a21 (x : List ClaimD × Int × List Int × Unit) : Ann := loopAnn [(5, fun _ => {
  σ := Nat
  ok := fun s => s ≤ x.2.2.1.length
  mu := fun s => x.2.2.1.length - s
  sl := fun s => [(7, .one (.row I 1000)), (22, .one (.dat I (s : Int)))]
  bl := fun s => [(1000, .row false 3 I (fWho x.1 x.2.1 x.2.2.1 s))]
  keep := [0, 20, 21]
  keepB := [] }), (11, fun S => {
  σ := Nat
  ok := fun m => 1 ≤ m ∧ m ≤ 2 ^ (blkIs S 1000).length ∧ (List.range m).all (fSafeAtR x.1 (blkIs S 1000)) = true
  mu := fun m => 2 ^ (blkIs S 1000).length - m
  sl := fun m => [(10, .one (.dat I (m : Int)))]
  bl := fun _ => []
  keep := [0, 7]
  keepB := [1000] }), (15, fun S => {
  σ := Nat
  ok := fun s => s ≤ (blkIs S 1000).length
  mu := fun s => (blkIs S 1000).length - s
  sl := fun s => [(11, .one (.row ClaimT 1001)), (67, .one (.dat I (s : Int)))]
  bl := fun s => [(1001, .row false 35 ClaimT (fThenR x.1 (blkIs S 1000) (slotI S 10).toNat s))]
  keep := [0, 7, 10, 65, 66]
  keepB := [1000] })] [48, 77]

/-! ### All orders -/

def fHome : Nat → List ClaimD → List Bool → Bool
  | 0, _, _ => true
  | n + 1, l, gone => (List.range l.length).any (fun k => !gone.getD k false && (fCan l k && fHome n (l.set k zeroC) (gone.set k true))) || (List.range l.length).all fun k => gone.getD k false

def fHomeAt (n : Nat) (l : List ClaimD) (gone : List Bool) (k : Nat) : Bool := !gone.getD k false && (fCan l k && fHome n (l.set k zeroC) (gone.set k true))

structure HomePre (n : Nat) (l : List ClaimD) (gone : List Bool) : Prop where
  may : fMay l = true
  len : gone.length = l.length
  cnt : gone.count false < n

def c22 (n : Nat) : DCon where
  args := [.list ClaimT, .list .bool]
  out := .data [.bool]
  pre := fun (x : List ClaimD × List Bool × Unit) => HomePre n x.1 x.2.1
  fn := fun (x : List ClaimD × List Bool × Unit) => (fHome n x.1 x.2.1, ())

def a22 (n : Nat) (x : List ClaimD × List Bool × Unit) : Ann := loopAnn [(3, fun _ => {
  σ := Nat
  ok := fun s => s ≤ x.1.length ∧ (List.range s).any (fHomeAt n x.1 x.2.1) = false
  mu := fun s => x.1.length - s
  sl := fun s => [(5, .one (.dat .bool ((List.range s).all fun k => x.2.1.getD k false))), (11, .one (.dat I (s : Int)))]
  bl := fun _ => []
  keep := [0, 1, 9, 10]
  keepB := [] })]

/-! ### The laws' loops -/

def fLeftAt (l : List ClaimD) (o : List Int) (s : Nat) : List ClaimD := (o.take s).foldl (fun x (k : Int) => x.set k.toNat zeroC) l
def fMetAt (l : List ClaimD) (o : List Int) (s : Nat) : List Bool := (o.take s).foldl (fun x (k : Int) => x.set k.toNat true) (List.replicate l.length false)

def a6 (x : List ClaimD × Unit) : Ann := loopAnn [(11, fun _ => {
  σ := Nat
  ok := fun s => s ≤ ((fOrder x.1).getD []).length
  mu := fun s => ((fOrder x.1).getD []).length - s
  sl := fun s => [(5, .one (.row ClaimT 1000)), (6, .one (.row .bool 1001)), (37, .one (.dat I (s : Int)))]
  bl := fun s => [(1000, .row false 35 ClaimT (fLeftAt x.1 ((fOrder x.1).getD []) s)), (1001, .row false 4 .bool (fMetAt x.1 ((fOrder x.1).getD []) s))]
  keep := [0, 3, 35, 36]
  keepB := [] })]

def fLegsUp (l : List ClaimD) : Nat → Nat
  | 0 => 0
  | s + 1 => fLegsUp l s + (l.getD s zeroC).2.length
/-- Without a leg he has nothing. -/
def fRest (l : List ClaimD) (i : Nat) : Bool := !(decide ((l.getD i zeroC).2.length = 0) && decide (0 < (l.getD i zeroC).1.length))
def fGrantAt (l : List ClaimD) (i : Nat) : Bool := fGrant l (i : Int) []

def a8 (x : List ClaimD × Unit) : Ann := loopAnn [(7, fun _ => {
  σ := Nat
  ok := fun s => s ≤ x.1.length ∧ (List.range s).all (fRest x.1) = true
  mu := fun s => x.1.length - s
  sl := fun s => [(3, .one (.dat I (fLegsUp x.1 s : Nat))), (4, .one (.dat .bool ((List.range s).any (fGrantAt x.1)))), (24, .one (.dat I (s : Int)))]
  bl := fun _ => []
  keep := [0, 22, 23]
  keepB := [] })]

def a9 (x : ClaimD × Unit) : Ann := loopAnn [(9, fun _ => {
  σ := Nat
  ok := fun s => s ≤ (fAfter x.1).2.length
  mu := fun s => (fAfter x.1).2.length - s
  sl := fun s => [(40, .one (.dat I (s : Int)))]
  bl := fun _ => []
  keep := [3, 4, 39]
  keepB := [3, 4] })]

end Ytghpaejpccpgeaa
end Go.Proofs
