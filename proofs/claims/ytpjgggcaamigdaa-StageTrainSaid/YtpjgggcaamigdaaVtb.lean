/-
  Contracts of the functions of the roads' lives.
-/
import Derived.Test.YtpjgggcaamigdaaVta
set_option maxRecDepth 100000
set_option linter.unusedVariables false
namespace Go.Proofs
open Go.Vc

namespace Ytpjgggcaamigdaa
abbrev I := Ty.int .i64
abbrev LifeT : Ty := .pair I (.pair I (.pair .bool (.list .bool)))
abbrev ViewT : Ty := .pair (.list .bool) (.pair .bool (.pair .bool (.pair .bool (.pair .bool (.pair .bool .bool)))))
abbrev MarkT : Ty := .pair I (.pair I .bool)
abbrev LifeD := Int × Int × Bool × List Bool
abbrev ViewD := List Bool × Bool × Bool × Bool × Bool × Bool × Bool
abbrev MarkD := Int × Int × Bool

/-- A block's cells with one put in. -/
def setCell (S : St) (b i : Nat) (c : C) : Blk :=
  match find S.bl b with
  | some (.cells cs) => .cells (cs.set i c)
  | _ => .cells []

def short {α : Type} (xs : List α) : Prop := xs.length ≤ 1000000

/-! ### Lists -/

def c20 : DCon where
  args := [.list .bool]
  out := .row 4 .bool
  pre := fun (x : List Bool × Unit) => short x.1
  fn := fun (x : List Bool × Unit) => x

def fIndex (xs : List Bool) (v : Bool) : Nat → Int
  | 0 => -1
  | k + 1 => if xs.getD (xs.length - (k + 1)) false == v then ((xs.length - (k + 1) : Nat) : Int) else fIndex xs v k

def c29 : DCon where
  args := [.list .bool, .bool]
  out := .data [I]
  pre := fun (x : List Bool × Bool × Unit) => short x.1
  fn := fun (x : List Bool × Bool × Unit) => (fIndex x.1 x.2.1 x.1.length, ())

def a29 (x : List Bool × Bool × Unit) : Ann := loopAnn [(2, fun _ => {
  σ := Nat
  ok := fun k => k ≤ x.1.length ∧ fIndex x.1 x.2.1 x.1.length = fIndex x.1 x.2.1 (x.1.length - k)
  mu := fun k => x.1.length - k
  sl := fun k => [(8, .one (.dat I (k : Int)))]
  bl := fun _ => []
  keep := [0, 1, 7]
  keepB := [] })]

def c28 : DCon where
  args := [.list .bool, .bool]
  out := .data [.bool]
  pre := fun (x : List Bool × Bool × Unit) => short x.1
  fn := fun (x : List Bool × Bool × Unit) => (x.1.contains x.2.1, ())

/-- The first k elements are the same. -/
def sameUp {α : Type} [BEq α] (xs ys : List α) (k : Nat) : Prop := xs.length = ys.length ∧ xs.take k = ys.take k

def c27 : DCon where
  args := [.list .bool, .list .bool]
  out := .data [.bool]
  pre := fun (x : List Bool × List Bool × Unit) => short x.1
  fn := fun (x : List Bool × List Bool × Unit) => (x.1 == x.2.1, ())

def a27 (x : List Bool × List Bool × Unit) : Ann := loopAnn [(4, fun _ => {
  σ := Nat
  ok := fun k => k ≤ x.1.length ∧ sameUp x.1 x.2.1 k
  mu := fun k => x.1.length - k
  sl := fun k => [(13, .one (.dat I (k : Int)))]
  bl := fun _ => []
  keep := [0, 1, 12]
  keepB := [] })]

def c25 : DCon := c27
def a25 (x : List Bool × List Bool × Unit) : Ann := loopAnn [(4, fun _ => {
  σ := Nat
  ok := fun k => k ≤ x.1.length ∧ sameUp x.1 x.2.1 k
  mu := fun k => x.1.length - k
  sl := fun k => [(5, .one (.dat I (k : Int)))]
  bl := fun _ => []
  keep := [0, 1]
  keepB := [] })]

def c14 : DCon where
  args := [.list I, .list I]
  out := .data [.bool]
  pre := fun (x : List Int × List Int × Unit) => short x.1
  fn := fun (x : List Int × List Int × Unit) => (x.1 == x.2.1, ())

def a14 (x : List Int × List Int × Unit) : Ann := loopAnn [(4, fun _ => {
  σ := Nat
  ok := fun k => k ≤ x.1.length ∧ sameUp x.1 x.2.1 k
  mu := fun k => x.1.length - k
  sl := fun k => [(5, .one (.dat I (k : Int)))]
  bl := fun _ => []
  keep := [0, 1]
  keepB := [] })]

def c18 : DCon where
  args := [.list .bool]
  out := .data [.bool]
  pre := fun (x : List Bool × Unit) => short x.1
  fn := fun (x : List Bool × Unit) => (x.1.contains true, ())

def a18 (x : List Bool × Unit) : Ann := loopAnn [(2, fun _ => {
  σ := Nat
  ok := fun k => k ≤ x.1.length ∧ (x.1.take k).contains true = false
  mu := fun k => x.1.length - k
  sl := fun k => [(3, .one (.dat I (k : Int)))]
  bl := fun _ => []
  keep := [0]
  keepB := [] })]

def c23 : DCon where
  args := [.list .bool, I]
  out := .data [.bool]
  pre := fun (x : List Bool × Int × Unit) => short x.1 ∧ 0 ≤ x.2.1 ∧ x.2.1 ≤ 1000000
  fn := fun (x : List Bool × Int × Unit) => ((x.1.drop x.2.1.toNat).contains true, ())

def a23 (x : List Bool × Int × Unit) : Ann := loopAnn [(2, fun _ => {
  σ := Nat
  ok := fun k => x.2.1.toNat ≤ k ∧ (k ≤ x.1.length ∨ k = x.2.1.toNat) ∧ (x.1.drop x.2.1.toNat).contains true = (x.1.drop k).contains true
  mu := fun k => x.1.length - k
  sl := fun k => [(5, .one (.dat I (k : Int)))]
  bl := fun _ => []
  keep := [0]
  keepB := [] })]

def fFew (l : List ViewD) (n : Int) : Bool := decide (l.length ≤ 60) && l.all fun v => (v.1.length : Int) == n

def c17 : DCon where
  args := [.list ViewT, I]
  out := .data [.bool]
  pre _ := True
  fn := fun (x : List ViewD × Int × Unit) => (fFew x.1 x.2.1, ())

def a17 (x : List ViewD × Int × Unit) : Ann := loopAnn [(4, fun _ => {
  σ := Nat
  ok := fun k => k ≤ x.1.length ∧ (x.1.take k).all (fun v => (v.1.length : Int) == x.2.1) = true
  mu := fun k => x.1.length - k
  sl := fun k => [(5, .one (.dat I (k : Int)))]
  bl := fun _ => []
  keep := [0, 1]
  keepB := [] })]

def fRest (a b : Int) : List Int := (List.range (b - a).toNat).map fun (k : Nat) => a + (k : Int)

def c24 : DCon where
  args := [I, I]
  out := .row 3 I
  pre := fun (x : Int × Int × Unit) => 0 ≤ x.1 ∧ x.2.1 ≤ 1000000
  fn := fun (x : Int × Int × Unit) => (fRest x.1 x.2.1, ())

def a24 (x : Int × Int × Unit) : Ann := loopAnn [(3, fun _ => {
  σ := Nat
  ok := fun k => x.1 + k ≤ x.2.1 ∨ k = 0
  mu := fun k => (x.2.1 - x.1).toNat - k
  sl := fun k => [(6, .one (.dat I (x.1 + k : Int))), (5, .one (.row I 1000))]
  bl := fun k => [(1000, .row false 3 I (fRest x.1 (x.1 + k)))]
  keep := [1]
  keepB := [] })]

def c22 : DCon := c24
def a22 (x : Int × Int × Unit) : Ann := a24 x

/-! ### Lives -/

def c12 : DCon where
  args := [ViewT]
  out := .data [ViewT]
  pre _ := True
  fn x := x

def c26 : DCon where
  args := [LifeT]
  out := .data [MarkT]
  pre _ := True
  fn := fun (x : LifeD × Unit) => ((x.1.1, x.1.2.1, x.1.2.2.1), ())

def fSame (a b : LifeD) : Bool := a.1 == b.1 && (a.2.1 == b.2.1 && (a.2.2.1 == b.2.2.1 && a.2.2.2 == b.2.2.2))

def c19 : DCon where
  args := [LifeT, LifeT]
  out := .data [.bool]
  pre := fun (x : LifeD × LifeD × Unit) => short x.1.2.2.2
  fn := fun (x : LifeD × LifeD × Unit) => (fSame x.1 x.2.1, ())

def c13 : DCon := c19

def fBegin (n : Int) : LifeD := if n < 1 ∨ n > 12 then (0, 0, false, []) else (1, 0, false, List.replicate n.toNat false)

def c15 : DCon where
  args := [I]
  out := .data [LifeT]
  pre _ := True
  fn := fun (x : Int × Unit) => (fBegin x.1, ())

def c16 : DCon := c15

def fOver (occ : List Bool) (v : ViewD) : Bool := !occ.contains true && (!v.2.2.2.2.1 || v.2.2.2.2.2.1)

def c21 : DCon where
  args := [.list .bool, ViewT]
  out := .data [.bool]
  pre := fun (x : List Bool × ViewD × Unit) => short x.1
  fn := fun (x : List Bool × ViewD × Unit) => (fOver x.1 x.2.1, ())

def zeroL : LifeD := (0, 0, false, [])

def fOcc (v : ViewD) : List Bool := bif v.2.1 then v.1.set (v.1.length - 1) false else v.1

def fSeen (seen occ : List Bool) (k : Nat) : List Bool := List.zipWith (fun a b => a || b) (seen.take k) (occ.take k) ++ seen.drop k

def fFree (seen occ : List Bool) (gate : Bool) (last : Nat) : Nat → Nat → Nat
  | 0, f => f
  | k + 1, f => if seen.getD f false && (!occ.getD f false && (occ.getD (f + 1) false || gate && f + 1 == last)) then fFree seen occ gate last k (f + 1) else f

def fNext (l : LifeD) (v : ViewD) : LifeD × List Int :=
  if l.1 = 0 then (l, []) else
  if l.1 < 0 ∨ l.1 > 3 ∨ v.1.length = 0 ∨ l.2.2.2.length ≠ v.1.length ∨ l.2.1 < 0 ∨ l.2.1 ≥ v.1.length then (zeroL, []) else
  let n := v.1.length
  let occ := fOcc v
  let off := l.2.2.1 || v.2.2.2.2.2.2
  let seen := fSeen l.2.2.2 occ n
  if l.1 ≠ 3 ∧ occ.getD 0 false = false then
    if off = true ∧ fOver (occ.drop l.2.1.toNat) v = true then (zeroL, fRest l.2.1 n)
    else if off = false ∧ v.2.2.1 = true ∧ v.2.2.2.1 = true then ((2, l.2.1, off, seen), [])
    else ((1, l.2.1, off, seen), [])
  else
    let fr := fFree seen occ v.2.1 (n - 1) (n - 1 - l.2.1.toNat) l.2.1.toNat
    if (fr = n - 1 ∧ (v.2.1 = true ∨ occ.getD (n - 1) false = true)) ∨ (off = true ∧ fOver (occ.drop fr) v = true) then (zeroL, fRest l.2.1 n)
    else ((3, fr, off, seen), fRest l.2.1 fr)

def c10 : DCon where
  args := [LifeT, ViewT]
  out := .data [LifeT, .list I]
  pre := fun (x : LifeD × ViewD × Unit) => short x.1.2.2.2 ∧ short x.2.1.1
  fn := fun (x : LifeD × ViewD × Unit) => ((fNext x.1 x.2.1).1, (fNext x.1 x.2.1).2, ())

def a10 (x : LifeD × ViewD × Unit) : Ann := loopAnn [
  (13, fun S => {
    σ := Nat
    ok := fun k => k ≤ x.2.1.1.length
    mu := fun k => x.2.1.1.length - k
    sl := fun k => [(74, .one (.dat I (k : Int)))]
    bl := fun k => [(14, .row false 4 .bool (fSeen x.1.2.2.2 (fOcc x.2.1) k))]
    keep := [2, 3, 4, 5, 6, 7, 8, 73]
    keepB := [2, 3, 4, 56] }),
  (27, fun S => {
    σ := Nat
    ok := fun f => x.1.2.1.toNat ≤ f ∧ f ≤ x.2.1.1.length - 1 ∧ fFree (fSeen x.1.2.2.2 (fOcc x.2.1) x.2.1.1.length) (fOcc x.2.1) x.2.1.2.1 (x.2.1.1.length - 1) (x.2.1.1.length - 1 - x.1.2.1.toNat) x.1.2.1.toNat =
      fFree (fSeen x.1.2.2.2 (fOcc x.2.1) x.2.1.1.length) (fOcc x.2.1) x.2.1.2.1 (x.2.1.1.length - 1) (x.2.1.1.length - 1 - f) f
    mu := fun f => x.2.1.1.length - f
    sl := fun _ => []
    bl := fun f => [(2, setCell S 2 1 (.dat I (f : Int)))]
    keep := [2, 3, 4, 5, 6, 7, 8, 10]
    keepB := [3, 4, 14, 56] })]

def c11 : DCon := c10

def a11 (x : LifeD × ViewD × Unit) : Ann := loopAnn [
  (11, fun S => {
    σ := Nat
    ok := fun k => k ≤ x.2.1.1.length
    mu := fun k => x.2.1.1.length - k
    sl := fun k => [(9, .one (.dat I (k : Int)))]
    bl := fun k => [(8, setCell S 8 3 (.row .bool 1000)), (1000, .row false 4 .bool (List.zipWith (fun a b => a || b) (x.1.2.2.2.take k) ((fOcc x.2.1).take k)))]
    keep := [2, 3, 4, 5, 6, 7, 8]
    keepB := [2, 3, 4, 49] }),
  (25, fun S => {
    σ := Nat
    ok := fun f => x.1.2.1.toNat ≤ f ∧ f ≤ x.2.1.1.length - 1 ∧ fFree (fSeen x.1.2.2.2 (fOcc x.2.1) x.2.1.1.length) (fOcc x.2.1) x.2.1.2.1 (x.2.1.1.length - 1) (x.2.1.1.length - 1 - x.1.2.1.toNat) x.1.2.1.toNat =
      fFree (fSeen x.1.2.2.2 (fOcc x.2.1) x.2.1.1.length) (fOcc x.2.1) x.2.1.2.1 (x.2.1.1.length - 1) (x.2.1.1.length - 1 - f) f
    mu := fun f => x.2.1.1.length - f
    sl := fun _ => []
    bl := fun f => [(8, setCell S 8 1 (.dat I (f : Int)))]
    keep := [2, 3, 4, 5, 6, 7, 8, 10]
    keepB := [2, 3, 4, 1000, 49] })]

def known9 : DCon where
  args := []
  out := .data [.bool]
  pre _ := True
  fn _ := (true, ())
abbrev c9 := known9

end Ytpjgggcaamigdaa
end Go.Proofs
