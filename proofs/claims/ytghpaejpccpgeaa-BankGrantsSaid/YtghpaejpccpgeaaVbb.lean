/-
  Contracts of the bank's functions.
-/
import Derived.Test.YtghpaejpccpgeaaVba
set_option maxRecDepth 100000
set_option linter.unusedVariables false
namespace Go.Proofs
open Go Go.Vc

namespace Ytghpaejpccpgeaa
abbrev I := Ty.int .i64
abbrev U64 := Ty.int .u64
abbrev WantT : Ty := .pair (.list I) I
abbrev ClaimT : Ty := .pair (.list I) (.list WantT)
abbrev WantD := List Int × Int
abbrev ClaimD := List Int × List WantD

def short {α : Type} (xs : List α) : Prop := xs.length ≤ 1000000

/-! ### Numbers -/

def fIn (lo hi n : Int) : Bool := decide (lo ≤ n) && decide (n ≤ hi)
def fEl (n : Int) : Bool := fIn 0 39 n
def fEls (l : List Int) : Bool := decide (l.length ≤ 40) && l.all fEl

def c30 : DCon where
  args := [I, I, I]
  out := .data [.bool]
  pre := fun (x : Int × Int × Int × Unit) => True
  fn := fun (x : Int × Int × Int × Unit) => (fIn x.2.1 x.2.2.1 x.1, ())

def c29 : DCon where
  args := [.list I]
  out := .data [.bool]
  pre := fun (x : List Int × Unit) => short x.1
  fn := fun (x : List Int × Unit) => (fEls x.1, ())

def a29 (x : List Int × Unit) : Ann := loopAnn [(2, fun _ => {
  σ := Nat
  ok := fun k => k ≤ x.1.length ∧ (x.1.take k).all fEl = true
  mu := fun k => x.1.length - k
  sl := fun k => [(7, .one (.dat I (k : Int)))]
  bl := fun _ => []
  keep := [0, 5, 6]
  keepB := [] })]

def c43 : DCon where
  args := [I]
  out := .data [.bool]
  pre := fun (x : Int × Unit) => True
  fn := fun (x : Int × Unit) => (!fEl x.1, ())

abbrev CloE : Ty := .clo 43 .unit

def fFind {α : Type} (p : α → Bool) (xs : List α) : Int := if xs.any p then ((xs.findIdx p : Nat) : Int) else -1

def findLoop {α : Type} (p : α → Bool) (xs : List α) (slot : Nat) (keep : List Nat) : LA where
  σ := Nat
  ok := fun k => k ≤ xs.length ∧ (xs.take k).any p = false
  mu := fun k => xs.length - k
  sl := fun k => [(slot, .one (.dat I (k : Int)))]
  bl := fun _ => []
  keep := keep
  keepB := []

def allLoop {α : Type} (p : α → Bool) (xs : List α) (slot : Nat) (keep : List Nat) : LA where
  σ := Nat
  ok := fun k => k ≤ xs.length ∧ (xs.take k).all p = true
  mu := fun k => xs.length - k
  sl := fun k => [(slot, .one (.dat I (k : Int)))]
  bl := fun _ => []
  keep := keep
  keepB := []

def c440046 : DCon where
  args := [.list I, CloE]
  out := .data [I]
  pre := fun (x : List Int × Unit × Unit) => short x.1
  fn := fun (x : List Int × Unit × Unit) => (fFind (fun n => !fEl n) x.1, ())

def a440046 (x : List Int × Unit × Unit) : Ann := loopAnn [(2, fun _ => findLoop (fun n => !fEl n) x.1 8 [0, 1, 7])]

def c440042 : DCon where
  args := [.list I, CloE]
  out := .data [.bool]
  pre := fun (x : List Int × Unit × Unit) => short x.1
  fn := fun (x : List Int × Unit × Unit) => (x.1.any (fun n => !fEl n), ())

def c26 : DCon where
  args := [.list I]
  out := .data [.bool]
  pre := fun (x : List Int × Unit) => short x.1
  fn := fun (x : List Int × Unit) => (fEls x.1, ())

/-! ### Claims -/

def shortC (c : ClaimD) : Prop := short c.1 ∧ short c.2 ∧ ∀ w ∈ c.2, short w.1
def shortL (l : List ClaimD) : Prop := short l ∧ ∀ c ∈ l, shortC c

def fWant (w : WantD) : Bool := fEls w.1 && fIn (-1) 39 w.2
def fClaim (c : ClaimD) : Bool := decide (c.2.length ≤ 12) && (fEls c.1 && c.2.all fWant)
def fMay (l : List ClaimD) : Bool := decide (l.length ≤ 8) && l.all fClaim

def c28 : DCon where
  args := [WantT]
  out := .data [.bool]
  pre := fun (x : WantD × Unit) => short x.1.1
  fn := fun (x : WantD × Unit) => (!fWant x.1, ())

abbrev CloW : Ty := .clo 28 .unit

def shortW (l : List WantD) : Prop := short l ∧ ∀ w ∈ l, short w.1

def c290044 : DCon where
  args := [.list WantT, CloW]
  out := .data [I]
  pre := fun (x : List WantD × Unit × Unit) => shortW x.1
  fn := fun (x : List WantD × Unit × Unit) => (fFind (fun n => !fWant n) x.1, ())

def a290044 (x : List WantD × Unit × Unit) : Ann := loopAnn [(2, fun _ => findLoop (fun n => !fWant n) x.1 8 [0, 1, 7])]

def c290027 : DCon where
  args := [.list WantT, CloW]
  out := .data [.bool]
  pre := fun (x : List WantD × Unit × Unit) => shortW x.1
  fn := fun (x : List WantD × Unit × Unit) => (x.1.any (fun n => !fWant n), ())

def c12 : DCon where
  args := [.list ClaimT]
  out := .data [.bool]
  pre := fun (x : List ClaimD × Unit) => shortL x.1
  fn := fun (x : List ClaimD × Unit) => (fMay x.1, ())

def a12 (x : List ClaimD × Unit) : Ann := loopAnn [(2, fun _ => allLoop fClaim x.1 7 [0, 5, 6])]

def c13 : DCon := c12

/-! ### What is had, what is wanted -/

def fOf (l : List Int) : Nat := l.foldl (fun s x => bif fEl x then s ||| 1 <<< x.toNat else s) 0
def zeroC : ClaimD := ([], [])
def fOthersUp (l : List ClaimD) (k : Int) : Nat → Nat
  | 0 => 0
  | s + 1 => bif (s : Int) != k then fOthersUp l k s ||| fOf (l.getD s zeroC).1 else fOthersUp l k s
def fOthers (l : List ClaimD) (k : Int) : Nat := fOthersUp l k l.length
def fWants (c : ClaimD) : Nat := c.2.foldl (fun s w => s ||| fOf w.1) 0

def c37 : DCon where
  args := [.list I]
  out := .data [U64]
  pre := fun (x : List Int × Unit) => short x.1
  fn := fun (x : List Int × Unit) => ((fOf x.1 : Nat), ())

def c34 : DCon where
  args := [.list ClaimT, I]
  out := .data [U64]
  pre := fun (x : List ClaimD × Int × Unit) => shortL x.1
  fn := fun (x : List ClaimD × Int × Unit) => ((fOthers x.1 x.2.1 : Nat), ())

def c35 : DCon where
  args := [ClaimT]
  out := .data [U64]
  pre := fun (x : ClaimD × Unit) => shortC x.1
  fn := fun (x : ClaimD × Unit) => ((fWants x.1 : Nat), ())

def c36 : DCon where
  args := [.list I, I]
  out := .data [.bool]
  pre := fun (x : List Int × Int × Unit) => short x.1
  fn := fun (x : List Int × Int × Unit) => (x.1.contains x.2.1, ())

/-- Nobody but 'k' has any of these. -/
def fClearAt (l : List ClaimD) (k : Int) (free : List Int) (i : Nat) : Bool := (i : Int) == k || !(l.getD i zeroC).1.any free.contains
def fClear (l : List ClaimD) (k : Int) (free : List Int) : Bool := (List.range l.length).all (fClearAt l k free)

def c38 : DCon where
  args := [.list ClaimT, I, .list I]
  out := .data [.bool]
  pre := fun (x : List ClaimD × Int × List Int × Unit) => shortL x.1 ∧ short x.2.2.1
  fn := fun (x : List ClaimD × Int × List Int × Unit) => (fClear x.1 x.2.1 x.2.2.1, ())

def fFree (l : List ClaimD) (k : Int) : Bool := decide (0 ≤ k) && (decide (k < l.length) && (decide (0 < (l.getD k.toNat zeroC).2.length) && fClear l k ((l.getD k.toNat zeroC).2.getD 0 ([], 0)).1))

def c18 : DCon where
  args := [.list ClaimT, I]
  out := .data [.bool]
  pre := fun (x : List ClaimD × Int × Unit) => fMay x.1 = true
  fn := fun (x : List ClaimD × Int × Unit) => (fFree x.1 x.2.1, ())

def c19 : DCon := c18

def fCan (l : List ClaimD) (k : Nat) : Bool := (l.getD k zeroC).2.all fun w => fClear l k w.1

def c23 : DCon where
  args := [.list ClaimT, I]
  out := .data [.bool]
  pre := fun (x : List ClaimD × Int × Unit) => shortL x.1 ∧ InB x.2.1 x.1.length
  fn := fun (x : List ClaimD × Int × Unit) => (fCan x.1 x.2.1.toNat, ())

def fAfter (c : ClaimD) : ClaimD :=
  match c.2 with
  | [] => ([], [])
  | w :: r => (bif decide (w.2 ≥ 0) then [w.2] else [], r)

def c24 : DCon where
  args := [ClaimT]
  out := .data [ClaimT]
  pre := fun (x : ClaimD × Unit) => fClaim x.1 = true
  fn := fun (x : ClaimD × Unit) => (fAfter x.1, ())

def c25 : DCon := c24

/-! ### The order -/

def fElig (l : List ClaimD) (gone : List Bool) (k : Nat) : Bool := !gone.getD k true && fCan l k
def fNext (l : List ClaimD) (gone : List Bool) : Nat := (List.range l.length).findIdx (fElig l gone)

def fOrd : Nat → List ClaimD → List Bool → List Int → Option (List Int)
  | 0, _, _, out => some out
  | n + 1, l, gone, out => if fNext l gone < l.length then fOrd n (l.set (fNext l gone) zeroC) (gone.set (fNext l gone) true) (out ++ [(fNext l gone : Int)]) else none

def fOrder (l : List ClaimD) : Option (List Int) := fOrd l.length l (List.replicate l.length false) []

def c14 : DCon where
  args := [.list ClaimT]
  out := .data [.list I, .bool]
  pre := fun (x : List ClaimD × Unit) => fMay x.1 = true
  fn := fun (x : List ClaimD × Unit) => ((fOrder x.1).getD [], (fOrder x.1).isSome, ())

def c15 : DCon := c14

def c17 : DCon where
  args := [.list ClaimT]
  out := .data [.bool]
  pre := fun (x : List ClaimD × Unit) => fMay x.1 = true
  fn := fun (x : List ClaimD × Unit) => ((fOrder x.1).isSome, ())

def c40 : DCon := c17

def c31 : DCon where
  args := [.list ClaimT]
  out := .row 35 ClaimT
  pre := fun (x : List ClaimD × Unit) => short x.1
  fn := fun (x : List ClaimD × Unit) => (x.1, ())

def c41 : DCon where
  args := [.list I]
  out := .row 3 I
  pre := fun (x : List Int × Unit) => short x.1
  fn := fun (x : List Int × Unit) => (x.1, ())

def c39 : DCon where
  args := [.list I, I]
  out := .data [.bool]
  pre := fun (x : List Int × Int × Unit) => short x.1
  fn := fun (x : List Int × Int × Unit) => (x.1.contains x.2.1, ())

def c41d : DCon where
  args := [.list I]
  out := .data [.list I]
  pre := fun (x : List Int × Unit) => short x.1
  fn := fun (x : List Int × Unit) => (x.1, ())

/-- The first k elements are the same. -/
def sameUp {α : Type} (xs ys : List α) (k : Nat) : Prop := xs.length = ys.length ∧ xs.take k = ys.take k

def c45 : DCon where
  args := [.list I, I]
  out := .data [I]
  pre := fun (x : List Int × Int × Unit) => short x.1
  fn := fun (x : List Int × Int × Unit) => (fFind (fun n => n == x.2.1) x.1, ())

def c33 : DCon where
  args := [.bool]
  out := .data [.bool]
  pre := fun (x : Bool × Unit) => True
  fn := fun (x : Bool × Unit) => (!x.1, ())

abbrev CloB : Ty := .clo 33 .unit

def c340032 : DCon where
  args := [.list .bool, CloB]
  out := .data [I]
  pre := fun (x : List Bool × Unit × Unit) => short x.1
  fn := fun (x : List Bool × Unit × Unit) => (fFind (fun n => !n) x.1, ())

def c16 : DCon where
  args := [.list I, .list I]
  out := .data [.bool]
  pre := fun (x : List Int × List Int × Unit) => short x.1
  fn := fun (x : List Int × List Int × Unit) => (x.1 == x.2.1, ())

/-! ### Loops -/

def numLoop (n : Nat) (a : Nat) (f : Nat → Nat) (slot : Nat) (keep : List Nat) : LA where
  σ := Nat
  ok := fun k => k ≤ n
  mu := fun k => n - k
  sl := fun k => [(a, .one (.dat U64 (f k : Nat))), (slot, .one (.dat I (k : Int)))]
  bl := fun _ => []
  keep := keep
  keepB := []

def rangeLoop (n : Nat) (p : Nat → Bool) (slot : Nat) (keep : List Nat) : LA where
  σ := Nat
  ok := fun k => k ≤ n ∧ (List.range k).all p = true
  mu := fun k => n - k
  sl := fun k => [(slot, .one (.dat I (k : Int)))]
  bl := fun _ => []
  keep := keep
  keepB := []

def a16 (x : List Int × List Int × Unit) : Ann := loopAnn [(4, fun _ => {
  σ := Nat
  ok := fun k => k ≤ x.1.length ∧ sameUp x.1 x.2.1 k
  mu := fun k => x.1.length - k
  sl := fun k => [(5, .one (.dat I (k : Int)))]
  bl := fun _ => []
  keep := [0, 1]
  keepB := [] })]

/-- A slot's number. -/
def slotI (S : St) (n : Nat) : Int :=
  match find S.sl n with
  | some (_, .one (.dat (.int _) x)) => Ty.I x
  | _ => 0

def fOfUp (l : List Int) (k : Nat) : Nat := fOf (l.take k)
def fWantsUp (l : List WantD) (k : Nat) : Nat := fWants ([], l.take k)

def a37 (x : List Int × Unit) : Ann := loopAnn [(3, fun _ => numLoop x.1.length 3 (fOfUp x.1) 8 [6, 7])]
def a34 (x : List ClaimD × Int × Unit) : Ann := loopAnn [(3, fun _ => numLoop x.1.length 5 (fOthersUp x.1 x.2.1) 10 [1, 8, 9])]
def a35 (x : ClaimD × Unit) : Ann := loopAnn [(3, fun _ => numLoop x.1.2.length 3 (fWantsUp x.1.2) 9 [7, 8])]
def a36 (x : List Int × Int × Unit) : Ann := loopAnn [(2, fun _ => allLoop (fun n => n != x.2.1) x.1 9 [1, 7, 8])]
def a45 (x : List Int × Int × Unit) : Ann := loopAnn [(2, fun _ => findLoop (fun n => n == x.2.1) x.1 8 [0, 1, 7])]
def a340032 (x : List Bool × Unit × Unit) : Ann := loopAnn [(2, fun _ => findLoop (fun n => !n) x.1 8 [0, 1, 7])]
def a38 (x : List ClaimD × Int × List Int × Unit) : Ann := loopAnn [(2, fun _ => rangeLoop x.1.length (fClearAt x.1 x.2.1 x.2.2.1) 13 [1, 2, 11, 12]), (5, fun S => findLoop (fun e => slotI S 13 != x.2.1 && x.2.2.1.contains e) (x.1.getD (slotI S 13).toNat zeroC).1 21 [1, 2, 7, 11, 12, 13, 19, 20])]
def a23 (x : List ClaimD × Int × Unit) : Ann := loopAnn [(2, fun _ => allLoop (fun w => fClear x.1 x.2.1 w.1) (x.1.getD x.2.1.toNat zeroC).2 13 [0, 1, 11, 12])]

def a13 (x : List ClaimD × Unit) : Ann := loopAnn [(4, fun _ => allLoop fClaim x.1 12 [10, 11]), (9, fun S => allLoop fWant (x.1.getD (slotI S 12).toNat zeroC).2 29 [10, 11, 12, 27, 28])]

def blkFirst (S : St) (n : Nat) : C :=
  match find S.bl n with
  | some (.cells (c :: _)) => c
  | _ => .nilsl

def blkKeep (S : St) (n : Nat) : List Nat :=
  match find S.bl n with
  | some (.cells (.row _ b :: _)) => [b]
  | _ => []

def a24 (x : ClaimD × Unit) : Ann := loopAnn [(8, fun S => {
  σ := Nat
  ok := fun k => k + 1 ≤ x.1.2.length
  mu := fun k => x.1.2.length - k
  sl := fun k => [(26, .one (.dat I (k : Int)))]
  bl := fun k => [(3, .cells [blkFirst S 3, .row WantT 1000]), (1000, .row false 38 WantT ((x.1.2.drop 1).take k))]
  keep := [2, 3, 24, 25]
  keepB := 2 :: blkKeep S 3 })]

/-- The state of an order: how many are home; what is left; who is home; the order. -/
structure OrdOk (l : List ClaimD) (s : Nat) (left : List ClaimD) (gone : List Bool) (out : List Int) : Prop where
  n : s ≤ l.length
  ll : left.length = l.length
  lg : gone.length = l.length
  lo : out.length = s
  may : fMay left = true
  cnt : gone.count true = s
  ord : fOrder l = fOrd (l.length - s) left gone out
  ins : ∀ k : Nat, k < l.length → (gone.getD k true = true ↔ (k : Int) ∈ out)

def blkCl (S : St) (n : Nat) : List ClaimD :=
  match find S.bl n with
  | some (.row _ _ (.pair (.list (.int _)) (.list (.pair (.list (.int _)) (.int _)))) x) => x
  | _ => []

def blkBo (S : St) (n : Nat) : List Bool :=
  match find S.bl n with
  | some (.row _ _ .bool x) => x
  | _ => []

def a14 (x : List ClaimD × Unit) : Ann := loopAnn [(5, fun _ => {
  σ := Nat × List ClaimD × List Bool × List Int
  ok := fun s => OrdOk x.1 s.1 s.2.1 s.2.2.1 s.2.2.2
  mu := fun s => x.1.length - s.1
  sl := fun s => [(4, .one (.row ClaimT 1000)), (5, .one (.row .bool 1001)), (6, .one (.row I 1002)), (15, .one (.dat I (s.1 : Int)))]
  bl := fun s => [(1000, .row false 35 ClaimT s.2.1), (1001, .row false 4 .bool s.2.2.1), (1002, .row false 3 I s.2.2.2)]
  keep := [0, 14]
  keepB := [] }), (7, fun S => {
  σ := Nat
  ok := fun k => k ≤ x.1.length ∧ (List.range k).any (fElig (blkCl S 1000) (blkBo S 1001)) = false
  mu := fun k => x.1.length - k
  sl := fun k => [(7, .one (.dat I (k : Int)))]
  bl := fun _ => []
  keep := [0, 4, 5, 6, 14, 15]
  keepB := [1000, 1001, 1002] })]

def blkIs (S : St) (n : Nat) : List Int :=
  match find S.bl n with
  | some (.row _ _ (.int _) x) => x
  | _ => []

def fEligO (l : List ClaimD) (out : List Int) (k : Nat) : Bool := !out.contains (k : Int) && fCan l k
def fNextO (l : List ClaimD) (out : List Int) : Nat := (List.range l.length).findIdx (fEligO l out)
def fLeftO (l : List ClaimD) (out : List Int) (found : Bool) : List ClaimD := bif found then l.set (fNextO l out) zeroC else l
def fOutO (l : List ClaimD) (out : List Int) (found : Bool) : List Int := bif found then out ++ [(fNextO l out : Int)] else out

/-- Inside the reference's search. -/
structure RefIn (n : Nat) (l : List ClaimD) (out : List Int) (k : Nat) (found : Bool) : Prop where
  kn : k ≤ n
  no : found = false → (List.range k).any (fEligO l out) = false
  yes : found = true → fNextO l out < n

def a15 (x : List ClaimD × Unit) : Ann := loopAnn [(3, fun _ => {
  σ := Nat × List ClaimD × List Bool × List Int
  ok := fun s => OrdOk x.1 s.1 s.2.1 s.2.2.1 s.2.2.2
  mu := fun s => x.1.length - s.1
  sl := fun s => [(0, .one (.row ClaimT 1000)), (4, .one (.row I 1002))]
  bl := fun s => [(1000, .row false 35 ClaimT s.2.1), (1002, .row false 3 I s.2.2.2)]
  keep := []
  keepB := [] }), (6, fun S => {
  σ := Nat × Bool
  ok := fun s => RefIn x.1.length (blkCl S 1000) (blkIs S 1002) s.1 s.2
  mu := fun s => x.1.length - s.1
  sl := fun s => [(4, .one (.row I 1002)), (5, .one (.dat .bool s.2)), (6, .one (.dat I (s.1 : Int)))]
  bl := fun s => [(1000, .row false 35 ClaimT (fLeftO (blkCl S 1000) (blkIs S 1002) s.2)), (1002, .row false 3 I (fOutO (blkCl S 1000) (blkIs S 1002) s.2))]
  keep := [0]
  keepB := [] })] [33]

/-! ### Who may go -/

def fAskd (l : List ClaimD) (k : Int) (asking : List Int) (i : Nat) : Bool := (i : Int) != k && (decide (0 < (l.getD i zeroC).2.length) && asking.contains (i : Int))
/-- Those that go: k, and of the first s those that ask. -/
def fGoes (l : List ClaimD) (k : Int) (asking : List Int) (s : Nat) : List Int := k :: ((List.range s).filter (fAskd l k asking)).map (fun (i : Nat) => (i : Int))

/-- Claims, when of the first s that go those of number m are gone. -/
def fThen (l : List ClaimD) (goes : List Int) (m : Nat) : Nat → List ClaimD
  | 0 => l
  | s + 1 => bif m.testBit s then (fThen l goes m s).set (goes.getD s 0).toNat (fAfter (l.getD (goes.getD s 0).toNat zeroC)) else fThen l goes m s

def fSafeAt (l : List ClaimD) (goes : List Int) (m : Nat) : Bool := m == 0 || (fOrder (fThen l goes m goes.length)).isSome
def fGrant (l : List ClaimD) (k : Int) (asking : List Int) : Bool := fFree l k && (List.range (2 ^ (fGoes l k asking l.length).length)).all (fSafeAt l (fGoes l k asking l.length))

def c20 : DCon where
  args := [.list ClaimT, I, .list I]
  out := .data [.bool]
  pre := fun (x : List ClaimD × Int × List Int × Unit) => fMay x.1 = true ∧ short x.2.2.1
  fn := fun (x : List ClaimD × Int × List Int × Unit) => (fGrant x.1 x.2.1 x.2.2.1, ())

/-! ### The law's own -/

def fAsked (l : List ClaimD) : Bool := decide (l.length ≤ 20) && l.all fun c => decide (c.1.length ≤ 100) && (decide (c.2.length ≤ 40) && c.2.all fun w => decide (w.1.length ≤ 100))

def c11 : DCon where
  args := [.list ClaimT]
  out := .data [.bool]
  pre := fun (x : List ClaimD × Unit) => True
  fn := fun (x : List ClaimD × Unit) => (fAsked x.1, ())

def fAskC (c : ClaimD) : Bool := decide (c.1.length ≤ 100) && (decide (c.2.length ≤ 40) && c.2.all fun w => decide (w.1.length ≤ 100))
def a11 (x : List ClaimD × Unit) : Ann := loopAnn [(4, fun _ => allLoop fAskC x.1 12 [10, 11]), (9, fun S => allLoop (fun w => decide (w.1.length ≤ 100)) (x.1.getD (slotI S 12).toNat zeroC).2 29 [10, 11, 12, 27, 28])]

def c10 : DCon where
  args := []
  out := .data [.bool]
  pre := fun (x : Unit) => True
  fn := fun (x : Unit) => (true, ())

/-- A law: whatever the arguments, it answers 'true'. -/
def lawCon (ts : List Ty) : DCon where
  args := ts
  out := .data [.bool]
  pre _ := True
  fn _ := (true, ())

def c3 : DCon := lawCon [.list ClaimT, I]
def c4 : DCon := lawCon [.list ClaimT, I, .list I]
def c5 : DCon := lawCon [.list ClaimT]
def c6 : DCon := lawCon [.list ClaimT]
def c7 : DCon := lawCon [.list ClaimT, I, .list I]
def c8 : DCon := lawCon [.list ClaimT]
def c9 : DCon := lawCon [ClaimT]

end Ytghpaejpccpgeaa
end Go.Proofs
