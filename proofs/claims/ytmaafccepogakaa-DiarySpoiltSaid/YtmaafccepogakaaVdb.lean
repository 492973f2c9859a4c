/-
  Contracts of the diary's functions.
-/
import Derived.Test.YtmaafccepogakaaVda
set_option maxRecDepth 100000
set_option linter.unusedVariables false
namespace Go.Proofs
open Go Go.Vc

namespace Ytmaafccepogakaa
abbrev I := Ty.int .i64
abbrev U8 := Ty.int .u8
abbrev InT : Ty := .pair (.list .bool) (.pair (.list I) (.pair (.list .bool) (.list .bool)))
abbrev EntryT : Ty := .pair InT (.pair (.list I) (.list I))
abbrev InD := List Bool × List Int × List Bool × List Bool
abbrev EntryD := InD × List Int × List Int

def short {α : Type} (xs : List α) : Prop := xs.length ≤ 1000000

/-! ### Lists -/

def fIn (lo hi n : Int) : Bool := decide (lo ≤ n) && decide (n ≤ hi)

def c21 : DCon where
  args := [I, I, I]
  out := .data [.bool]
  pre := fun (x : Int × Int × Int × Unit) => True
  fn := fun (x : Int × Int × Int × Unit) => (fIn x.2.1 x.2.2.1 x.1, ())

def c22 : DCon where
  args := [.list I, I, I]
  out := .data [.bool]
  pre := fun (x : List Int × Int × Int × Unit) => short x.1
  fn := fun (x : List Int × Int × Int × Unit) => (x.1.all (fIn x.2.1 x.2.2.1), ())

def a22 (x : List Int × Int × Int × Unit) : Ann := loopAnn [(2, fun _ => {
  σ := Nat
  ok := fun k => k ≤ x.1.length ∧ (x.1.take k).any (fun n => !fIn x.2.1 x.2.2.1 n) = false
  mu := fun k => x.1.length - k
  sl := fun k => [(11, .one (.dat I (k : Int)))]
  bl := fun _ => []
  keep := [1, 2, 9, 10]
  keepB := [] })]

/-- A closure's contract. -/
def c36 : DCon where
  args := [I, .ref I]
  out := .data [.bool]
  pre := fun (x : Int × Int × Unit) => True
  fn := fun (x : Int × Int × Unit) => (!fIn 0 x.2.1 x.1, ())

abbrev CloT : Ty := .clo 36 (.pair (.ref I) .unit)

def fFind {α : Type} (p : α → Bool) (xs : List α) : Int := if xs.any p then ((xs.findIdx p : Nat) : Int) else -1

def c370039 : DCon where
  args := [.list I, CloT]
  out := .data [I]
  pre := fun (x : List Int × (Int × Unit) × Unit) => short x.1
  fn := fun (x : List Int × (Int × Unit) × Unit) => (fFind (fun n => !fIn 0 x.2.1.1 n) x.1, ())

def a370039 (x : List Int × (Int × Unit) × Unit) : Ann := loopAnn [(2, fun _ => {
  σ := Nat
  ok := fun k => k ≤ x.1.length ∧ (x.1.take k).any (fun n => !fIn 0 x.2.1.1 n) = false
  mu := fun k => x.1.length - k
  sl := fun k => [(8, .one (.dat I (k : Int)))]
  bl := fun _ => []
  keep := [0, 1, 7]
  keepB := [] })]

def c370035 : DCon where
  args := [.list I, CloT]
  out := .data [.bool]
  pre := fun (x : List Int × (Int × Unit) × Unit) => short x.1
  fn := fun (x : List Int × (Int × Unit) × Unit) => (x.1.any (fun n => !fIn 0 x.2.1.1 n), ())

def c20 : DCon where
  args := [I, .list I]
  out := .data [.bool]
  pre := fun (x : Int × List Int × Unit) => short x.2.1
  fn := fun (x : Int × List Int × Unit) => (x.2.1.all (fIn 0 x.1), ())

def c37 : DCon where
  args := [.bool, U8]
  out := .data [U8]
  pre := fun (x : Bool × Int × Unit) => True
  fn := fun (x : Bool × Int × Unit) => (bif x.1 then x.2.1 else 0, ())

def c27 : DCon where
  args := [.bool, I]
  out := .data [I]
  pre := fun (x : Bool × Int × Unit) => True
  fn := fun (x : Bool × Int × Unit) => (bif x.1 then x.2.1 else 0, ())

/-- Two bytes. -/
def fTwo (n : Int) : List Int := [n / 256 % 256, n % 256]

def c24 : DCon where
  args := [I]
  out := .row 5 U8
  pre := fun (x : Int × Unit) => 0 ≤ x.1
  fn := fun (x : Int × Unit) => (fTwo x.1, ())

def c26 : OCon where
  args := [.gone (.row 5 U8), .dat I]
  outs := [.row 5 U8]
  pre := fun (x : List Int × Int × Unit) => short x.1 ∧ 0 ≤ x.2.1
  fn := fun (x : List Int × Int × Unit) => (x.1 ++ fTwo x.2.1, ())

/-! ### Equality -/

def eqCon (t : Ty) [BEq t.den] : DCon where
  args := [.list t, .list t]
  out := .data [.bool]
  pre := fun (x : List t.den × List t.den × Unit) => short x.1
  fn := fun (x : List t.den × List t.den × Unit) => (x.1 == x.2.1, ())

def c28 : DCon where
  args := [.list .bool, .list .bool]
  out := .data [.bool]
  pre := fun (x : List Bool × List Bool × Unit) => short x.1
  fn := fun (x : List Bool × List Bool × Unit) => (x.1 == x.2.1, ())

def c29 : DCon where
  args := [.list I, .list I]
  out := .data [.bool]
  pre := fun (x : List Int × List Int × Unit) => short x.1
  fn := fun (x : List Int × List Int × Unit) => (x.1 == x.2.1, ())

def c31 : DCon where
  args := [.list U8, .list U8]
  out := .data [.bool]
  pre := fun (x : List Int × List Int × Unit) => short x.1
  fn := fun (x : List Int × List Int × Unit) => (x.1 == x.2.1, ())

def c33 : DCon := c28
def c34 : DCon := c29

/-- The first k elements are the same. -/
def sameUp {α : Type} (xs ys : List α) (k : Nat) : Prop := xs.length = ys.length ∧ xs.take k = ys.take k

/-! ### Entries -/

def fMay (elems signals : Int) (e : EntryD) : Bool :=
  fIn 0 40 elems && fIn 0 24 signals && ((e.1.1.length : Int) == elems && (e.1.2.1.length : Int) == elems && (e.1.2.2.1.length : Int) == signals && (e.1.2.2.2.length : Int) == signals) &&
    e.1.2.1.all (fIn 0 2) && decide (e.2.1.length ≤ 200) && decide (e.2.2.length ≤ 200) && e.2.1.all (fIn 0 255) && e.2.2.all (fIn 0 255)

/-- No list of an entry is beyond all bounds. -/
def shortE (e : EntryD) : Prop := short e.1.1 ∧ short e.1.2.1 ∧ short e.1.2.2.1 ∧ short e.1.2.2.2 ∧ short e.2.1 ∧ short e.2.2

def c10 : DCon where
  args := [I, I, EntryT]
  out := .data [.bool]
  pre := fun (x : Int × Int × EntryD × Unit) => shortE x.2.2.1
  fn := fun (x : Int × Int × EntryD × Unit) => (fMay x.1 x.2.1 x.2.2.1, ())

def c11 : DCon := c10

def fPos (p : Int) (o : Bool) : Int := p + bif o then 4 else 0
def fLoop (l h : Bool) : Int := (bif l then 1 else 0) + bif h then 2 else 0
def fRow (l : List Int) : List Int := (l.length : Int) :: l
def fBody (e : EntryD) : List Int := List.zipWith fPos e.1.2.1 e.1.1 ++ (List.zipWith fLoop e.1.2.2.1 e.1.2.2.2 ++ (fRow e.2.1 ++ fRow e.2.2))
def fCheck (b : List Int) : Int := b.foldl (fun c x => (257 * c + x + 1) % 65521) 1
def fHead (e : EntryD) : List Int := fTwo (fBody e).length ++ fBody e
def fPut (elems signals : Int) (e : EntryD) : List Int := bif fMay elems signals e then fHead e ++ fTwo (fCheck (fHead e)) else []

/-- All bytes are bytes. -/
def bytes (b : List Int) : Prop := ∀ x ∈ b, 0 ≤ x ∧ x ≤ 255

def c25 : DCon where
  args := [.list U8]
  out := .data [I]
  pre := fun (x : List Int × Unit) => short x.1
  fn := fun (x : List Int × Unit) => (fCheck x.1, ())

def c23 : DCon where
  args := [EntryT]
  out := .row 5 U8
  pre := fun (x : EntryD × Unit) => ∃ elems signals, fMay elems signals x.1 = true
  fn := fun (x : EntryD × Unit) => (fBody x.1, ())

def c12 : DCon where
  args := [I, I, EntryT]
  out := .row 5 U8
  pre := fun (x : Int × Int × EntryD × Unit) => shortE x.2.2.1
  fn := fun (x : Int × Int × EntryD × Unit) => (fPut x.1 x.2.1 x.2.2.1, ())

def c13 : DCon := c12

/-- The same, its bytes as data. -/
def c13d : DCon where
  args := [I, I, EntryT]
  out := .data [.list U8]
  pre := fun (x : Int × Int × EntryD × Unit) => shortE x.2.2.1
  fn := fun (x : Int × Int × EntryD × Unit) => (fPut x.1 x.2.1 x.2.2.1, ())

def c12d : DCon where
  args := [I, I, EntryT]
  out := .data [.list U8]
  pre := fun (x : Int × Int × EntryD × Unit) => shortE x.2.2.1
  fn := fun (x : Int × Int × EntryD × Unit) => (fPut x.1 x.2.1 x.2.2.1, ())

def fSame (a b : EntryD) : Bool := a.1.1 == b.1.1 && (a.1.2.1 == b.1.2.1 && (a.1.2.2.1 == b.1.2.2.1 && (a.1.2.2.2 == b.1.2.2.2 && (a.2.1 == b.2.1 && a.2.2 == b.2.2))))

def c14 : DCon where
  args := [EntryT, EntryT]
  out := .data [.bool]
  pre := fun (x : EntryD × EntryD × Unit) => shortE x.1
  fn := fun (x : EntryD × EntryD × Unit) => (fSame x.1 x.2.1, ())

def c17 : DCon := c14

/-! ### Reading -/

def fTake (b : List Int) : List Int × List Int × Bool :=
  match b with
  | [] => ([], [], false)
  | n :: l => if (l.length : Int) < n then ([], [], false) else (l.take n.toNat, l.drop n.toNat, true)

def c38 : DCon where
  args := [.list U8]
  out := .data [.list I, .list U8, .bool]
  pre := fun (x : List Int × Unit) => short x.1
  fn := fun (x : List Int × Unit) => ((fTake x.1).1, (fTake x.1).2.1, (fTake x.1).2.2, ())

def zeroE : EntryD := (([], [], [], []), [], [])

def fEntryP (elems signals : Nat) (b : List Int) : EntryD × Bool :=
  if b.length < elems + signals then (zeroE, false) else
  let p := b.take elems
  let q := (b.drop elems).take signals
  let r := fTake (b.drop (elems + signals))
  let e : InD := (p.map fun x => decide (x / 4 % 2 = 1), p.map fun x => x % 4, q.map fun x => decide (x % 2 = 1), q.map fun x => decide (x / 2 % 2 = 1))
  if r.2.2 = false then ((e, [], []), false) else
  ((e, r.1, (fTake r.2.1).1), (fTake r.2.1).2.2)

def small (elems signals : Int) : Prop := 0 ≤ elems ∧ elems ≤ 40 ∧ 0 ≤ signals ∧ signals ≤ 24

def c30 : DCon where
  args := [I, I, .list U8]
  out := .data [EntryT, .bool]
  pre := fun (x : Int × Int × List Int × Unit) => small x.1 x.2.1 ∧ short x.2.2.1
  fn := fun (x : Int × Int × List Int × Unit) => ((fEntryP x.1.toNat x.2.1.toNat x.2.2.1).1, (fEntryP x.1.toNat x.2.1.toNat x.2.2.1).2, ())

def fEntryR (elems signals : Nat) (b : List Int) : EntryD × Bool :=
  if b.length < 2 + elems + signals then (zeroE, false) else
  let p := (b.drop 2).take elems
  let q := (b.drop (2 + elems)).take signals
  let r := fTake (b.drop (2 + elems + signals))
  let e : InD := (p.map fun x => decide (x ≥ 4), p.map fun x => x % 4, q.map fun x => decide (x % 2 = 1), q.map fun x => decide (x ≥ 2))
  if r.2.2 = false then (zeroE, false) else
  if (fTake r.2.1).2.2 = false then (zeroE, false) else
  ((e, r.1, (fTake r.2.1).1), fPut elems signals (e, r.1, (fTake r.2.1).1) == b)

def c32 : DCon where
  args := [I, I, .list U8]
  out := .data [EntryT, .bool]
  pre := fun (x : Int × Int × List Int × Unit) => small x.1 x.2.1 ∧ short x.2.2.1 ∧ 4 ≤ x.2.2.1.length
  fn := fun (x : Int × Int × List Int × Unit) => ((fEntryR x.1.toNat x.2.1.toNat x.2.2.1).1, (fEntryR x.1.toNat x.2.1.toNat x.2.2.1).2, ())

/-- The first entry, and how many bytes it takes. -/
def fFirst (elems signals : Nat) (b : List Int) : Option (EntryD × Nat) :=
  if b.length < 4 then none else
  let n := (b.getD 0 0 * 256 + b.getD 1 0).toNat
  if b.length < n + 4 then none else
  let r := fEntryP elems signals ((b.drop 2).take n)
  if r.2 && fPut elems signals r.1 == b.take (n + 4) then some (r.1, n + 4) else none

def fReads (elems signals : Nat) : Nat → List Int → List EntryD × Int
  | 0, _ => ([], 0)
  | k + 1, b => match fFirst elems signals b with
    | none => ([], 0)
    | some (e, n) => (e :: (fReads elems signals k (b.drop n)).1, (n : Int) + (fReads elems signals k (b.drop n)).2)

def fRead (elems signals : Int) (b : List Int) : List EntryD × Int := bif fIn 0 40 elems && fIn 0 24 signals then fReads elems.toNat signals.toNat b.length b else ([], 0)

def c15 : DCon where
  args := [I, I, .list U8]
  out := .data [.list EntryT, I]
  pre := fun (x : Int × Int × List Int × Unit) => short x.2.2.1
  fn := fun (x : Int × Int × List Int × Unit) => ((fRead x.1 x.2.1 x.2.2.1).1, (fRead x.1 x.2.1 x.2.2.1).2, ())

def c16 : DCon := c15

/-! ### The law's own -/

def fFew (e : EntryD) : Bool := decide (e.1.1.length ≤ 100) && (decide (e.1.2.1.length ≤ 100) && (decide (e.1.2.2.1.length ≤ 100) && (decide (e.1.2.2.2.length ≤ 100) && (decide (e.2.1.length ≤ 300) && decide (e.2.2.length ≤ 300)))))

def c9 : DCon where
  args := [EntryT]
  out := .data [.bool]
  pre := fun (x : EntryD × Unit) => True
  fn := fun (x : EntryD × Unit) => (fFew x.1, ())

def oneE : EntryD := (([true, false], [0, 2], [true], [false]), [7], [])

def c19 : DCon where
  args := []
  out := .data [EntryT]
  pre := fun (x : Unit) => True
  fn := fun (x : Unit) => (oneE, ())

def c8 : DCon where
  args := []
  out := .data [.bool]
  pre := fun (x : Unit) => True
  fn := fun (x : Unit) => (true, ())

/-- Entries' bytes, one behind the other; where each ends; those that have bytes. -/
def fBook (elems signals : Int) : List EntryD → List Int × List Int × List EntryD → List Int × List Int × List EntryD
  | [], r => r
  | e :: l, r => bif fMay elems signals e then fBook elems signals l (r.1 ++ fPut elems signals e, r.2.1 ++ [((r.1 ++ fPut elems signals e).length : Int)], r.2.2 ++ [e]) else fBook elems signals l r

def allShort (l : List EntryD) : Prop := ∀ e ∈ l, shortE e

def c18 : OCon where
  args := [.dat I, .dat I, .dat (.list EntryT)]
  outs := [.row 5 U8, .dat (.list I), .dat (.list EntryT)]
  pre := fun (x : Int × Int × List EntryD × Unit) => x.2.2.1.length ≤ 30 ∧ allShort x.2.2.1
  fn := fun (x : Int × Int × List EntryD × Unit) => ((fBook x.1 x.2.1 x.2.2.1 ([], [], [])).1, (fBook x.1 x.2.1 x.2.2.1 ([], [], [])).2.1, (fBook x.1 x.2.1 x.2.2.1 ([], [], [])).2.2, ())

/-- A law: whatever the arguments, it answers 'true'. -/
def lawCon (ts : List Ty) : DCon where
  args := ts
  out := .data [.bool]
  pre _ := True
  fn _ := (true, ())

def c3 : DCon := lawCon [I, I, EntryT]
def c4 : DCon := lawCon [I, I, .list U8]
def c5 : DCon := lawCon [I, I, .list EntryT, I]
def c6 : DCon := lawCon [I, I, .list EntryT, I, .int .u8]
def c7 : DCon := lawCon [I, I, EntryT, EntryT]

/-! ### Loops -/

def eqAnn {α : Type} (xs ys : List α) (slot : Nat) (keep : List Nat) : Ann := loopAnn [(4, fun _ => {
  σ := Nat
  ok := fun k => k ≤ xs.length ∧ sameUp xs ys k
  mu := fun k => xs.length - k
  sl := fun k => [(slot, .one (.dat I (k : Int)))]
  bl := fun _ => []
  keep := keep
  keepB := [] })]

def a28 (x : List Bool × List Bool × Unit) : Ann := eqAnn x.1 x.2.1 13 [0, 1, 12]
def a29 (x : List Int × List Int × Unit) : Ann := eqAnn x.1 x.2.1 13 [0, 1, 12]
def a31 (x : List Int × List Int × Unit) : Ann := eqAnn x.1 x.2.1 13 [0, 1, 12]
def a33 (x : List Bool × List Bool × Unit) : Ann := eqAnn x.1 x.2.1 5 [0, 1]
def a34 (x : List Int × List Int × Unit) : Ann := eqAnn x.1 x.2.1 5 [0, 1]

def a25 (x : List Int × Unit) : Ann := loopAnn [(3, fun _ => {
  σ := Nat
  ok := fun k => k ≤ x.1.length
  mu := fun k => x.1.length - k
  sl := fun k => [(3, .one (.dat I (fCheck (x.1.take k)))), (8, .one (.dat I (k : Int)))]
  bl := fun _ => []
  keep := [6, 7]
  keepB := [] })]

def a38 (x : List Int × Unit) : Ann := loopAnn [(5, fun _ => {
  σ := Nat
  ok := fun k => k ≤ (fTake x.1).1.length
  mu := fun k => (fTake x.1).1.length - k
  sl := fun k => [(5, .one (.row I 1000)), (29, .one (.dat I (k : Int)))]
  bl := fun k => [(1000, .row false 3 I ((fTake x.1).1.take k))]
  keep := [0, 27, 28]
  keepB := [] })]

/-- A slot's length, a slot's numbers. -/
def slotI (S : St) (n : Nat) : Int :=
  match find S.sl n with
  | some (_, .one (.dat (.int _) x)) => Ty.I x
  | _ => 0

def slotLI (S : St) (n : Nat) : List Int :=
  match find S.sl n with
  | some (_, .one (.dat (.list (.int _)) x)) => Ty.L x
  | _ => []

/-- A block's numbers. -/
def blkLI (S : St) (n : Nat) : List Int :=
  match find S.bl n with
  | some (.row _ _ (.int _) x) => x
  | _ => []

def slotBlk (S : St) (n : Nat) : List Int :=
  match find S.sl n with
  | some (_, .one (.row _ b)) => blkLI S b
  | _ => []

/-- A loop that writes one number behind the other: the row in slot 'r' (type number 'e', numbers of kind 'k'), the counter in slot 'c'. -/
def pushLoop (r c e : Nat) (kd : IntKind) (old new : List Int) (keep keepB : List Nat) : LA where
  σ := Nat
  ok := fun k => k ≤ new.length
  mu := fun k => new.length - k
  sl := fun k => [(r, .one (.row (.int kd) 1000)), (c, .one (.dat I (k : Int)))]
  bl := fun k => [(1000, .row false e (.int kd) (old ++ new.take k))]
  keep := keep
  keepB := keepB

/-- The calls' and the cancels' rows, the first 'k' of them. -/
def fRows (e : EntryD) : Nat → List Int
  | 0 => []
  | 1 => fRow e.2.1
  | _ => fRow e.2.1 ++ fRow e.2.2

def rowsLoop (r c cells : Nat) (e : EntryD) (old : List Int) (keep keepB : List Nat) : LA where
  σ := Nat
  ok := fun k => k ≤ 2
  mu := fun k => 2 - k
  sl := fun k => [(r, .one (.row U8 1000)), (c, .one (.dat I (k : Int)))]
  bl := fun k => [(1000, .row false 5 U8 (old ++ fRows e k))]
  keep := keep
  keepB := keepB

def a23 (x : EntryD × Unit) : Ann := loopAnn [
  (3, fun _ => pushLoop 3 16 5 .u8 [] (List.zipWith fPos x.1.1.2.1 x.1.1.1) [1, 14, 15] [1]),
  (8, fun _ => pushLoop 3 39 5 .u8 (List.zipWith fPos x.1.1.2.1 x.1.1.1) (List.zipWith fLoop x.1.1.2.2.1 x.1.1.2.2.2) [1, 37, 38] [1]),
  (13, fun S => rowsLoop 3 64 62 x.1 (slotBlk S 3) [62, 63] [62]),
  (17, fun S => pushLoop 3 76 5 .u8 (slotBlk S 3) (slotLI S 74) [62, 63, 64, 74, 75] [62])]

def a13 (x : Int × Int × EntryD × Unit) : Ann := loopAnn [
  (5, fun S => pushLoop 7 36 5 .u8 (slotBlk S 7) (List.zipWith fPos x.2.2.1.1.2.1 x.2.2.1.1.1) [1, 5, 35] [5]),
  (10, fun S => pushLoop 7 59 5 .u8 (slotBlk S 7) (List.zipWith fLoop x.2.2.1.1.2.2.1 x.2.2.1.1.2.2.2) [5, 58] [5]),
  (15, fun S => rowsLoop 7 88 86 x.2.2.1 (slotBlk S 7) [86, 87] [86]),
  (19, fun S => pushLoop 7 100 5 .u8 (slotBlk S 7) (slotLI S 98) [86, 87, 88, 98, 99] [86]),
  (26, fun S => {
  σ := Nat
  ok := fun k => k ≤ (slotBlk S 7).length
  mu := fun k => (slotBlk S 7).length - k
  sl := fun k => [(14, .one (.dat I (fCheck ((slotBlk S 7).take k)))), (113, .one (.dat I (k : Int)))]
  bl := fun _ => []
  keep := [7, 111, 112]
  keepB := [1000] })]

/-- An entry whose lists are being written. -/
def entryCells (n : Nat) : List C := [.row .bool 1001, .row I 1000] ++ (if n ≥ 4 then [.row .bool 1002, .row .bool 1003] else [.nilsl, .nilsl]) ++ (if n ≥ 5 then [.row I 1004] else [.nilsl]) ++ (if n ≥ 6 then [.row I 1005] else [.nilsl])

def bitB (d : Int) (x : Int) : Bool := decide (x / d % 2 = 1)

def posLoop (sl : Nat → List (Nat × SV)) (p : List Int) (f : Int → Bool) (n : Nat) (keep keepB : List Nat) : LA where
  σ := Nat
  ok := fun k => k ≤ n ∧ k ≤ p.length
  mu := fun k => n - k
  sl := sl
  bl := fun k => [(8, .cells [.row .bool 1001, .row I 1000, .nilsl, .nilsl, .nilsl, .nilsl]), (1000, .row false 3 I ((p.take k).map fun x => x % 4)), (1001, .row false 4 .bool ((p.take k).map f))]
  keep := keep
  keepB := keepB

def loopLoop (sl : Nat → List (Nat × SV)) (p q : List Int) (f g : Int → Bool) (n : Nat) (keep keepB : List Nat) : LA where
  σ := Nat
  ok := fun k => k ≤ n ∧ k ≤ q.length
  mu := fun k => n - k
  sl := sl
  bl := fun k => [(8, .cells [.row .bool 1001, .row I 1000, .row .bool 1002, .row .bool 1003, .nilsl, .nilsl]), (1000, .row false 3 I (p.map fun x => x % 4)), (1001, .row false 4 .bool (p.map f)),
    (1002, .row false 4 .bool ((q.take k).map fun x => decide (x % 2 = 1))), (1003, .row false 4 .bool ((q.take k).map g))]
  keep := keep
  keepB := keepB

def a30 (x : Int × Int × List Int × Unit) : Ann := loopAnn [
  (5, fun _ => posLoop (fun k => [(28, .one (.dat I (k : Int)))]) (x.2.2.1.take x.1.toNat) (bitB 4) x.1.toNat [0, 1, 2, 6, 8, 26, 27] [6]),
  (10, fun _ => loopLoop (fun k => [(60, .one (.dat I (k : Int)))]) (x.2.2.1.take x.1.toNat) ((x.2.2.1.drop x.1.toNat).take x.2.1.toNat) (bitB 4) (bitB 2) x.2.1.toNat [0, 1, 2, 6, 8, 58, 59] [6])]

def geB (d : Int) (x : Int) : Bool := decide (x ≥ d)

/-- The state of the calls and cancels in the reference's reading. -/
def fAt (b : List Int) (at0 : Nat) (k : Nat) : Int :=
  match k with
  | 0 => at0
  | 1 => at0 + 1 + ((fTake (b.drop at0)).1.length : Int)
  | _ => at0 + 1 + ((fTake (b.drop at0)).1.length : Int) + 1 + ((fTake (fTake (b.drop at0)).2.1).1.length : Int)

def fCalls (b : List Int) (at0 : Nat) (k : Nat) : List Int := match k with
  | 0 => []
  | _ => (fTake (b.drop at0)).1
def fCancels (b : List Int) (at0 : Nat) (k : Nat) : List Int := match k with
  | 0 => []
  | 1 => []
  | _ => (fTake (fTake (b.drop at0)).2.1).1
def fOks (b : List Int) (at0 : Nat) (k : Nat) : Prop := k ≤ 2 ∧ (1 ≤ k → (fTake (b.drop at0)).2.2 = true) ∧ (2 ≤ k → (fTake (fTake (b.drop at0)).2.1).2.2 = true)

def a32 (x : Int × Int × List Int × Unit) : Ann := loopAnn [
  (4, fun _ => posLoop (fun k => [(9, .one (.dat I (2 + k : Int))), (15, .one (.dat I (k : Int)))]) ((x.2.2.1.drop 2).take x.1.toNat) (geB 4) x.1.toNat [0, 1, 2, 6, 8, 14] [6]),
  (11, fun _ => loopLoop (fun k => [(9, .one (.dat I (2 + x.1 + k : Int))), (51, .one (.dat I (k : Int)))]) ((x.2.2.1.drop 2).take x.1.toNat) ((x.2.2.1.drop (2 + x.1.toNat)).take x.2.1.toNat) (geB 4) (geB 2) x.2.1.toNat [0, 1, 2, 6, 8, 50] [6]),
  (18, fun _ => {
  σ := Nat
  ok := fun k => fOks x.2.2.1 (2 + x.1.toNat + x.2.1.toNat) k
  mu := fun k => 2 - k
  sl := fun k => [(9, .one (.dat I (fAt x.2.2.1 (2 + x.1.toNat + x.2.1.toNat) k))), (86, .one (.dat I (k : Int)))]
  bl := fun k => [(8, .cells [.row .bool 1001, .row I 1000, .row .bool 1002, .row .bool 1003, .row I 1004, .row I 1005]), (1004, .row false 3 I (fCalls x.2.2.1 (2 + x.1.toNat + x.2.1.toNat) k)), (1005, .row false 3 I (fCancels x.2.2.1 (2 + x.1.toNat + x.2.1.toNat) k))]
  keep := [0, 1, 2, 6, 8]
  keepB := [6, 1000, 1001, 1002, 1003] }),
  (23, fun S => {
  σ := Nat
  ok := fun k => k ≤ (slotLI S 118).length
  mu := fun k => (slotLI S 118).length - k
  sl := fun k => [(120, .one (.dat I (k : Int)))]
  bl := fun k => [(8, .cells [.row .bool 1001, .row I 1000, .row .bool 1002, .row .bool 1003, .row I 1004, .row I 1005]), (1004, .row false 3 I (blkLI S 1004 ++ bif slotI S 10 == 0 then (slotLI S 118).take k else [])), (1005, .row false 3 I (blkLI S 1005 ++ bif slotI S 10 == 0 then [] else (slotLI S 118).take k))]
  keep := [0, 1, 2, 6, 8, 9, 10, 86, 118, 119]
  keepB := [6, 1000, 1001, 1002, 1003] })] [125]

def fR (elems signals : Int) (b : List Int) : List EntryD × Int := fReads elems.toNat signals.toNat b.length b

def readLoop (m n : Int) (b : List Int) : LA where
  σ := List EntryD × Nat
  ok := fun s => s.2 ≤ b.length ∧ fR m n b = (s.1 ++ (fR m n (b.drop s.2)).1, (s.2 : Int) + (fR m n (b.drop s.2)).2) ∧ s.1.length ≤ s.2 ∧ ((fIn 0 40 m && fIn 0 24 n) = false → s = ([], 0))
  mu := fun s => b.length - s.2
  sl := fun s => [(8, .one (.row EntryT 1000)), (9, .one (.dat I (s.2 : Int)))]
  bl := fun s => [(1000, .row false 27 EntryT s.1)]
  keep := [0, 1, 2]
  keepB := []

def a15 (x : Int × Int × List Int × Unit) : Ann := loopAnn [(5, fun _ => readLoop x.1 x.2.1 x.2.2.1)]
def a16 (x : Int × Int × List Int × Unit) : Ann := loopAnn [(3, fun _ => readLoop x.1 x.2.1 x.2.2.1)]

def a18 (x : Int × Int × List EntryD × Unit) : Ann := loopAnn [(5, fun _ => {
  σ := Nat
  ok := fun k => k ≤ x.2.2.1.length
  mu := fun k => x.2.2.1.length - k
  sl := fun k => [(9, .one (.row U8 1000)), (10, .one (.row I 1001)), (11, .one (.row EntryT 1002)), (17, .one (.dat I (k : Int)))]
  bl := fun k => [(1000, .row false 5 U8 (fBook x.1 x.2.1 (x.2.2.1.take k) ([], [], [])).1), (1001, .row false 3 I (fBook x.1 x.2.1 (x.2.2.1.take k) ([], [], [])).2.1), (1002, .row false 27 EntryT (fBook x.1 x.2.1 (x.2.2.1.take k) ([], [], [])).2.2)]
  keep := [0, 1, 15, 16]
  keepB := [] })] [27]

/-! ### The laws' loops -/

def a4 (x : Int × Int × List Int × Unit) : Ann := loopAnn [(10, fun S => {
  σ := Nat
  ok := fun k => k ≤ (fRead x.1 x.2.1 x.2.2.1).1.length
  mu := fun k => (fRead x.1 x.2.1 x.2.2.1).1.length - k
  sl := fun k => [(43, .one (.dat I (k : Int)))]
  bl := fun _ => []
  keep := [7, 9, 42]
  keepB := [] })]

def allFew (l : List EntryD) (k : Nat) : Prop := ∀ e ∈ l.take k, fFew e = true

def fewLoop (l : List EntryD) (slot : Nat) (keep : List Nat) : LA where
  σ := Nat
  ok := fun k => k ≤ l.length ∧ allFew l k
  mu := fun k => l.length - k
  sl := fun k => [(slot, .one (.dat I (k : Int)))]
  bl := fun _ => []
  keep := keep
  keepB := []

/-- How many ends are not beyond a place, and the last one of them. -/
def fEnds (K : Int) (l : List Int) : Int × Int := l.foldl (fun r x => bif decide (x ≤ K) then (r.1 + 1, x) else r) (0, 0)

def endsLoop (K : Int) (l : List Int) (a b slot : Nat) (keep keepB : List Nat) : LA where
  σ := Nat
  ok := fun k => k ≤ l.length
  mu := fun k => l.length - k
  sl := fun k => [(a, .one (.dat I (fEnds K (l.take k)).1)), (b, .one (.dat I (fEnds K (l.take k)).2)), (slot, .one (.dat I (k : Int)))]
  bl := fun _ => []
  keep := keep
  keepB := keepB

def a5 (x : Int × Int × List EntryD × Int × Unit) : Ann := loopAnn [
  (6, fun _ => fewLoop x.2.2.1 29 [0, 1, 2, 3, 27, 28]),
  (16, fun S => endsLoop (slotI S 14) (slotLI S 62) 17 18 64 [13, 14, 15, 16, 62, 63] []),
  (24, fun _ => {
  σ := Nat
  ok := fun k => k ≤ 100
  mu := fun k => 100 - k
  sl := fun k => [(86, .one (.dat I (k : Int)))]
  bl := fun _ => []
  keep := [13, 15, 85]
  keepB := [] })]

def a6 (x : Int × Int × List EntryD × Int × Int × Unit) : Ann := loopAnn [
  (6, fun _ => fewLoop x.2.2.1 30 [0, 1, 2, 3, 4, 28, 29]),
  (17, fun S => endsLoop (slotI S 16) (slotLI S 56) 17 18 58 [0, 1, 4, 13, 16, 56, 57] [43000])]

end Ytmaafccepogakaa
end Go.Proofs
