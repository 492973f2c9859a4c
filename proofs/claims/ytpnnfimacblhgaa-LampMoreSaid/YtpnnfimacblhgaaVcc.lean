/-
  The symbolic executor for single operations: what each operation answers, what it asks for, which blocks it makes or changes.
-/
import Derived.Test.YtpnnfimacblhgaaVcb
set_option linter.unusedVariables false
set_option linter.unusedSimpArgs false
namespace Go.Vc
open Go

/-! ### The program's types, as far as they are wanted -/

inductive TD where
  | int (k : IntKind)
  | bool
  | str
  | slice (e : Nat)
  | struct (fs : List (Nat × Nat × Nat))
  | plain
  | array (n e : Nat)
  | other

structure TI where
  id : Nat
  d : TD
  size : Nat
  bytes : Nat
  zero : Value
  ty : Option Ty
  eq : Bool

def skel (P : Program) (t : Nat) : TD :=
  match P.underlying t with
  | some (.int k) => .int k
  | some .bool => .bool
  | some .string => .str
  | some (.slice e) => .slice e
  | some (.struct fs) => .struct (fs.toList.map fun f => (f.offset, P.cellsOf f.type, f.type))
  | some (.pointer _) => .plain
  | some (.array n e) => .array n e
  | some (.func _ _ _) => .plain
  | _ => .other

def tabOf : List TI → Nat → Option TI
  | [], _ => none
  | i :: l, t => match Nat.beq i.id t with
    | true => some i
    | false => tabOf l t

/-- '==' on a struct is field by field. -/
def plainEq (P : Program) (t : Nat) : Bool :=
  !P.eqGuardType P.depth t && !P.stoodInHeld t && (match P.underlying t with
    | some (.struct fs) => fs.toList.all fun f => f.name != "_"
    | _ => false)

structure TabOk (P : Program) (tab : List TI) : Prop where
  skels : tab.map (fun i => skel P i.id) = tab.map (fun i => i.d)
  infos : tab.map (fun i => (P.info? i.id).map fun j => (j.size, j.bytes, j.zero)) = tab.map (fun i => some (i.size, i.bytes, some i.zero))
  eqs : tab.map (fun i => plainEq P i.id) = tab.map (fun i => i.eq)
  mixed : P.follows .mixedOrders = true

/-! ### Constants and operands -/

def constC : Value → Option C
  | .bool b => some (.dat .bool b)
  | .int k n => (match decide (k.min ≤ n) && decide (n ≤ k.max) with
    | true => some (.dat (.int k) n)
    | false => none)
  | .string s => (match Nat.ble s.data.toList.length maxLenI with
    | true => some (.dat .str s.data.toList)
    | false => none)
  | .slice none 0 0 => some .nilsl
  | .pointer none => some .nilptr
  | .nilFunc => some .nilfn
  | _ => none

def constCs : List Value → Option (List C)
  | [] => some []
  | v :: vs => match constC v, constCs vs with
    | some c, some cs => some (c :: cs)
    | _, _ => none

def constSV : Value → Option SV
  | .agg vs => (constCs vs.toList).map .agg
  | v => (constC v).map .one

def RM.ofOption {α : Type} : Option α → RM α
  | some a => .ret a
  | none => .fail

def evx (ex : Tags) : Operand → RM SV
  | .tmp t => .slot ex t .ret
  | .const v => RM.ofOption (constSV v)
  | .func f => .ret (.one (.dat (.clo f .unit) ()))
  | _ => .fail

def ev (x : Operand) : RM SV := evx [] x

def asC : SV → RM C
  | .one c => .ret c
  | _ => .fail

def evC (x : Operand) : RM C := do asC (← ev x)

def asCells : SV → RM (List C)
  | .one c => .ret [c]
  | .agg cs => .ret cs
  | _ => .fail

def asB : SV → RM Bool
  | .one (.dat .bool b) => .ret b
  | _ => .fail

def asI : SV → RM Int
  | .one (.dat (.int _) n) => .ret n
  | _ => .fail

/-! ### Symbolic cells back to data -/

abbrev Fro := List (Nat × Blk)

def guardR (b : Bool) : RM Unit :=
  match b with
  | true => .ret ()
  | false => .fail

def at' {t : Ty} (xs : List t.den) (i : Nat) : t.den := xs.getD i t.dflt

def lit {t : Ty} (x : List t.den) : (Ty.list t).den := x

def reifyC (t : Ty) : C → RM (t.den × Fro)
  | .dat _ x => do return (← RM.ofOption (Ty.as t x), [])
  | .row tt b => .blk b fun
    | .row _ e t' xs => (match tt.beq t' with
      | true => do return (← RM.ofOption (Ty.as (a := .list t') t (lit xs)), [(b, .row true e t' xs)])
      | false => .fail)
    | _ => .fail
  | .sub tt b lo len => .blk b fun
    | .row _ e t' xs => (match tt.beq t' with
      | true => do return (← RM.ofOption (Ty.as (a := .list t') t (lit ((xs.drop lo).take len))), [(b, .row true e t' xs)])
      | false => .fail)
    | _ => .fail
  | .nilsl => (match t with
    | .list _ => .ret ([], [])
    | _ => .fail)
  | .nilptr => (match t with
    | .ptr _ => .ret (none, [])
    | _ => .fail)
  | _ => .fail

def noId : Fro → Nat → Bool
  | [], _ => true
  | (m, _) :: l, n => match Nat.beq m n with
    | true => false
    | false => noId l n

def isF : Blk → Bool
  | .fcells _ _ => true
  | _ => false

/-- Variables that one of the two freezes are none of the other's. -/
def apart1 : Fro → Fro → Bool
  | [], _ => true
  | (m, B) :: l, g => (!isF B || noId g m) && apart1 l g

def froApart (f g : Fro) : Bool := apart1 f g && apart1 g f

def reify : (t : Ty) → List C → RM (t.den × Fro)
  | .unit, cs => (match cs with
    | [] => .ret ((), [])
    | _ => .fail)
  | .pair a b, cs => do
    let x ← reify a (cs.take a.size)
    let y ← reify b (cs.drop a.size)
    guardR (froApart x.2 y.2)
    return ((x.1, y.1), x.2 ++ y.2)
  | .int k, cs => (match cs with
    | [c] => reifyC (.int k) c
    | _ => .fail)
  | .bool, cs => (match cs with
    | [c] => reifyC .bool c
    | _ => .fail)
  | .str, cs => (match cs with
    | [c] => reifyC .str c
    | _ => .fail)
  | .list t, cs => (match cs with
    | [c] => reifyC (.list t) c
    | _ => .fail)
  | .ref t, cs => (match cs with
    | [.elt t' xs i o] => (match Nat.beq o 0 with
      | true => do return (← RM.ofOption (Ty.as (a := t') t (at' xs i)), [])
      | false => .fail)
    | [.ptr b o] => (match Nat.beq o 0 with
      | true => .blk b fun
        | .cells cs => do
          let y ← reify t cs
          guardR y.2.isEmpty
          return (y.1, [(b, .fcells t y.1)])
        | .fcells t' x => do return (← RM.ofOption (Ty.as (a := t') t x), [(b, .fcells t' x)])
        | _ => .fail
      | false => .fail)
    | _ => .fail)
  | .ptr t, cs => (match cs with
    | [.elt t' xs i o] => (match Nat.beq o 0 with
      | true => do return (some (← RM.ofOption (Ty.as (a := t') t (at' xs i))), [])
      | false => .fail)
    | [.ptr b o] => (match Nat.beq o 0 with
      | true => .blk b fun
        | .cells cs => do
          let y ← reify t cs
          guardR y.2.isEmpty
          return (some y.1, [(b, .fcells t y.1)])
        | .fcells t' x => do return (some (← RM.ofOption (Ty.as (a := t') t x)), [(b, .fcells t' x)])
        | _ => .fail
      | false => .fail)
    | [c] => reifyC (.ptr t) c
    | _ => .fail)
  | .clo k t, cs => (match cs with
    | [c] => reifyC (.clo k t) c
    | _ => .fail)

/-! ### What an operation does -/

structure Res where
  val : Option SV := none
  blks : List (Nat × Blk) := []
  del : List Nat := []
  new : List Nat := []
  conds : List Prop := []

def pureV (v : SV) : RM Res := .ret { val := some v }
def pureC (c : C) : RM Res := .ret { val := some (.one c) }
def pureIf (p : Prop) (c : C) : RM Res := .ret { val := some (.one c), conds := [p] }

structure Con where
  run : List SV → Nat → RM Res

structure Ctx where
  tab : List TI
  con : Nat → Option Con
  wraps : List Nat := []
  clos : List (Nat × Ty) := []
  mclos : List Nat := []

def ti (X : Ctx) (t : Nat) : RM TI := RM.ofOption (tabOf X.tab t)

def isStruct : TD → Bool
  | .struct _ => true
  | _ => false

def mkSV (d : TD) (cs : List C) : RM SV :=
  match d with
  | .struct _ => .ret (.agg cs)
  | .array _ _ => .fail
  | .other => .fail
  | _ => (match cs with
    | [c] => .ret (.one c)
    | _ => .fail)

def splice (cs : List C) (o : Nat) (ds : List C) : List C := cs.take o ++ ds ++ cs.drop (o + ds.length)

def kindLe : IntKind → IntKind → Bool
  | .u8, .u8 | .u8, .u16 | .u8, .u32 | .u8, .u64 | .u8, .i16 | .u8, .i32 | .u8, .i64 => true
  | .u16, .u16 | .u16, .u32 | .u16, .u64 | .u16, .i32 | .u16, .i64 => true
  | .u32, .u32 | .u32, .u64 | .u32, .i64 => true
  | .u64, .u64 => true
  | .i8, .i8 | .i8, .i16 | .i8, .i32 | .i8, .i64 => true
  | .i16, .i16 | .i16, .i32 | .i16, .i64 => true
  | .i32, .i32 | .i32, .i64 => true
  | .i64, .i64 => true
  | _, _ => false

/-- Bits of two numbers of a kind. -/
def bitsOf (op : BinOp) (k : IntKind) (x y : Int) : Int :=
  match op with
  | .and => k.wrap ((BitVec.ofInt k.bits x &&& BitVec.ofInt k.bits y).toNat)
  | .or => k.wrap ((BitVec.ofInt k.bits x ||| BitVec.ofInt k.bits y).toNat)
  | .xor => k.wrap ((BitVec.ofInt k.bits x ^^^ BitVec.ofInt k.bits y).toNat)
  | _ => k.wrap ((BitVec.ofInt k.bits x &&& ~~~ (BitVec.ofInt k.bits y)).toNat)

/-- A number that may leave its kind: wrapped where that is asked for, else asked to fit. -/
def arith (w : Bool) (k : IntKind) (n : Int) : RM Res :=
  match w || !k.signed with
  | true => pureC (.dat (.int k) (k.wrap n))
  | false => pureIf (InR k n) (.dat (.int k) n)

def intOp (w : Bool) (op : BinOp) (k : IntKind) (a b : Int) : RM Res :=
  match op with
  | .add => arith w k (a + b)
  | .sub => arith w k (a - b)
  | .mul => arith w k (a * b)
  | .quo => .ret { val := some (.one (.dat (.int k) (k.wrap (a.tdiv b)))), conds := [b ≠ 0] }
  | .rem => .ret { val := some (.one (.dat (.int k) (a.tmod b))), conds := [b ≠ 0] }
  | .and => pureC (.dat (.int k) (bitsOf .and k a b))
  | .or => pureC (.dat (.int k) (bitsOf .or k a b))
  | .xor => pureC (.dat (.int k) (bitsOf .xor k a b))
  | .andNot => pureC (.dat (.int k) (bitsOf .andNot k a b))
  | .eql => pureC (.dat .bool (a == b))
  | .neq => pureC (.dat .bool (a != b))
  | .lss => pureC (.dat .bool (decide (a < b)))
  | .leq => pureC (.dat .bool (decide (a ≤ b)))
  | .gtr => pureC (.dat .bool (decide (a > b)))
  | .geq => pureC (.dat .bool (decide (a ≥ b)))
  | _ => .fail

def shiftOp (op : BinOp) (k : IntKind) (a b : Int) : RM Res :=
  match op with
  | .shl => .ret { val := some (.one (.dat (.int k) (k.wrap (a * 2 ^ (min b.toNat k.bits))))), conds := [0 ≤ b] }
  | .shr => .ret { val := some (.one (.dat (.int k) (a.fdiv (2 ^ (min b.toNat k.bits))))), conds := [0 ≤ b] }
  | _ => .fail

def strOp (op : BinOp) (a b : List UInt8) : RM Res :=
  match op with
  | .add => pureIf (a.length + b.length ≤ maxLenI) (.dat .str (a ++ b))
  | .eql => pureC (.dat .bool (a == b))
  | .neq => pureC (.dat .bool (!(a == b)))
  | .lss => pureC (.dat .bool (Op.bytesLess a b))
  | _ => .fail

/-- '==' on cells that hold scalars. -/
def eqC : TD → C → C → Option Bool
  | .int _, .dat (.int j) a, .dat (.int k) b => (match kindBeq j k with
    | true => some (Ty.I a == Ty.I b)
    | false => none)
  | .bool, .dat .bool a, .dat .bool b => some (Ty.B a == Ty.B b)
  | .str, .dat .str a, .dat .str b => some (Ty.S a == Ty.S b)
  | _, _, _ => none

def isShift : BinOp → Bool
  | .shl | .shr => true
  | _ => false

def binR (w : Bool) (op : BinOp) : SV → SV → RM Res
  | .one (.dat (.int j) a), .one (.dat (.int k) b) => (match isShift op with
    | true => shiftOp op j a b
    | false => (match kindBeq j k with
      | true => intOp w op j a b
      | false => .fail))
  | .one (.dat .str a), .one (.dat .str b) => strOp op a b
  | .one (.dat .bool a), .one (.dat .bool b) => (match op with
    | .eql => pureC (.dat .bool (Ty.B a == Ty.B b))
    | .neq => pureC (.dat .bool (!(Ty.B a == Ty.B b)))
    | _ => .fail)
  | _, _ => .fail

/-- '==' on structs of scalars, field by field. -/
def eqFields (X : Ctx) : List (Nat × Nat × Nat) → List C → List C → RM Bool
  | [], _, _ => .ret true
  | (off, _, t) :: fs, cs, ds => do
    let i ← ti X t
    match cs[off]?, ds[off]? with
    | some c, some d => (do
      let b ← RM.ofOption (eqC i.d c d)
      let r ← eqFields X fs cs ds
      return (b && r))
    | _, _ => .fail

def lenR : C → RM Res
  | .dat (.list _) xs => pureC (.dat (.int .i64) ((Ty.L xs).length : Int))
  | .dat .str s => pureC (.dat (.int .i64) ((Ty.S s).length : Int))
  | .row tt b => .blk b fun
    | .row _ _ t xs => (match tt.beq t with
      | true => pureC (.dat (.int .i64) (xs.length : Int))
      | false => .fail)
    | _ => .fail
  | .sub _ _ _ len => pureC (.dat (.int .i64) (len : Int))
  | .nilsl => pureC (.dat (.int .i64) (0 : Int))
  | _ => .fail

def InB (n : Int) (len : Nat) : Prop := 0 ≤ n ∧ n < len

/-- The place of an element. -/
def indexR (size : Nat) (n : Int) : C → RM Res
  | .dat (.list t) xs => (match Nat.beq size t.size with
    | true => pureIf (InB n (Ty.L xs).length) (.elt t xs n.toNat 0)
    | false => .fail)
  | .row tt b => .blk b fun
    | .row _ _ t xs => (match Nat.beq size t.size && tt.beq t with
      | true => pureIf (InB n xs.length) (.rptr t b n.toNat 0)
      | false => .fail)
    | _ => .fail
  | .sub tt b lo len => .blk b fun
    | .row _ _ t _ => (match Nat.beq size t.size && tt.beq t with
      | true => pureIf (InB n len) (.rptr t b (lo + n.toNat) 0)
      | false => .fail)
    | _ => .fail
  | _ => .fail

/-- Cells behind a place. -/
def loadCs (size : Nat) : C → RM (List C)
  | .ptr b o => .blk b fun
    | .cells cs => .ret ((cs.drop o).take size)
    | .fcells t x => .ret (((flat t x).drop o).take size)
    | _ => .fail
  | .rptr tt b i o => .blk b fun
    | .row _ _ t xs => (match tt.beq t with
      | true => .ret (((flat t (at' xs i)).drop o).take size)
      | false => .fail)
    | _ => .fail
  | .elt t xs i o => .ret (((flat t (at' xs i)).drop o).take size)
  | _ => .fail

/-- The place of an array's element. -/
def indexA (size len : Nat) (n : Int) : C → RM Res
  | .rptr tt b i o => .blk b fun
    | .row _ _ t xs => (match Nat.beq i 0 && (Nat.beq o 0 && (Nat.beq size t.size && tt.beq t)) with
      | true => pureIf (InB n len ∧ xs.length = len) (.rptr t b n.toNat 0)
      | false => .fail)
    | _ => .fail
  | _ => .fail

def storeR (size : Nat) (cs : List C) : C → RM Res
  | .ptr b o => .blk b fun
    | .cells old => (match Nat.beq cs.length size && Nat.ble (o + size) old.length with
      | true => .ret { blks := [(b, .cells (splice old o cs))] }
      | false => .fail)
    | _ => .fail
  | .rptr tt b i o => .blk b fun
    | .row false e t xs => (match tt.beq t && Nat.beq cs.length size && Nat.ble (o + size) t.size with
      | true => (match Nat.beq size t.size with
        | true => do
          let y ← reify t cs
          guardR (noId y.2 b)
          .ret { blks := y.2 ++ [(b, .row false e t (xs.set i y.1))] }
        | false => do
          let y ← reify t (splice (flat t (at' xs i)) o cs)
          guardR (noId y.2 b)
          .ret { blks := y.2 ++ [(b, .row false e t (xs.set i y.1))] })
      | false => .fail)
    | _ => .fail
  | _ => .fail

def cut {α : Type} (xs : List α) (lo hi : Option Int) : List α :=
  match lo, hi with
  | none, none => xs
  | some l, none => xs.drop l.toNat
  | none, some h => xs.take h.toNat
  | some l, some h => (xs.take h.toNat).drop l.toNat

def cutOk (len : Nat) : Option Int → Option Int → List Prop
  | none, none => []
  | some l, none => [0 ≤ l ∧ l ≤ len]
  | none, some h => [0 ≤ h ∧ h ≤ len]
  | some l, some h => [0 ≤ l ∧ l ≤ h, h ≤ len]

def cutLo : Option Int → Nat
  | none => 0
  | some l => l.toNat

def cutLen (len : Nat) : Option Int → Option Int → Nat
  | none, none => len
  | some l, none => len - l.toNat
  | none, some h => h.toNat
  | some l, some h => h.toNat - l.toNat

def evO : Option Operand → RM (Option Int)
  | none => .ret none
  | some x => do return some (← asI (← ev x))

def sliceR (lo hi : Option Int) : C → RM Res
  | .dat (.list t) xs => .ret { val := some (.one (.dat (.list t) (cut (Ty.L xs) lo hi))), conds := cutOk (Ty.L xs).length lo hi }
  | .dat .str s => .ret { val := some (.one (.dat .str (cut (Ty.S s) lo hi))), conds := cutOk ((Ty.S s).length) lo hi }
  | .row tt b => .blk b fun
    | .row _ _ t xs => (match tt.beq t with
      | true => .ret { val := some (.one (.sub t b (cutLo lo) (cutLen xs.length lo hi))), conds := cutOk xs.length lo hi }
      | false => .fail)
    | _ => .fail
  | .sub t b l len => .ret { val := some (.one (.sub t b (l + cutLo lo) (cutLen len lo hi))), conds := cutOk len lo hi }
  | _ => .fail

/-- What is appended, as data. -/
def srcR (t : Ty) : C → RM (List t.den)
  | .dat (.list t') xs => RM.ofOption (Ty.as (a := .list t') (.list t) xs)
  | .row tt b => .blk b fun
    | .row _ _ t' xs => (match tt.beq t' with
      | true => RM.ofOption (Ty.as (a := .list t') (.list t) (lit xs))
      | false => .fail)
    | _ => .fail
  | .sub tt b lo len => .blk b fun
    | .row _ _ t' xs => (match tt.beq t' with
      | true => RM.ofOption (Ty.as (a := .list t') (.list t) (lit ((xs.drop lo).take len)))
      | false => .fail)
    | _ => .fail
  | .nilsl => .ret []
  | _ => .fail

/-- There is room for so many elements of so many bytes. -/
def roomFor (n bytes : Nat) : Prop := n * (bytes + 1) ≤ 140737488355328

def appendR (d e : Nat) (i : TI) (t : Ty) (s x : C) : RM Res := do
  let ys ← srcR t x
  match s with
  | .nilsl => .ret { val := some (.one (.row t d)), blks := [(d, .row false e t ys)], new := [d], conds := [roomFor ys.length i.bytes] }
  | .row tt b => .blk b fun
    | .row false e' t' xs => (match tt.beq t' && Nat.beq e e' with
      | true => do
        let zs ← RM.ofOption (Ty.as (a := .list t') (.list t) (lit xs))
        .ret { val := some (.one (.row t d)), blks := [(d, .row false e t (Ty.L zs ++ ys))], del := [b], new := [d], conds := [roomFor ((Ty.L zs).length + ys.length) i.bytes] }
      | false => .fail)
    | _ => .fail
  | _ => .fail

/-- A struct's cells with parts put in. -/
def buildCs (fs : List (Nat × Nat × Nat)) : List (Nat × Operand) → List C → RM (List C)
  | [], cs => .ret cs
  | (i, x) :: ps, cs => do
    let v ← asCells (← ev x)
    match fs[i]? with
    | some (off, size, _) => (match Nat.beq v.length size && Nat.ble (off + size) cs.length with
      | true => buildCs fs ps (splice cs off v)
      | false => .fail)
    | none => .fail

/-- A literal slice's elements. -/
def buildXs (t : Ty) : List (Nat × Operand) → List t.den → RM (List t.den × Fro)
  | [], xs => .ret (xs, [])
  | (i, x) :: ps, xs => do
    let v ← asCells (← ev x)
    let y ← reify t v
    guardR (Nat.blt i xs.length)
    let r ← buildXs t ps (xs.set i y.1)
    guardR (froApart y.2 r.2)
    return (r.1, y.2 ++ r.2)

/-- The zero of an element type. -/
def zeroD (j : TI) (ty : Ty) : RM ty.den := do
  let cs ← RM.ofOption (constCs j.zero.cells.toList)
  guardR (Nat.beq cs.length j.size && Nat.beq ty.size j.size && Nat.blt 0 j.size)
  let z ← reify ty cs
  guardR z.2.isEmpty
  return z.1

/-- Cells as data, one behind the other. -/
def chunksR (t : Ty) : Nat → List C → RM (List t.den)
  | 0, cs => (match cs with
    | [] => .ret []
    | _ :: _ => .fail)
  | n + 1, cs => do
    let y ← reify t (cs.take t.size)
    guardR y.2.isEmpty
    let r ← chunksR t n (cs.drop t.size)
    return y.1 :: r

def evAll : List Operand → RM (List SV)
  | [] => .ret []
  | x :: xs => do
    let v ← ev x
    let vs ← evAll xs
    return (v :: vs)

/-- What is caught: each in one cell. -/
def oneCells : List SV → RM (List C)
  | [] => .ret []
  | v :: vs => do
    let c ← asC v
    let cs ← oneCells vs
    return (c :: cs)

/-- What a function value has caught, one by one. -/
def capSVs : (t : Ty) → t.den → Option (List SV)
  | .unit, _ => some []
  | .pair a b, x => (match flat a x.1, capSVs b x.2 with
    | [c], some vs => some (.one c :: vs)
    | _, _ => none)
  | _, _ => none

/-- Variables of the call's own that a function value catches. -/
def ptrIds : List C → RM (List Nat)
  | [] => .ret []
  | .ptr b o :: cs => (match Nat.beq o 0 with
    | true => do
      let bs ← ptrIds cs
      return (b :: bs)
    | false => .fail)
  | _ :: _ => .fail

def minMax (big : Bool) : SV → SV → RM Res
  | .one (.dat (.int j) a), .one (.dat (.int k) b) => (match kindBeq j k with
    | true => (match big with
      | true => pureC (.dat (.int j) (max (Ty.I a) (Ty.I b)))
      | false => pureC (.dat (.int j) (min (Ty.I a) (Ty.I b))))
    | false => .fail)
  | _, _ => .fail

def exOp (X : Ctx) (o : Oper) : RM Res :=
  let d := o.dst.getD 0
  match o.op with
  | .move x | .assign x => do pureV (← ev x)
  | .pick (.tmp c) a b => do
    let g ← asB (← ev (.tmp c))
    let x ← asB (← evx [(c, true)] a)
    let y ← asB (← evx [(c, false)] b)
    pureC (.dat .bool (bif g then x else y))
  | .alloc t => do
    let i ← ti X t
    match i.d with
    | .array n e => (do
      let j ← ti X e
      let ty ← RM.ofOption j.ty
      let cs ← RM.ofOption (constCs i.zero.cells.toList)
      guardR (Nat.blt 0 n && Nat.ble n 16777216)
      let xs ← chunksR ty n cs
      .ret { val := some (.one (.rptr ty d 0 0)), blks := [(d, .row false t ty xs)], new := [d] })
    | _ => (do
      let cs ← RM.ofOption (constCs i.zero.cells.toList)
      .ret { val := some (.one (.ptr d 0)), blks := [(d, .cells cs)], new := [d] })
  | .box t x => do
    let cs ← asCells (← ev x)
    .ret { val := some (.one (.ptr d 0)), blks := [(d, .cells cs)], new := [d] }
  | .build t ps => do
    let i ← ti X t
    match i.d with
    | .struct fs => (do
      guardR (fs.all fun f => Nat.blt 0 f.2.1)
      let z ← RM.ofOption (constCs i.zero.cells.toList)
      let cs ← buildCs fs ps.toList z
      pureV (.agg cs))
    | _ => .fail
  | .buildSlice t n ps => do
    let i ← ti X t
    match i.d with
    | .slice e => (do
      let j ← ti X e
      let ty ← RM.ofOption j.ty
      guardR (Nat.ble (n * j.size) 16777216)
      let z ← zeroD j ty
      let r ← buildXs ty ps.toList (List.replicate n z)
      .ret { val := some (.one (.row ty d)), blks := r.2 ++ [(d, .row false e ty r.1)], new := [d] })
    | _ => .fail
  | .load t a => do
    let i ← ti X t
    let cs ← loadCs i.size (← evC a)
    guardR (Nat.beq cs.length i.size)
    pureV (← mkSV i.d cs)
  | .store t a v => do
    let i ← ti X t
    let cs ← asCells (← ev v)
    storeR i.size cs (← evC a)
  | .nilCheck x => do
    match ← evC x with
    | .ptr b o => pureC (.ptr b o)
    | .rptr t b i o => pureC (.rptr t b i o)
    | .elt t xs i o => pureC (.elt t xs i o)
    | .dat (.ptr t) x => .ret { val := some (.one (.elt t [x.getD t.dflt] 0 0)), conds := [x ≠ none] }
    | _ => .fail
  | .makeFunc (.func k) first caught => (match first.toList with
    | [] => do
      let vs ← evAll caught.toList
      let cs ← oneCells vs
      match has X.mclos k with
      | true => do
        let bs ← ptrIds cs
        pureC (.mclo k bs)
      | false => do
        let ty ← RM.ofOption (find X.clos k)
        let y ← reify ty cs
        .ret { val := some (.one (.dat (.clo k ty) y.1)), blks := y.2 }
    | _ => .fail)
  | .binOp op t x y _ => do
    let a ← ev x
    let b ← ev y
    match a, b with
    | .agg cs, .agg ds => (do
      let i ← ti X t
      guardR i.eq
      match op, i.d with
      | .eql, .struct fs => (do pureC (.dat .bool (← eqFields X fs cs ds)))
      | .neq, .struct fs => (do pureC (.dat .bool (!(← eqFields X fs cs ds))))
      | _, _ => .fail)
    | .one (.dat .bool _), .one (.dat .bool _) => (do
      let i ← ti X t
      match i.d with
      | .bool => binR (has X.wraps d) op a b
      | _ => .fail)
    | _, _ => binR (has X.wraps d) op a b
  | .unOp op _ x => do
    match op, ← ev x with
    | .not, .one (.dat .bool b) => pureC (.dat .bool (!b))
    | .neg, .one (.dat (.int k) n) => arith (has X.wraps d) k (0 - Ty.I n)
    | _, _ => .fail
  | .convert s t x => do
    let i' ← ti X s
    let i ← ti X t
    match i'.d, i.d, ← ev x with
    | .int _, .int k, .one (.dat (.int j) n) => (match kindLe j k with
      | true => pureC (.dat (.int k) n)
      | false => pureC (.dat (.int k) (k.wrap n)))
    | .slice e, .str, .one c => (do
      let j ← ti X e
      match j.d with
      | .int .u8 => (do
        let ys ← srcR (.int .u8) c
        pureC (.dat .str (ys.map fun (n : Int) => UInt8.ofNat n.toNat)))
      | _ => .fail)
    | _, _, _ => .fail
  | .makeSlice t l c => do
    let i ← ti X t
    match i.d with
    | .slice e => (do
      let j ← ti X e
      let ty ← RM.ofOption j.ty
      let n ← asI (← ev l)
      let m ← asI (← ev c)
      let z ← zeroD j ty
      .ret { val := some (.one (.row ty d)), blks := [(d, .row false e ty (List.replicate n.toNat z))], new := [d], conds := [0 ≤ n ∧ n ≤ m, roomFor m.toNat j.bytes ∧ m ≤ maxLenI] })
    | _ => .fail
  | .slice t x lo hi none => do
    let i ← ti X t
    let c ← evC x
    let l ← evO lo
    let h ← evO hi
    match i.d, c with
    | .slice e, .dat (.list tt) _ => (do
      let j ← ti X e
      guardR (Nat.beq tt.size j.size)
      sliceR l h c)
    | .slice e, .row tt _ => (do
      let j ← ti X e
      guardR (Nat.beq tt.size j.size)
      sliceR l h c)
    | .slice e, .sub tt _ _ _ => (do
      let j ← ti X e
      guardR (Nat.beq tt.size j.size)
      sliceR l h c)
    | .str, .dat .str _ => sliceR l h c
    | _, _ => .fail
  | .fieldAddr s x f => do
    let i ← ti X s
    match i.d with
    | .struct fs => (match fs[f]? with
      | some (off, size, _) => (do
        guardR (Nat.blt 0 size)
        match ← evC x with
        | .ptr b o => pureC (.ptr b (o + off))
        | .rptr t b i o => pureC (.rptr t b i (o + off))
        | .elt t xs i o => pureC (.elt t xs i (o + off))
        | _ => .fail)
      | none => .fail)
    | _ => .fail
  | .field s x f => do
    let i ← ti X s
    match i.d, ← ev x with
    | .struct fs, .agg cs => (match fs[f]? with
      | some (off, size, t) => (do
        let j ← ti X t
        guardR (Nat.ble (off + size) cs.length && Nat.beq j.size size)
        pureV (← mkSV j.d ((cs.drop off).take size)))
      | none => .fail)
    | _, _ => .fail
  | .indexAddr t x ix => do
    let i ← ti X t
    match i.d with
    | .slice e => (do
      let j ← ti X e
      let c ← evC x
      indexR j.size (← asI (← ev ix)) c)
    | .array n e => (do
      let j ← ti X e
      let c ← evC x
      indexA j.size n (← asI (← ev ix)) c)
    | _ => .fail
  | .index t x ix => do
    let i ← ti X t
    match i.d, ← evC x with
    | .str, .dat .str s => (do
      let n ← asI (← ev ix)
      pureIf (InB n ((Ty.S s).length)) (.dat (.int .u8) (((Ty.S s).getD n.toNat 0).toNat : Int)))
    | _, _ => .fail
  | .extract x k => do
    match ← ev x with
    | .tup vs => (match vs[k]? with
      | some (true, cs) => pureV (.agg cs)
      | some (false, [c]) => pureC c
      | _ => .fail)
    | _ => .fail
  | .call { callee := .value (.func f), args, .. } => do
    let con ← RM.ofOption (X.con f)
    let vs ← evAll args.toList
    con.run vs d
  | .call { callee := .value (.tmp f), args, .. } => do
    match ← evC (.tmp f) with
    | .dat (.clo k ty) y => (do
      let con ← RM.ofOption (X.con k)
      let vs ← evAll args.toList
      let us ← RM.ofOption (capSVs ty y)
      con.run (vs ++ us) d)
    | .mclo k bs => (do
      let con ← RM.ofOption (X.con k)
      let vs ← evAll args.toList
      con.run (vs ++ bs.map fun b => .one (.ptr b 0)) d)
    | _ => .fail
  | .call { callee := .builtin .len, args, argTypes } => (match args.toList, argTypes.toList with
    | [x], [t] => (do
      let i ← ti X t
      let c ← evC x
      match i.d, c with
      | .str, .dat .str _ => lenR c
      | .slice _, .dat (.list _) _ => lenR c
      | .slice _, .row _ _ => lenR c
      | .slice _, .sub _ _ _ _ => lenR c
      | .slice _, .nilsl => lenR c
      | _, _ => .fail)
    | _, _ => .fail)
  | .call { callee := .builtin .max, args, .. } => (match args.toList with
    | [x, y] => (do minMax true (← ev x) (← ev y))
    | _ => .fail)
  | .call { callee := .builtin .min, args, .. } => (match args.toList with
    | [x, y] => (do minMax false (← ev x) (← ev y))
    | _ => .fail)
  | .call { callee := .builtin .append, args, argTypes } => (match args.toList, argTypes.toList with
    | [s, x], [t, u] => (do
      guardR (Nat.beq t u)
      let i ← ti X t
      match i.d with
      | .slice e => (do
        let j ← ti X e
        let ty ← RM.ofOption j.ty
        let _ ← zeroD j ty
        let c ← evC s
        appendR d e j ty c (← evC x))
      | _ => .fail)
    | _, _ => .fail)
  | _ => .fail

end Go.Vc
