/-
  Contracts of the program's nets: the copy of a plan, New, and what is asked of a net; The program's nets: the copy of a plan, New, and what is asked of a net; Contracts of the program's Wants and of the reference's lines, with annotations; Sorting turns; the program's Wants; the reference's lines and Wants; The program's Wants; the reference's lines and Wants: proofs; Wants: the program's and the reference's are the same (plain); Contracts of the program's tokens and of what they ask of a book of locks, with annotations; Tokens, and what they ask of a book of locks: proofs; Contracts of the laws' own functions (semaphorelaw15); Roads of a plan: what a search for a flank keeps; that a road has the steps and needs with which it was found; The laws' own functions: what is known of the small plan with a line; the law of Wants; Contracts of the reference's Why (do two roads shut each other out?) and of the law of one direction, with annotations; A road's steps follow one another, on elements that differ; over a line they all run one way (plain); The reference's Why; the law of one direction over a line; What the statements' proofs share.
-/
import Derived.Test.YtpnnfimacblhgaaGreatM4
import Derived.Test.YtpnnfimacblhgaaGreatRows
import Derived.Test.YtpnnfimacblhgaaGreatM3
import Derived.WalkKit
import Derived.ProofKit
import Derived.OpenShut
import Derived.ShutString
import Derived.ChangeOld
import Derived.Below

section
set_option maxRecDepth 100000
set_option linter.unusedVariables false
namespace Go.Proofs
open Go Go.Vc

namespace YtpnnfimacblhgaaGreat

def shortL {α : Type} (l : List α) : Prop := l.length ≤ 1000
def c90 : DCon where
  args := [.list ElemT]
  out := .row 146 ElemT
  pre := fun (x : List ElemD × Unit) => shortL x.1
  fn := fun (x : List ElemD × Unit) => (x.1, ())
def c91 : DCon where
  args := [.list JoinT]
  out := .row 128 JoinT
  pre := fun (x : List JoinD × Unit) => shortL x.1
  fn := fun (x : List JoinD × Unit) => (x.1, ())
def c92 : DCon where
  args := [.list SignalT]
  out := .row 130 SignalT
  pre := fun (x : List SignalD × Unit) => shortL x.1
  fn := fun (x : List SignalD × Unit) => (x.1, ())
def c93 : DCon where
  args := [.list LineT]
  out := .row 109 LineT
  pre := fun (x : List LineD × Unit) => shortL x.1
  fn := fun (x : List LineD × Unit) => (x.1, ())
def c94 : DCon where
  args := [.list I]
  out := .row 3 I
  pre := fun (x : List Int × Unit) => shortL x.1
  fn := fun (x : List Int × Unit) => (x.1, ())
def shortP (p : PlanD) : Prop := shortL p.1 ∧ shortL p.2.1 ∧ shortL p.2.2.1 ∧ shortL p.2.2.2.1 ∧ shortLines p
def c52 : DCon where
  args := [PlanT]
  out := .data [PlanT]
  pre := fun (x : PlanD × Unit) => shortP x.1
  fn := fun (x : PlanD × Unit) => (x.1, ())
def a52 (x : PlanD × Unit) : Ann := loopAnn [(4, fun _ => {
  σ := Nat
  ok := fun k => k ≤ x.1.2.2.2.1.length
  mu := fun k => x.1.2.2.2.1.length - k
  sl := fun k => [(23, .one (.dat I (k : Int)))]
  bl := fun k => [(18, .row false 109 LineT x.1.2.2.2.1)]
  keep := [1, 2, 22]
  keepB := [1, 2, 6, 9, 12] })]

/-! ### Nets -/

def readsUp (p : PlanD) : Nat → List (PortD × Int)
  | 0 => []
  | k + 1 => readsUp p k ++ [((p.2.2.1.getD k zS).2.1, (k : Int))]
def lineRow (i : Int) (l : List Int) : Nat → List (Int × Int × Int)
  | 0 => []
  | k + 1 => lineRow i l k ++ [(l.getD k 0, i, (k : Int))]
def linesUp (p : PlanD) : Nat → List (Int × Int × Int)
  | 0 => []
  | i + 1 => linesUp p i ++ lineRow (i : Int) (p.2.2.2.1.getD i zL).2 (p.2.2.2.1.getD i zL).2.length
/-- The end by which a train comes in at a line's first element. -/
def in0 (p : PlanD) (l : List Int) : Int := bif decide ((l.length : Int) > 1) then (bif outRow (fNexts p) l 0 then 1 else 0) else 0
def inUp (p : PlanD) (l : List Int) : Nat → Int
  | 0 => in0 p l
  | k + 1 => ((mget PortT (fNexts p) (l.getD k 0, 1 - inUp p l k)).getD (0, 0)).2
def leadRow (p : PlanD) (l : List Int) : Nat → List (Int × Int)
  | 0 => []
  | k + 1 => leadRow p l k ++ [(l.getD k 0, inUp p l k)]
def leadsUp (p : PlanD) : Nat → List (Int × Int)
  | 0 => []
  | i + 1 => leadsUp p i ++ leadRow p (p.2.2.2.1.getD i zL).2 (p.2.2.2.1.getD i zL).2.length
@[irreducible] def fReadsM (p : PlanD) : List (PortD × Int) := readsUp p p.2.2.1.length
@[irreducible] def fLineM (p : PlanD) : List (Int × Int × Int) := linesUp p p.2.2.2.1.length
@[irreducible] def fLeadM (p : PlanD) : List (Int × Int) := leadsUp p p.2.2.2.1.length
/-- The net of a valid plan. -/
@[irreducible] def fNet (p : PlanD) : NetD := (p, fNexts p, fReadsM p, fLineM p, fLeadM p)
@[irreducible] def fNet? (p : PlanD) : Option NetD := bif fCheck p == 0 then some (fNet p) else none

def c26 : DCon where
  args := [PlanT]
  out := .data [.ptr NetT, I]
  pre := fun (x : PlanD × Unit) => shortLines x.1
  fn := fun (x : PlanD × Unit) => (fNet? x.1, fCheck x.1, ())

def lineAt (p : PlanD) (i : Int) : List Int := (p.2.2.2.1.getD i.toNat zL).2
def a26 (x : PlanD × Unit) : Ann := loopAnn [
  (6, fun _ => mapLoop x.1.2.1.length (fun _ => True) 33 24 PortT PortT (nextsUp x.1) [1, 5, 31, 32] [1, 29, 25, 26, 27]),
  (11, fun _ => mapLoop x.1.2.2.1.length (fun _ => True) 61 25 PortT I (readsUp x.1) [1, 5, 59, 60] [1, 29, 24, 26, 27]),
  (16, fun _ => {
    σ := Nat
    ok := fun k => k ≤ x.1.2.2.2.1.length
    mu := fun k => x.1.2.2.2.1.length - k
    sl := fun k => [(77, .one (.dat I (k : Int)))]
    bl := fun k => [(26, .map false I (.pair I I) (linesUp x.1 k) none), (27, .map false I I (leadsUp x.1 k) none)]
    keep := [1, 5, 75, 76]
    keepB := [1, 29, 24, 25] }),
  (24, fun S => {
    σ := Nat
    ok := fun k => k ≤ (lineAt x.1 (slotI S 77)).length
    mu := fun k => (lineAt x.1 (slotI S 77)).length - k
    sl := fun k => [(112, .one (.dat I (k : Int))), (12, .one (.dat I (inUp x.1 (lineAt x.1 (slotI S 77)) k)))]
    bl := fun k => [(26, .map false I (.pair I I) (linesUp x.1 (slotI S 77).toNat ++ lineRow (slotI S 77) (lineAt x.1 (slotI S 77)) k) none), (27, .map false I I (leadsUp x.1 (slotI S 77).toNat ++ leadRow x.1 (lineAt x.1 (slotI S 77)) k) none)]
    keep := [1, 5, 10, 11, 75, 76, 77, 110, 111]
    keepB := [1, 29, 24, 25, 11] })]

/-- Which line an element is of, and where. -/
def lineOf (o : Option (Int × Int)) : Int × Int := match o with
  | some x => x
  | none => (-1, -1)
@[irreducible] def gLine (n : NetD) (e : Int) : Int × Int := lineOf (mget I n.2.2.2.1 e)
@[irreducible] def gLead (n : NetD) (e i : Int) : Int := bif !(mget I n.2.2.2.2 e).isSome || (decide (i < 0) || decide (i > 1)) then 0 else bif (mget I n.2.2.2.2 e).getD 0 == i then 1 else 2
def c11 : DCon where
  args := [.ref NetT, I]
  out := .data [I, I]
  pre := fun (x : NetD × Int × Unit) => True
  fn := fun (x : NetD × Int × Unit) => ((gLine x.1 x.2.1).1, (gLine x.1 x.2.1).2, ())
def c12 : DCon where
  args := [.ref NetT, I, I]
  out := .data [I]
  pre := fun (x : NetD × Int × Int × Unit) => True
  fn := fun (x : NetD × Int × Int × Unit) => (gLead x.1 x.2.1 x.2.2.1, ())
def c48 : DCon where
  args := [.ref NetT, I]
  out := .data [PortT, .bool]
  pre := fun (x : NetD × Int × Unit) => True
  fn := fun (x : NetD × Int × Unit) => ((fAt x.1.1 x.2.1).1, (fAt x.1.1 x.2.1).2, ())
def c79 : DCon where
  args := [.ref NetT]
  out := .data [I]
  pre := fun (x : NetD × Unit) => True
  fn := fun (x : NetD × Unit) => ((x.1.1.1.length : Int), ())

/-- The net of a plan that may be looked at. -/
@[irreducible] def fMade (p : PlanD) : Option NetD := bif fFine p then some (fNet p) else none
def c8 : DCon where
  args := [PlanT]
  out := .data [.ptr NetT]
  pre := fun (x : PlanD × Unit) => True
  fn := fun (x : PlanD × Unit) => (fMade x.1, ())

end YtpnnfimacblhgaaGreat
end Go.Proofs
end

section
set_option maxRecDepth 100000
set_option linter.unusedVariables false
set_option linter.unusedSimpArgs false
set_option maxHeartbeats 2000000
namespace Go.Proofs
open Go Go.Vc
namespace YtpnnfimacblhgaaGreat

theorem v90 (l : List (List UInt8 × Int × Int)) : bodyVC (ctxOf tab []) Tryz.f90 c90 noAnn (l, ()) = (
lett (List.replicate (0 : Nat) ([], (0 : Int), (0 : Int))) fun (y1 : List (List UInt8 × Int × Int)) =>
∀ (b2 : Bool), (b2 = true → l = []) → (b2 = true → [] = l ∧ True) ∧ (b2 = false → roomFor (y1.length + l.length) (32 : Nat) ∧ y1 ++ l = l ∧ True)) := by kernel_rfl
theorem v91 (l : List ((Int × Int) × Int × Int)) : bodyVC (ctxOf tab []) Tryz.f91 c91 noAnn (l, ()) = (
lett (List.replicate (0 : Nat) (((0 : Int), (0 : Int)), (0 : Int), (0 : Int))) fun (y1 : List ((Int × Int) × Int × Int)) =>
∀ (b2 : Bool), (b2 = true → l = []) → (b2 = true → [] = l ∧ True) ∧ (b2 = false → roomFor (y1.length + l.length) (32 : Nat) ∧ y1 ++ l = l ∧ True)) := by kernel_rfl
theorem v92 (l : List (List UInt8 × (Int × Int) × Bool)) : bodyVC (ctxOf tab []) Tryz.f92 c92 noAnn (l, ()) = (
lett (List.replicate (0 : Nat) ([], ((0 : Int), (0 : Int)), false)) fun (y1 : List (List UInt8 × (Int × Int) × Bool)) =>
∀ (b2 : Bool), (b2 = true → l = []) → (b2 = true → [] = l ∧ True) ∧ (b2 = false → roomFor (y1.length + l.length) (40 : Nat) ∧ y1 ++ l = l ∧ True)) := by kernel_rfl
theorem v93 (l : List (List UInt8 × List Int)) : bodyVC (ctxOf tab []) Tryz.f93 c93 noAnn (l, ()) = (
∀ (b1 : Bool),
(b1 = true → l = []) → (b1 = true → [] = l ∧ True) ∧ (b1 = false → roomFor ((List.replicate (0 : Nat) (([], []) : List Int × List (List Int × Int))).length + l.length) (40 : Nat) ∧ List.replicate (0 : Nat) ([], []) ++ l = l ∧ True)) := by kernel_rfl
theorem v94 (l : List Int) : bodyVC (ctxOf tab []) Tryz.f94 c94 noAnn (l, ()) = (
∀ (b1 : Bool),
(b1 = true → l = []) → (b1 = true → [] = l ∧ True) ∧ (b1 = false → roomFor ((List.replicate (0 : Nat) (0 : Int)).length + l.length) (8 : Nat) ∧ List.replicate (0 : Nat) (0 : Int) ++ l = l ∧ True)) := by kernel_rfl

theorem clone_ok {α : Type} {l : List α} {n b : Nat} (h : l.length ≤ 1000) (hn : n = 0) (hb : b ≤ 1000) : roomFor (n + l.length) b := roomB (by omega) hb

theorem ok90 : DOk Tryz.prog 90 c90 :=
  DOk.of' (l := []) (A := fun _ => noAnn) tabOk trivial Tryz.func90 (by kernel_rfl) (by kernel_rfl) fun x _ hp => by
    obtain ⟨l, u⟩ := x
    show bodyVC (ctxOf tab []) Tryz.f90 c90 noAnn (l, ())
    rw [v90]
    refine lett.mk fun y1 e1 => fun b hb => ⟨fun h => ⟨(hb h).symm, trivial⟩, fun h => ⟨clone_ok hp (by rw [e1]; rfl) (by decide), by rw [e1]; rfl, trivial⟩⟩
theorem ok91 : DOk Tryz.prog 91 c91 :=
  DOk.of' (l := []) (A := fun _ => noAnn) tabOk trivial Tryz.func91 (by kernel_rfl) (by kernel_rfl) fun x _ hp => by
    obtain ⟨l, u⟩ := x
    show bodyVC (ctxOf tab []) Tryz.f91 c91 noAnn (l, ())
    rw [v91]
    refine lett.mk fun y1 e1 => fun b hb => ⟨fun h => ⟨(hb h).symm, trivial⟩, fun h => ⟨clone_ok hp (by rw [e1]; rfl) (by decide), by rw [e1]; rfl, trivial⟩⟩
theorem ok92 : DOk Tryz.prog 92 c92 :=
  DOk.of' (l := []) (A := fun _ => noAnn) tabOk trivial Tryz.func92 (by kernel_rfl) (by kernel_rfl) fun x _ hp => by
    obtain ⟨l, u⟩ := x
    show bodyVC (ctxOf tab []) Tryz.f92 c92 noAnn (l, ())
    rw [v92]
    refine lett.mk fun y1 e1 => fun b hb => ⟨fun h => ⟨(hb h).symm, trivial⟩, fun h => ⟨clone_ok hp (by rw [e1]; rfl) (by decide), by rw [e1]; rfl, trivial⟩⟩
theorem ok93 : DOk Tryz.prog 93 c93 :=
  DOk.of' (l := []) (A := fun _ => noAnn) tabOk trivial Tryz.func93 (by kernel_rfl) (by kernel_rfl) fun x _ hp => by
    obtain ⟨l, u⟩ := x
    show bodyVC (ctxOf tab []) Tryz.f93 c93 noAnn (l, ())
    rw [v93]
    exact fun b hb => ⟨fun h => ⟨(hb h).symm, trivial⟩, fun h => ⟨clone_ok hp rfl (by decide), by first | exact ⟨rfl, trivial⟩ | trivial⟩⟩
theorem ok94 : DOk Tryz.prog 94 c94 :=
  DOk.of' (l := []) (A := fun _ => noAnn) tabOk trivial Tryz.func94 (by kernel_rfl) (by kernel_rfl) fun x _ hp => by
    obtain ⟨l, u⟩ := x
    show bodyVC (ctxOf tab []) Tryz.f94 c94 noAnn (l, ())
    rw [v94]
    exact fun b hb => ⟨fun h => ⟨(hb h).symm, trivial⟩, fun h => ⟨clone_ok hp rfl (by decide), by first | exact ⟨rfl, trivial⟩ | trivial⟩⟩

theorem v52 (p : PlanD) : bodyVC (ctxOf tab [(90, c90), (91, c91), (92, c92), (93, c93), (94, c94)]) Tryz.f52 c52 (a52 (p, ())) (p, ()) = (
shortL p.fst ∧
shortL p.snd.fst ∧
shortL p.snd.snd.fst ∧
shortL p.snd.snd.snd.fst ∧
(∃ (s01 : Nat),
s01 ≤ p.snd.snd.snd.fst.length ∧
(↑s01 : Int) = (0 : Int) ∧
(↑p.snd.snd.snd.fst.length : Int) = (↑p.snd.snd.snd.fst.length : Int) ∧
p.snd.snd.snd.fst = p.snd.snd.snd.fst ∧
p.snd.snd.snd.snd.fst = p.snd.snd.snd.snd.fst ∧
p.snd.snd.snd.snd.snd.fst = p.snd.snd.snd.snd.snd.fst ∧
p.snd.snd.snd.snd.snd.snd.fst = p.snd.snd.snd.snd.snd.snd.fst ∧
p.snd.snd.snd.snd.snd.snd.snd.fst = p.snd.snd.snd.snd.snd.snd.snd.fst ∧
p.snd.snd.snd.snd.snd.snd.snd.snd = p.snd.snd.snd.snd.snd.snd.snd.snd ∧
(0 : Int) = (0 : Int) ∧
(0 : Int) = (0 : Int) ∧ (0 : Int) = (0 : Int) ∧ (0 : Int) = (0 : Int) ∧ false = false ∧ p.fst = p.fst ∧ p.snd.fst = p.snd.fst ∧ p.snd.snd.fst = p.snd.snd.fst ∧ True) ∧
∀ (s1 : Nat),
lett (decide ((↑s1 : Int) < (↑p.snd.snd.snd.fst.length : Int))) fun (y2 : Bool) =>
lett (p.snd.snd.snd.fst.getD (↑s1 : Int).toNat ([], [])) fun (y3 : List UInt8 × List Int) =>
s1 ≤ p.snd.snd.snd.fst.length →
(y2 = true →
InB (↑s1 : Int) p.snd.snd.snd.fst.length ∧
shortL y3.snd ∧
InB (↑s1 : Int) p.snd.snd.snd.fst.length ∧
InR IntKind.i64 ((↑s1 : Int) + (1 : Int)) ∧
∃ (s'4 : Nat),
s'4 ≤ p.snd.snd.snd.fst.length ∧
p.snd.snd.snd.fst.length - s'4 < p.snd.snd.snd.fst.length - s1 ∧
(↑s'4 : Int) = (↑s1 : Int) + (1 : Int) ∧
(↑p.snd.snd.snd.fst.length : Int) = (↑p.snd.snd.snd.fst.length : Int) ∧
p.snd.snd.snd.fst = p.snd.snd.snd.fst.set (↑s1 : Int).toNat y3 ∧
p.snd.snd.snd.snd.fst = p.snd.snd.snd.snd.fst ∧
p.snd.snd.snd.snd.snd.fst = p.snd.snd.snd.snd.snd.fst ∧
p.snd.snd.snd.snd.snd.snd.fst = p.snd.snd.snd.snd.snd.snd.fst ∧
p.snd.snd.snd.snd.snd.snd.snd.fst = p.snd.snd.snd.snd.snd.snd.snd.fst ∧
p.snd.snd.snd.snd.snd.snd.snd.snd = p.snd.snd.snd.snd.snd.snd.snd.snd ∧
(0 : Int) = (0 : Int) ∧
(0 : Int) = (0 : Int) ∧
(0 : Int) = (0 : Int) ∧ (0 : Int) = (0 : Int) ∧ false = false ∧ p.fst = p.fst ∧ p.snd.fst = p.snd.fst ∧ p.snd.snd.fst = p.snd.snd.fst ∧ True) ∧
(y2 = false → (p.fst, p.snd.fst, p.snd.snd.fst, p.snd.snd.snd.fst, p.snd.snd.snd.snd) = p ∧ True)) := by kernel_rfl

theorem b52 (p : PlanD) (hp : shortP p) : bodyVC (ctxOf tab [(90, c90), (91, c91), (92, c92), (93, c93), (94, c94)]) Tryz.f52 c52 (a52 (p, ())) (p, ()) := by
  rw [v52]
  simp only [keepP_eq, true_and, and_true, eq_self, Int.toNat_natCast]
  refine ⟨hp.1, hp.2.1, hp.2.2.1, hp.2.2.2.1, ⟨0, by omega, rfl⟩, fun k => lett.mk fun y2 e2 => lett.mk fun y3 e3 => fun hk => ⟨fun h => ?_, fun _ => trivial⟩⟩
  have hk := lt_of_y e2 h
  have e3 : y3 = p.2.2.2.1.getD k zL := e3
  have hm : y3 ∈ p.2.2.2.1 := by rw [e3]; exact mem_getD zL hk
  have h4 : p.2.2.2.1.length ≤ 1000 := hp.2.2.2.1
  refine ⟨⟨by omega, by omega⟩, hp.2.2.2.2 y3 hm, ⟨by omega, by omega⟩, inR64 (by omega) (by omega), k + 1, by omega, by omega, by omega, ?_⟩
  rw [e3, getD_at zL hk, List.set_getElem_self]

theorem ok52 : DOk Tryz.prog 52 c52 :=
  DOk.of' (l := [(90, c90), (91, c91), (92, c92), (93, c93), (94, c94)]) (A := a52) tabOk ⟨ok90, ok91, ok92, ok93, ok94, trivial⟩ Tryz.func52 (by kernel_rfl) (by kernel_rfl) fun x hw hp => b52 x.1 hp

/-! ### New -/

theorem check_zero {p : PlanD} (h : fCheck p = 0) : fSizes p = true ∧ fArgs p = true ∧ fJoined p = true ∧ fSignals p = true ∧ fLines p = true := by
  rw [check_eq] at h
  cases hS : fSizes p <;> rw [hS] at h
  · cases h
  cases hA : fArgs p <;> rw [hA] at h
  · cases h
  cases hT : fTwices p <;> rw [hT] at h
  case true => cases h
  cases hJ : fJoined p <;> rw [hJ] at h
  · cases h
  cases hG : fSignals p <;> rw [hG] at h
  · cases h
  cases hL : fLines p <;> rw [hL] at h
  · cases h
  exact ⟨rfl, rfl, rfl, rfl, rfl⟩

theorem sizes_factsQ {p : PlanD} (h : fSizes p = true) : p.1.length ≤ 40 ∧ p.2.2.1.length ≤ 24 ∧ p.2.2.2.1.length ≤ 4 ∧ p.2.1.length ≤ 80 := by
  unfold fSizes at h
  simpa only [Bool.and_eq_true, decide_eq_true_eq] using h

theorem joins_put {p : PlanD} (h : fJoined p = true) (k : Nat) (hk : k < p.2.1.length) : nextsUp p (k + 1) = mput PortT (mput PortT (nextsUp p k) (p.2.1.getD k zJ).1 (p.2.1.getD k zJ).2) (p.2.1.getD k zJ).2 (p.2.1.getD k zJ).1 := by
  have he : endsUp p k := by
    rw [joined_eq, Bool.and_eq_true] at h
    exact allTo_iff.2 fun i hi => allTo_iff.1 h.1 i (by rw [ends_lenQ]; omega)
  obtain ⟨r1, r2⟩ := join_round p k hk he
  cases hb : (!fHas p (p.2.1.getD k zJ).1 || (!fHas p (p.2.1.getD k zJ).2 || ((mget PortT (nextsUp p k) (p.2.1.getD k zJ).1).isSome || ((mget PortT (nextsUp p k) (p.2.1.getD k zJ).2).isSome || (p.2.1.getD k zJ).1 == (p.2.1.getD k zJ).2)))) with
  | true => rw [r1 hb] at h; cases h
  | false => exact (r2 hb).2

theorem reads_has (p : PlanD) (x : PortD) : ∀ (k : Nat), (mget PortT (readsUp p k) x).isSome = anyTo (readOf p x) k
  | 0 => rfl
  | k + 1 => by
    have ih := reads_has p x k
    rw [mget_isSome] at ih ⊢
    show ((readsUp p k ++ [((p.2.2.1.getD k zS).2.1, (k : Int))]).any _) = (anyTo (readOf p x) k || readOf p x k)
    rw [List.any_append, ih]
    simp only [List.any_cons, List.any_nil, Bool.or_false, keqP]
    rw [beqComm]
    rfl

theorem reads_put {p : PlanD} (h : fSignals p = true) (k : Nat) (hk : k < p.2.2.1.length) : readsUp p (k + 1) = mput PortT (readsUp p k) (p.2.2.1.getD k zS).2.1 (k : Int) := by
  unfold fSignals at h
  rw [Bool.and_eq_true] at h
  have := allTo_iff.1 h.1 k hk
  unfold sigOk sigOkX at this
  simp only [Bool.and_eq_true] at this
  have hr := this.2.2.2.2
  rw [reads_at p k hk] at hr
  rw [mput_new portKey (by rw [reads_has]; simpa using hr)]
  rfl

theorem row_has (i : Int) (l : List Int) (e : Int) : ∀ (k : Nat), k ≤ l.length → ((lineRow i l k).any fun x => Ty.keq I e x.1) = fMem (l.take k) e
  | 0, _ => by unfold fMem; rfl
  | k + 1, h => by
    show ((lineRow i l k ++ [(l.getD k 0, i, (k : Int))]).any _) = _
    rw [List.any_append, row_has i l e k (by omega), take_succ' 0 (by omega)]
    unfold fMem
    rw [List.any_append]
    simp only [List.any_cons, List.any_nil, Bool.or_false, keqI]
    rw [beqComm e]

theorem lrow_has (p : PlanD) (l : List Int) (e : Int) : ∀ (k : Nat), k ≤ l.length → ((leadRow p l k).any fun x => Ty.keq I e x.1) = fMem (l.take k) e
  | 0, _ => by unfold fMem; rfl
  | k + 1, h => by
    show ((leadRow p l k ++ [(l.getD k 0, inUp p l k)]).any _) = _
    rw [List.any_append, lrow_has p l e k (by omega), take_succ' 0 (by omega)]
    unfold fMem
    rw [List.any_append]
    simp only [List.any_cons, List.any_nil, Bool.or_false, keqI]
    rw [beqComm e]

theorem lines_has (p : PlanD) (e : Int) : ∀ (i : Nat), i ≤ p.2.2.2.1.length → ((linesUp p i).any fun x => Ty.keq I e x.1) = fMem (metBy p i) e
  | 0, _ => by unfold fMem; rfl
  | i + 1, h => by
    show ((linesUp p i ++ lineRow (i : Int) (p.2.2.2.1.getD i zL).2 (p.2.2.2.1.getD i zL).2.length).any _) = _
    rw [List.any_append, lines_has p e i (by omega), row_has _ _ e _ (Nat.le_refl _), metBy_succ p i (by omega), List.take_length]
    unfold fMem
    rw [List.any_append]

theorem leads_has (p : PlanD) (e : Int) : ∀ (i : Nat), i ≤ p.2.2.2.1.length → ((leadsUp p i).any fun x => Ty.keq I e x.1) = fMem (metBy p i) e
  | 0, _ => by unfold fMem; rfl
  | i + 1, h => by
    show ((leadsUp p i ++ leadRow p (p.2.2.2.1.getD i zL).2 (p.2.2.2.1.getD i zL).2.length).any _) = _
    rw [List.any_append, leads_has p e i (by omega), lrow_has _ _ e _ (Nat.le_refl _), metBy_succ p i (by omega), List.take_length]
    unfold fMem
    rw [List.any_append]

theorem line_fresh {p : PlanD} (h : fLines p = true) (i k : Nat) (hi : i < p.2.2.2.1.length) (hk : k < (p.2.2.2.1.getD i zL).2.length) :
    fMem (metBy p i ++ (p.2.2.2.1.getD i zL).2.take k) ((p.2.2.2.1.getD i zL).2.getD k 0) = false := by
  unfold fLines at h
  have := allTo_iff.1 h i hi
  unfold lineOk at this
  rw [Bool.and_eq_true] at this
  have := allTo_iff.1 this.1 k hk
  unfold lineNew at this
  simpa using this

theorem lines_put {p : PlanD} (h : fLines p = true) (i k : Nat) (hi : i < p.2.2.2.1.length) (hk : k < (p.2.2.2.1.getD i zL).2.length) :
    (linesUp p i ++ lineRow (i : Int) (p.2.2.2.1.getD i zL).2 (k + 1)) = mput I (linesUp p i ++ lineRow (i : Int) (p.2.2.2.1.getD i zL).2 k) ((p.2.2.2.1.getD i zL).2.getD k 0) ((i : Int), (k : Int)) := by
  have hf := line_fresh h i k hi hk
  rw [mput_new intKey (by
    rw [mget_isSome, List.any_append, lines_has p _ i (by omega), row_has _ _ _ k (by omega)]
    unfold fMem at hf ⊢
    rw [List.any_append] at hf
    exact hf)]
  show linesUp p i ++ (lineRow (i : Int) _ k ++ _) = _
  rw [List.append_assoc]

theorem leads_put {p : PlanD} (h : fLines p = true) (i k : Nat) (hi : i < p.2.2.2.1.length) (hk : k < (p.2.2.2.1.getD i zL).2.length) :
    (leadsUp p i ++ leadRow p (p.2.2.2.1.getD i zL).2 (k + 1)) = mput I (leadsUp p i ++ leadRow p (p.2.2.2.1.getD i zL).2 k) ((p.2.2.2.1.getD i zL).2.getD k 0) (inUp p (p.2.2.2.1.getD i zL).2 k) := by
  have hf := line_fresh h i k hi hk
  rw [mput_new intKey (by
    rw [mget_isSome, List.any_append, leads_has p _ i (by omega), lrow_has _ _ _ k (by omega)]
    unfold fMem at hf ⊢
    rw [List.any_append] at hf
    exact hf)]
  show leadsUp p i ++ (leadRow p _ k ++ _) = _
  rw [List.append_assoc]

theorem in_range {p : PlanD} (h : fJoined p = true) (l : List Int) : ∀ (k : Nat), 0 ≤ inUp p l k ∧ inUp p l k ≤ 3
  | 0 => by
    show 0 ≤ in0 p l ∧ in0 p l ≤ 3
    unfold in0
    cases decide ((l.length : Int) > 1) <;> cases outRow (fNexts p) l 0 <;> decide
  | k + 1 => by
    show 0 ≤ ((mget PortT (fNexts p) (l.getD k 0, 1 - inUp p l k)).getD (0, 0)).2 ∧ ((mget PortT (fNexts p) (l.getD k 0, 1 - inUp p l k)).getD (0, 0)).2 ≤ 3
    cases hm : mget PortT (fNexts p) (l.getD k 0, 1 - inUp p l k) with
    | none => decide
    | some q => exact nexts_small h _ (mem_of_mget portKey hm)

theorem v26 (p : PlanD) : bodyVC (ctxOf tab [(51, c51), (52, c52)]) Tryz.f26 c26 (a26 (p, ())) (p, ()) = (
True ∧
((fCheck p != (0 : Int)) = true → none = fNet? p ∧ fCheck p = fCheck p ∧ True) ∧
((fCheck p != (0 : Int)) = false →
shortP p ∧
(∃ (s01 : Nat),
(s01 ≤ p.snd.fst.length ∧ True) ∧
(↑s01 : Int) = (0 : Int) ∧
p.snd.fst = p.snd.fst ∧
(↑p.snd.fst.length : Int) = (↑p.snd.fst.length : Int) ∧
nextsUp p s01 = [] ∧
keepP p (keepP p (([] : List ((Int × Int) × Int)) = [] ∧ ([] : List (Int × Int × Int)) = [] ∧ ([] : List (Int × Int)) = [] ∧ True))) ∧
∀ (s1 : Nat),
lett (decide ((↑s1 : Int) < (↑p.snd.fst.length : Int))) fun (y2 : Bool) =>
lett (p.snd.fst.getD (↑s1 : Int).toNat (((0 : Int), (0 : Int)), (0 : Int), (0 : Int))) fun (y3 : (Int × Int) × Int × Int) =>
lett
(mset (ment PortT (nextsUp p s1) y3.fst ((0 : Int), (0 : Int)))
(midx PortT (nextsUp p s1) y3.fst) y3.snd)
fun (y4 : List ((Int × Int) × Int × Int)) =>
s1 ≤ p.snd.fst.length ∧ True →
(y2 = true →
InB (↑s1 : Int) p.snd.fst.length ∧
InR IntKind.i64 ((↑s1 : Int) + (1 : Int)) ∧
∃ (s'5 : Nat),
(s'5 ≤ p.snd.fst.length ∧ True) ∧
p.snd.fst.length - s'5 < p.snd.fst.length - s1 ∧
(↑s'5 : Int) = (↑s1 : Int) + (1 : Int) ∧
p.snd.fst = p.snd.fst ∧
(↑p.snd.fst.length : Int) = (↑p.snd.fst.length : Int) ∧
nextsUp p s'5 =
mset (ment PortT y4 y3.snd ((0 : Int), (0 : Int)))
(midx PortT y4 y3.snd) y3.fst ∧
keepP p (keepP p (([] : List ((Int × Int) × Int)) = [] ∧ ([] : List (Int × Int × Int)) = [] ∧ ([] : List (Int × Int)) = [] ∧ True))) ∧
(y2 = false →
(∃ (s05 : Nat),
(s05 ≤ p.snd.snd.fst.length ∧ True) ∧
(↑s05 : Int) = (0 : Int) ∧
p.snd.snd.fst = p.snd.snd.fst ∧
(↑p.snd.snd.fst.length : Int) = (↑p.snd.snd.fst.length : Int) ∧
readsUp p s05 = [] ∧
keepP p (keepP p (nextsUp p s1 = nextsUp p s1 ∧ ([] : List (Int × Int × Int)) = [] ∧ ([] : List (Int × Int)) = [] ∧ True))) ∧
∀ (s5 : Nat),
lett (decide ((↑s5 : Int) < (↑p.snd.snd.fst.length : Int))) fun (y6 : Bool) =>
s5 ≤ p.snd.snd.fst.length ∧ True →
(y6 = true →
InB (↑s5 : Int) p.snd.snd.fst.length ∧
InR IntKind.i64 ((↑s5 : Int) + (1 : Int)) ∧
∃ (s'7 : Nat),
(s'7 ≤ p.snd.snd.fst.length ∧ True) ∧
p.snd.snd.fst.length - s'7 < p.snd.snd.fst.length - s5 ∧
(↑s'7 : Int) = (↑s5 : Int) + (1 : Int) ∧
p.snd.snd.fst = p.snd.snd.fst ∧
(↑p.snd.snd.fst.length : Int) = (↑p.snd.snd.fst.length : Int) ∧
readsUp p s'7 =
mput PortT (readsUp p s5)
(p.snd.snd.fst.getD (↑s5 : Int).toNat ([], ((0 : Int), (0 : Int)), false)).snd.fst (↑s5 : Int) ∧
keepP p (keepP p (nextsUp p s1 = nextsUp p s1 ∧ ([] : List (Int × Int × Int)) = [] ∧ ([] : List (Int × Int)) = [] ∧ True))) ∧
(y6 = false →
(∃ (s07 : Nat),
s07 ≤ p.snd.snd.snd.fst.length ∧
(↑s07 : Int) = (0 : Int) ∧
p.snd.snd.snd.fst = p.snd.snd.snd.fst ∧
(↑p.snd.snd.snd.fst.length : Int) = (↑p.snd.snd.snd.fst.length : Int) ∧
linesUp p s07 = [] ∧
leadsUp p s07 = [] ∧
keepP p (keepP p (nextsUp p s1 = nextsUp p s1 ∧ readsUp p s5 = readsUp p s5 ∧ True))) ∧
∀ (s7 : Nat),
lett (decide ((↑s7 : Int) < (↑p.snd.snd.snd.fst.length : Int))) fun (y8 : Bool) =>
lett (p.snd.snd.snd.fst.getD (↑s7 : Int).toNat ([], [])) fun (y9 : List UInt8 × List Int) =>
lett (decide ((↑y9.snd.length : Int) > (1 : Int))) fun (y10 : Bool) =>
lett (mget PortT (nextsUp p s1) (y9.snd.getD (Int.toNat (0 : Int)) (0 : Int), (0 : Int)))
fun (y11 : Option (Int × Int)) =>
s7 ≤ p.snd.snd.snd.fst.length →
(y8 = true →
InB (↑s7 : Int) p.snd.snd.snd.fst.length ∧
(y10 = true → InB (0 : Int) y9.snd.length) ∧
(y10 = true → y11.isSome = true → InB (1 : Int) y9.snd.length) ∧
(∃ (s012 : Nat),
s012 ≤ (lineAt p (↑s7 : Int)).length ∧
(↑s012 : Int) = (0 : Int) ∧
(inUp p (lineAt p (↑s7 : Int)) s012 =
bif y10 then
bif bif y11.isSome then (y11.getD ((0 : Int), (0 : Int))).fst == y9.snd.getD (Int.toNat (1 : Int)) (0 : Int) else false then
(1 : Int)
else (0 : Int)
else (0 : Int)) ∧
(↑s7 : Int) = (↑s7 : Int) ∧
p.snd.snd.snd.fst = p.snd.snd.snd.fst ∧
(↑p.snd.snd.snd.fst.length : Int) = (↑p.snd.snd.snd.fst.length : Int) ∧
(↑s7 : Int) = (↑s7 : Int) ∧
y9.snd = y9.snd ∧
(↑y9.snd.length : Int) = (↑y9.snd.length : Int) ∧
linesUp p (↑s7 : Int).toNat ++ lineRow (↑s7 : Int) (lineAt p (↑s7 : Int)) s012 = linesUp p s7 ∧
leadsUp p (↑s7 : Int).toNat ++ leadRow p (lineAt p (↑s7 : Int)) s012 = leadsUp p s7 ∧
keepP p (keepP p (nextsUp p s1 = nextsUp p s1 ∧
readsUp p s5 = readsUp p s5 ∧ y9.fst = y9.fst ∧ y9.snd = y9.snd ∧ True))) ∧
∀ (s12 : Nat),
lett (decide ((↑s12 : Int) < (↑y9.snd.length : Int))) fun (y13 : Bool) =>
lett (inUp p (lineAt p (↑s7 : Int)) s12) fun (y14 : Int) =>
lett (y9.snd.getD (↑s12 : Int).toNat (0 : Int)) fun (y15 : Int) =>
lett (linesUp p (↑s7 : Int).toNat ++ lineRow (↑s7 : Int) (lineAt p (↑s7 : Int)) s12) fun (y16 : List (Int × Int × Int)) =>
lett (leadsUp p (↑s7 : Int).toNat ++ leadRow p (lineAt p (↑s7 : Int)) s12) fun (y17 : List (Int × Int)) =>
s12 ≤ (lineAt p (↑s7 : Int)).length →
(y13 = true →
InB (↑s12 : Int) y9.snd.length ∧
InR IntKind.i64 ((1 : Int) - y14) ∧
InR IntKind.i64 ((↑s12 : Int) + (1 : Int)) ∧
∃ (s'18 : Nat),
s'18 ≤ (lineAt p (↑s7 : Int)).length ∧
(lineAt p (↑s7 : Int)).length - s'18 < (lineAt p (↑s7 : Int)).length - s12 ∧
(↑s'18 : Int) = (↑s12 : Int) + (1 : Int) ∧
inUp p (lineAt p (↑s7 : Int)) s'18 =
((mget PortT (nextsUp p s1) (y15, (1 : Int) - y14)).getD
((0 : Int), (0 : Int))).snd ∧
(↑s7 : Int) = (↑s7 : Int) ∧
p.snd.snd.snd.fst = p.snd.snd.snd.fst ∧
(↑p.snd.snd.snd.fst.length : Int) = (↑p.snd.snd.snd.fst.length : Int) ∧
(↑s7 : Int) = (↑s7 : Int) ∧
y9.snd = y9.snd ∧
(↑y9.snd.length : Int) = (↑y9.snd.length : Int) ∧
linesUp p (↑s7 : Int).toNat ++ lineRow (↑s7 : Int) (lineAt p (↑s7 : Int)) s'18 =
mset (ment I y16 y15 ((0 : Int), (0 : Int)))
(midx I y16 y15) ((↑s7 : Int), (↑s12 : Int)) ∧
leadsUp p (↑s7 : Int).toNat ++ leadRow p (lineAt p (↑s7 : Int)) s'18 =
mset (ment I y17 y15 (0 : Int)) (midx I y17 y15)
y14 ∧
keepP p (p.fst = p.fst ∧
p.snd.fst = p.snd.fst ∧
p.snd.snd.fst = p.snd.snd.fst ∧
p.snd.snd.snd.fst = p.snd.snd.snd.fst ∧
p.snd.snd.snd.snd.fst = p.snd.snd.snd.snd.fst ∧
p.snd.snd.snd.snd.snd.fst = p.snd.snd.snd.snd.snd.fst ∧
p.snd.snd.snd.snd.snd.snd.fst =
p.snd.snd.snd.snd.snd.snd.fst ∧
p.snd.snd.snd.snd.snd.snd.snd.fst =
p.snd.snd.snd.snd.snd.snd.snd.fst ∧
p.snd.snd.snd.snd.snd.snd.snd.snd =
p.snd.snd.snd.snd.snd.snd.snd.snd ∧
nextsUp p s1 = nextsUp p s1 ∧
readsUp p s5 = readsUp p s5 ∧
y9.fst = y9.fst ∧ y9.snd = y9.snd ∧ True)) ∧
(y13 = false →
InR IntKind.i64 ((↑s7 : Int) + (1 : Int)) ∧
∃ (s'18 : Nat),
s'18 ≤ p.snd.snd.snd.fst.length ∧
p.snd.snd.snd.fst.length - s'18 < p.snd.snd.snd.fst.length - s7 ∧
(↑s'18 : Int) = (↑s7 : Int) + (1 : Int) ∧
p.snd.snd.snd.fst = p.snd.snd.snd.fst ∧
(↑p.snd.snd.snd.fst.length : Int) = (↑p.snd.snd.snd.fst.length : Int) ∧
linesUp p s'18 = y16 ∧
leadsUp p s'18 = y17 ∧
keepP p (p.fst = p.fst ∧
p.snd.fst = p.snd.fst ∧
p.snd.snd.fst = p.snd.snd.fst ∧
p.snd.snd.snd.fst = p.snd.snd.snd.fst ∧
p.snd.snd.snd.snd.fst = p.snd.snd.snd.snd.fst ∧
p.snd.snd.snd.snd.snd.fst = p.snd.snd.snd.snd.snd.fst ∧
p.snd.snd.snd.snd.snd.snd.fst = p.snd.snd.snd.snd.snd.snd.fst ∧
p.snd.snd.snd.snd.snd.snd.snd.fst =
p.snd.snd.snd.snd.snd.snd.snd.fst ∧
p.snd.snd.snd.snd.snd.snd.snd.snd =
p.snd.snd.snd.snd.snd.snd.snd.snd ∧
nextsUp p s1 = nextsUp p s1 ∧
readsUp p s5 = readsUp p s5 ∧ True))) ∧
(y8 = false → some (p, nextsUp p s1, readsUp p s5, linesUp p s7, leadsUp p s7) = fNet? p ∧ (0 : Int) = fCheck p ∧ True))))) := by kernel_rfl

theorem b26 (p : PlanD) (hs : shortLines p) (hw : PlanT.wf p) : bodyVC (ctxOf tab [(51, c51), (52, c52)]) Tryz.f26 c26 (a26 (p, ())) (p, ()) := by
  rw [v26]
  simp only [keepP_eq, true_and, and_true, eq_self, Int.toNat_natCast, mset_ment portKey, mset_ment intKey]
  refine ⟨fun h => ?_, fun h => ?_⟩
  · unfold fNet?
    rw [bneB] at h
    have : (fCheck p == 0) = false := by simpa using h
    rw [this]; rfl
  have h0 : fCheck p = 0 := by
    rw [bneB] at h
    simpa using h
  obtain ⟨hS, hA, hJ, hG, hL⟩ := check_zero h0
  obtain ⟨z1, z2, z3, z4⟩ := sizes_factsQ hS
  refine ⟨⟨by show p.1.length ≤ 1000; omega, by show p.2.1.length ≤ 1000; omega, by show p.2.2.1.length ≤ 1000; omega, by show p.2.2.2.1.length ≤ 1000; omega, hs⟩, ⟨0, by omega, rfl, rfl⟩, fun k => lett.mk fun y2 e2 => lett.mk fun y3 e3 => lett.mk fun y4 e4 => fun hk => ⟨fun h => ?_, fun h => ?_⟩⟩
  · have hk := lt_of_y e2 h
    have e3 : y3 = p.2.1.getD k zJ := e3
    refine ⟨⟨by omega, by omega⟩, inR64 (by omega) (by omega), k + 1, by omega, by omega, by omega, ?_⟩
    rw [e4, e3]
    exact joins_put hJ k hk
  have hN : nextsUp p k = fNexts p := nexts_full p k (le_of_y e2 h)
  rw [hN]
  refine ⟨⟨0, by omega, rfl, rfl⟩, fun s => lett.mk fun y6 e6 => fun hk => ⟨fun h => ?_, fun h => ?_⟩⟩
  · have hk := lt_of_y e6 h
    exact ⟨⟨by omega, by omega⟩, inR64 (by omega) (by omega), s + 1, by omega, by omega, by omega, reads_put hG s hk⟩
  have hR : s = p.2.2.1.length := by have := le_of_y e6 h; omega
  refine ⟨⟨0, by omega, rfl, rfl, rfl⟩, fun i => lett.mk fun y8 e8 => lett.mk fun y9 e9 => lett.mk fun y10 e10 => lett.mk fun y11 e11 => fun hi => ⟨fun h => ?_, fun h => ?_⟩⟩
  · have hi := lt_of_y e8 h
    have e9 : y9 = p.2.2.2.1.getD i zL := e9
    have hla : lineAt p (i : Int) = y9.2 := by unfold lineAt; rw [Int.toNat_natCast, e9]
    have hsl : y9.2.length ≤ 1000 := by rw [e9]; exact hs _ (mem_getD zL hi)
    rw [hla]
    refine ⟨⟨by omega, by omega⟩, fun h10 => ?_, fun h10 _ => ?_, ⟨0, by omega, rfl, ?_, ?_, ?_⟩, fun k => lett.mk fun y13 e13 => lett.mk fun y14 e14 => lett.mk fun y15 e15 => lett.mk fun y16 e16 => lett.mk fun y17 e17 => fun hk => ⟨fun h => ?_, fun h => ?_⟩⟩
    · rw [h10] at e10
      have := of_decide_eq_true e10.symm
      exact ⟨by omega, by omega⟩
    · rw [h10] at e10
      have := of_decide_eq_true e10.symm
      exact ⟨by omega, by omega⟩
    · show in0 p y9.2 = _
      unfold in0
      rw [← e10]
      cases y10 with
      | false => rfl
      | true =>
        simp only [cond_true]
        have : outRow (fNexts p) y9.2 0 = (bif y11.isSome then (y11.getD ((0 : Int), (0 : Int))).1 == y9.2.getD (Int.toNat (1 : Int)) (0 : Int) else false) := by
          rw [e11]
          unfold outRow
          show (match mget PortT (fNexts p) (y9.2.getD 0 0, 0) with | none => false | some q => q.1 == y9.2.getD 1 0) = (bif (mget PortT (fNexts p) (y9.2.getD 0 0, 0)).isSome then ((mget PortT (fNexts p) (y9.2.getD 0 0, 0)).getD (0, 0)).1 == y9.2.getD 1 0 else false)
          cases mget PortT (fNexts p) (y9.2.getD 0 0, 0) <;> rfl
        rw [this]
    · show linesUp p i ++ [] = _
      rw [List.append_nil]
    · show leadsUp p i ++ [] = _
      rw [List.append_nil]
    · have hk := lt_of_y e13 h
      have hin := in_range hJ y9.2 k
      rw [← e14] at hin
      refine ⟨⟨by omega, by omega⟩, inR64 (by omega) (by omega), inR64 (by omega) (by omega), k + 1, by omega, by omega, by omega, ?_, ?_, ?_⟩
      · rw [e15, e14]; rfl
      · rw [e16, e15, e9]
        exact lines_put hL i k hi (by rw [← e9]; exact hk)
      · rw [e17, e15, e14, e9]
        exact leads_put hL i k hi (by rw [← e9]; exact hk)
    · have hk' := le_of_y e13 h
      have : k = y9.2.length := by omega
      refine ⟨inR64 (by omega) (by omega), i + 1, by omega, by omega, by omega, ?_, ?_⟩
      · rw [e16, this, e9]; rfl
      · rw [e17, this, e9]; rfl
  · have hi' := le_of_y e8 h
    have : i = p.2.2.2.1.length := by omega
    refine ⟨?_, h0.symm⟩
    unfold fNet? fNet fReadsM fLineM fLeadM
    rw [h0, this, hR]
    rfl

theorem ok26 : DOk Tryz.prog 26 c26 :=
  DOk.of' (l := [(51, c51), (52, c52)]) (A := a26) tabOk ⟨ok51, ok52, trivial⟩ Tryz.func26 (by kernel_rfl) (by kernel_rfl) fun x hw hp => b26 x.1 hp hw.1

theorem v11 (n : (PlanD) × List ((Int × Int) × Int × Int) × List ((Int × Int) × Int) × List (Int × Int × Int) × List (Int × Int)) (e : Int) : bodyVC (ctxOf tab []) Tryz.f11 c11 noAnn (n, e, ()) = (
lett (mget I n.snd.snd.snd.fst e) fun (y2 : Option (Int × Int)) =>
lett (y2.getD ((0 : Int), (0 : Int))).fst fun (y3 : Int) =>
lett (y2.getD ((0 : Int), (0 : Int))).snd fun (y4 : Int) =>
[(0 : Int), (0 : Int)].length = (2 : Nat) ∧
(y2.isSome = true → (InB (0 : Int) (2 : Nat) ∧ [y3, y4].length = (2 : Nat)) ∧ (InB (1 : Int) (2 : Nat) ∧ [y3, y4].length = (2 : Nat)) ∧ y3 = (gLine n e).fst ∧ y4 = (gLine n e).snd ∧ True) ∧
(y2.isSome = false → (-1 : Int) = (gLine n e).fst ∧ (-1 : Int) = (gLine n e).snd ∧ True)) := by kernel_rfl

theorem b11 (n : NetD) (e : Int) : bodyVC (ctxOf tab []) Tryz.f11 c11 noAnn (n, e, ()) := by
  rw [v11]
  refine lett.mk fun y2 e2 => lett.mk fun y3 e3 => lett.mk fun y4 e4 => ⟨rfl, fun h => ?_, fun h => ?_⟩
  · obtain ⟨q, hq⟩ := Option.isSome_iff_exists.1 h
    have hl : gLine n e = q := by unfold gLine; rw [← e2, hq]; rfl
    rw [hl, e3, e4, hq]
    exact ⟨⟨⟨by decide, by decide⟩, rfl⟩, ⟨⟨by decide, by decide⟩, rfl⟩, rfl, rfl, trivial⟩
  · have hl : gLine n e = (-1, -1) := by
      unfold gLine
      rw [← e2]
      cases hy : y2 with
      | none => rfl
      | some q => rw [hy] at h; cases h
    rw [hl]
    exact ⟨rfl, rfl, trivial⟩

theorem ok11 : DOk Tryz.prog 11 c11 :=
  DOk.of' (l := []) (A := fun _ => noAnn) tabOk trivial Tryz.func11 (by kernel_rfl) (by kernel_rfl) fun x hw hp => b11 x.1 x.2.1

theorem v12 (n : (PlanD) × List ((Int × Int) × Int × Int) × List ((Int × Int) × Int) × List (Int × Int × Int) × List (Int × Int)) (e : Int) (i : Int) : bodyVC (ctxOf tab []) Tryz.f12 c12 noAnn (n, e, i, ()) = (
lett (mget I n.snd.snd.snd.snd e) fun (y3 : Option Int) =>
lett (bif bif !y3.isSome then true else decide (i < (0 : Int)) then true else decide (i > (1 : Int))) fun (y4 : Bool) =>
(y4 = true → (0 : Int) = gLead n e i ∧ True) ∧
(y4 = false → ((y3.getD (0 : Int) == i) = true → (1 : Int) = gLead n e i ∧ True) ∧ ((y3.getD (0 : Int) == i) = false → (2 : Int) = gLead n e i ∧ True))) := by kernel_rfl

theorem b12 (n : NetD) (e i : Int) : bodyVC (ctxOf tab []) Tryz.f12 c12 noAnn (n, e, i, ()) := by
  rw [v12]
  refine lett.mk fun y3 e3 => lett.mk fun y4 e4 => ?_
  have hl : gLead n e i = bif y4 then 0 else bif y3.getD 0 == i then 1 else 2 := by
    unfold gLead
    rw [← e3, e4]
    cases y3.isSome <;> cases decide (i < 0) <;> cases decide (i > 1) <;> rfl
  rw [hl]
  refine ⟨fun h => by rw [h]; exact ⟨rfl, trivial⟩, fun h => by rw [h]; exact ⟨fun h2 => by rw [h2]; exact ⟨rfl, trivial⟩, fun h2 => by rw [h2]; exact ⟨rfl, trivial⟩⟩⟩

theorem ok12 : DOk Tryz.prog 12 c12 :=
  DOk.of' (l := []) (A := fun _ => noAnn) tabOk trivial Tryz.func12 (by kernel_rfl) (by kernel_rfl) fun x hw hp => b12 x.1 x.2.1 x.2.2.1

theorem v48 (n : (PlanD) × List ((Int × Int) × Int × Int) × List ((Int × Int) × Int) × List (Int × Int × Int) × List (Int × Int)) (s : Int) : bodyVC (ctxOf tab []) Tryz.f48 c48 noAnn (n, s, ()) = (
lett (bif decide (s < (0 : Int)) then true else decide (s ≥ (↑n.fst.snd.snd.fst.length : Int))) fun (y2 : Bool) =>
(y2 = true → ((0 : Int), (0 : Int)) = (fAt n.fst s).fst ∧ false = (fAt n.fst s).snd ∧ True) ∧
(y2 = false → InB s n.fst.snd.snd.fst.length ∧ (n.fst.snd.snd.fst.getD s.toNat ([], ((0 : Int), (0 : Int)), false)).snd.fst = (fAt n.fst s).fst ∧ true = (fAt n.fst s).snd ∧ True)) := by kernel_rfl

theorem b48 (n : NetD) (s : Int) : bodyVC (ctxOf tab []) Tryz.f48 c48 noAnn (n, s, ()) := by
  rw [v48]
  have hA : fAt n.1 s = bif decide (s < 0) || decide ((n.1.2.2.1.length : Int) ≤ s) then ((0, 0), false) else ((n.1.2.2.1.getD s.toNat zS).2.1, true) := by unfold fAt; rfl
  refine lett.mk fun y2 e2 => ?_
  rw [geI] at e2
  have hA : fAt n.1 s = bif y2 then ((0, 0), false) else ((n.1.2.2.1.getD s.toNat zS).2.1, true) := by
    rw [hA, e2]
    cases decide (s < 0) <;> rfl
  rw [hA]
  refine ⟨fun h => by rw [h]; exact ⟨rfl, rfl, trivial⟩, fun h => ?_⟩
  rw [h] at e2 ⊢
  cases h1 : decide (s < 0) with
  | true => rw [h1] at e2; cases e2
  | false =>
    rw [h1] at e2
    have h1 := of_decide_eq_false h1
    have h2 := of_decide_eq_false e2.symm
    exact ⟨⟨by omega, by omega⟩, rfl, rfl, trivial⟩

theorem ok48 : DOk Tryz.prog 48 c48 :=
  DOk.of' (l := []) (A := fun _ => noAnn) tabOk trivial Tryz.func48 (by kernel_rfl) (by kernel_rfl) fun x hw hp => b48 x.1 x.2.1

theorem v79 (n : (PlanD) × List ((Int × Int) × Int × Int) × List ((Int × Int) × Int) × List (Int × Int × Int) × List (Int × Int)) : bodyVC (ctxOf tab []) Tryz.f79 c79 noAnn (n, ()) = (
(↑n.fst.fst.length : Int) = (↑n.fst.fst.length : Int) ∧ True) := by kernel_rfl

theorem ok79 : DOk Tryz.prog 79 c79 :=
  DOk.of' (l := []) (A := fun _ => noAnn) tabOk trivial Tryz.func79 (by kernel_rfl) (by kernel_rfl) fun x hw hp => by
    obtain ⟨n, u⟩ := x
    show bodyVC (ctxOf tab []) Tryz.f79 c79 noAnn (n, ())
    rw [v79]
    exact ⟨rfl, trivial⟩

theorem v8 (p : PlanD) : bodyVC (ctxOf tab [(25, c25), (26, c26)]) Tryz.f8 c8 noAnn (p, ()) = (
True ∧
((!fFine p) = true → none = fMade p ∧ True) ∧
((!fFine p) = false → shortLines p ∧ ((fCheck p != (0 : Int)) = true → none = fMade p ∧ True) ∧ ((fCheck p != (0 : Int)) = false → fNet? p = fMade p ∧ True))) := by kernel_rfl

theorem fine_facts {p : PlanD} (h : fFine p = true) : fFew p = true ∧ fCheck p = 0 ∧ shortLines p := by
  unfold fFine at h
  rw [Bool.and_eq_true] at h
  refine ⟨h.1, by simpa using h.2, fun l hl => ?_⟩
  have h1 := h.1
  unfold fFew at h1
  simp only [Bool.and_eq_true] at h1
  have := List.all_eq_true.1 h1.2.2.2.2.1 l hl
  simp only [Bool.and_eq_true, decide_eq_true_eq] at this
  omega

theorem ok8 : DOk Tryz.prog 8 c8 :=
  DOk.of' (l := [(25, c25), (26, c26)]) (A := fun _ => noAnn) tabOk ⟨ok25, ok26, trivial⟩ Tryz.func8 (by kernel_rfl) (by kernel_rfl) fun x hw hp => by
    obtain ⟨p, u⟩ := x
    show bodyVC (ctxOf tab [(25, c25), (26, c26)]) Tryz.f8 c8 noAnn (p, ())
    rw [v8]
    refine ⟨trivial, fun h => ?_, fun h => ?_⟩
    · unfold fMade
      have : fFine p = false := by simpa using h
      rw [this]; exact ⟨rfl, trivial⟩
    · have hf : fFine p = true := by simpa using h
      obtain ⟨h1, h2, h3⟩ := fine_facts hf
      refine ⟨h3, fun h => ?_, fun h => ?_⟩
      · rw [h2] at h; cases h
      · unfold fMade fNet?
        rw [hf, h2]
        exact ⟨rfl, trivial⟩

end YtpnnfimacblhgaaGreat
end Go.Proofs
end

section
set_option maxRecDepth 100000
set_option linter.unusedVariables false
namespace Go.Proofs
open Go Go.Vc

namespace YtpnnfimacblhgaaGreat
abbrev TurnT : Ty := .pair I I
abbrev TurnD := Int × Int
def zT : TurnD := (0, 0)
abbrev Clo28 : Ty := .clo 28 (.pair (.ref I) .unit)
abbrev Clo30 : Ty := .clo 30 .unit

def fFind {α : Type} (p : α → Bool) (xs : List α) : Int := if xs.any p then ((xs.findIdx p : Nat) : Int) else -1
def findLoop {α : Type} (p : α → Bool) (xs : List α) (slot : Nat) (keep : List Nat) : LA where
  σ := Nat
  ok := fun k => k ≤ xs.length ∧ (xs.take k).any p = false
  mu := fun k => xs.length - k
  sl := fun k => [(slot, .one (.dat I (k : Int)))]
  bl := fun _ => []
  keep := keep
  keepB := []

/-! ### Sorting turns by their lines -/

def small (l : List TurnD) : Prop := l.length ≤ 12 ∧ ∀ t ∈ l, -1000 ≤ t.1 ∧ t.1 ≤ 1000
def swapDn (l : List TurnD) (j : Nat) : List TurnD := (l.set (j + 1) (l.getD j zT)).set j (l.getD (j + 1) zT)
def insDn : Nat → List TurnD → List TurnD
  | 0, l => l
  | j + 1, l => bif decide ((l.getD (j + 1) zT).1 - (l.getD j zT).1 < 0) then insDn j (swapDn l j) else l
def sortUp (l : List TurnD) : Nat → List TurnD
  | 0 => l
  | k + 1 => insDn k (sortUp l k)
@[irreducible] def fSort (l : List TurnD) : List TurnD := sortUp l l.length

def c28 : DCon where
  args := [TurnT, .ref I]
  out := .data [.bool]
  pre := fun (x : TurnD × Int × Unit) => True
  fn := fun (x : TurnD × Int × Unit) => (x.1.1 == x.2.1, ())
def c290053 : DCon where
  args := [.list TurnT, Clo28]
  out := .data [I]
  pre := fun (x : List TurnD × (Int × Unit) × Unit) => x.1.length ≤ 1000
  fn := fun (x : List TurnD × (Int × Unit) × Unit) => (fFind (fun t => t.1 == x.2.1.1) x.1, ())
def a290053 (x : List TurnD × (Int × Unit) × Unit) : Ann := loopAnn [(2, fun _ => findLoop (fun t => t.1 == x.2.1.1) x.1 8 [0, 1, 7])]
def c290027 : DCon where
  args := [.list TurnT, Clo28]
  out := .data [.bool]
  pre := fun (x : List TurnD × (Int × Unit) × Unit) => x.1.length ≤ 1000
  fn := fun (x : List TurnD × (Int × Unit) × Unit) => (x.1.any (fun t => t.1 == x.2.1.1), ())
def c30 : DCon where
  args := [TurnT, TurnT]
  out := .data [I]
  pre := fun (x : TurnD × TurnD × Unit) => (-1000 ≤ x.1.1 ∧ x.1.1 ≤ 1000) ∧ -1000 ≤ x.2.1.1 ∧ x.2.1.1 ≤ 1000
  fn := fun (x : TurnD × TurnD × Unit) => (x.1.1 - x.2.1.1, ())
def c310095 : OCon where
  args := [.row 44 TurnT, .dat I, .dat I, .dat Clo30]
  outs := []
  pre := fun (x : List TurnD × Int × Int × Unit × Unit) => x.2.1 = 0 ∧ x.2.2.1 = (x.1.length : Int) ∧ small x.1
  fn := fun _ => ()
  upd := fun (x : List TurnD × Int × Int × Unit × Unit) => (fSort x.1, x.2)
structure InsOk (l : List TurnD) (i j : Nat) (m : List TurnD) : Prop where
  small : small m
  len : m.length = l.length
  le : j ≤ i
  lt : i < l.length
  same : insDn j m = insDn i l
def a310095 (x : List TurnD × Int × Int × Unit × Unit) : Ann := loopAnn [
  (1, fun _ => {
    σ := Nat
    ok := fun k => k ≤ x.1.length - 1
    mu := fun k => x.1.length - k
    sl := fun k => [(8, .one (.dat I ((k : Int) + 1)))]
    bl := fun k => [(1000000, .row false 44 TurnT (sortUp x.1 (k + 1)))]
    keep := [0, 1, 2, 3]
    keepB := [] }),
  (4, fun S => {
    σ := Nat × List TurnD
    ok := fun s => InsOk (sortUp x.1 (slotI S 8).toNat) (slotI S 8).toNat s.1 s.2
    mu := fun s => s.1
    sl := fun s => [(9, .one (.dat I (s.1 : Int)))]
    bl := fun s => [(1000000, .row false 44 TurnT s.2)]
    keep := [0, 1, 2, 3, 8]
    keepB := [] })]
def c310054 : OCon where
  args := [.row 44 TurnT, .dat I, .dat I, .dat I, .dat Clo30]
  outs := []
  pre := fun (x : List TurnD × Int × Int × Int × Unit × Unit) => x.2.1 = 0 ∧ x.2.2.1 = (x.1.length : Int) ∧ small x.1
  fn := fun _ => ()
  upd := fun (x : List TurnD × Int × Int × Int × Unit × Unit) => (fSort x.1, x.2)
def a310054 (x : List TurnD × Int × Int × Int × Unit × Unit) : Ann := loopAnn [
  (2, fun _ => {
    σ := Unit
    ok := fun k => True
    mu := fun k => 0
    sl := fun k => []
    bl := fun k => []
    keep := [0, 1, 2, 3, 4, 10, 11]
    keepB := [1000000] })]
def c310029 : OCon where
  args := [.row 44 TurnT, .dat Clo30]
  outs := []
  pre := fun (x : List TurnD × Unit × Unit) => small x.1
  fn := fun _ => ()
  upd := fun (x : List TurnD × Unit × Unit) => (fSort x.1, x.2)

/-- The bits of a small number. -/
def fBits (n : Int) : Int := [0, 1, 2, 2, 3, 3, 3, 3, 4, 4, 4, 4, 4].getD n.toNat 0
def c55 : DCon where
  args := [.int .u64]
  out := .data [I]
  pre := fun (x : Int × Unit) => x.1 ≤ 12
  fn := fun (x : Int × Unit) => (fBits x.1, ())
def c104 : DCon := c55

/-! ### Wants -/

def wantStep (n : NetD) (out : List TurnD) (s : StepD) : List TurnD :=
  bif decide ((gLine n s.1).1 < 0) || out.any (fun t => t.1 == (gLine n s.1).1) then out else out ++ [((gLine n s.1).1, gLead n s.1 s.2.1)]
def wantsUp (n : NetD) (r : RoadD) : Nat → List TurnD
  | 0 => []
  | k + 1 => wantStep n (wantsUp n r k) (r.2.2.2.1.getD k zSt)
@[irreducible] def fWants (n : NetD) (r : RoadD) : List TurnD := fSort (wantsUp n r r.2.2.2.1.length)
def lineIn (n : NetD) : Prop := ∀ x ∈ n.2.2.2.1, 0 ≤ x.2.1 ∧ x.2.1 ≤ 9
def c9 : DCon where
  args := [.ref NetT, RoadT]
  out := .data [.list TurnT]
  pre := fun (x : NetD × RoadD × Unit) => lineIn x.1 ∧ x.2.1.2.2.2.1.length ≤ 1000
  fn := fun (x : NetD × RoadD × Unit) => (fWants x.1 x.2.1, ())
def a9 (x : NetD × RoadD × Unit) : Ann := loopAnn [(3, fun _ => rowLoop x.2.1.2.2.2.1.length 13 5 1000 44 TurnT (wantsUp x.1 x.2.1) [0, 3, 11, 12] [3])]

/-! ### The reference's -/

@[irreducible] def posOf (l : List Int) (e : Int) : Option Nat := firstTo (fun k => l.getD k 0 == e) l.length
def inLine (p : PlanD) (e : Int) (i : Nat) : Bool := (posOf (p.2.2.2.1.getD i zL).2 e).isSome
def lineHit (p : PlanD) (e : Int) (o : Option Nat) : Int × Int := match o with
  | some i => ((i : Int), idxOr (posOf (p.2.2.2.1.getD i zL).2 e))
  | none => (-1, -1)
@[irreducible] def fLineOf (p : PlanD) (e : Int) : Int × Int := lineHit p e (firstTo (inLine p e) p.2.2.2.1.length)
@[irreducible] def fLeadOf (p : PlanD) (e i : Int) : Int :=
  bif decide ((fLineOf p e).1 < 0) || !fHas p (e, i) then 0 else bif (fEnters p (lineAt p (fLineOf p e).1)).1.getD (fLineOf p e).2.toNat 0 == i then 1 else 2
def c31 : DCon where
  args := [PlanT, I]
  out := .data [I, I]
  pre := fun (x : PlanD × Int × Unit) => True
  fn := fun (x : PlanD × Int × Unit) => ((fLineOf x.1 x.2.1).1, (fLineOf x.1 x.2.1).2, ())
def a31 (x : PlanD × Int × Unit) : Ann := loopAnn [(2, fun _ => upLoop x.1.2.2.2.1.length (noneOf (inLine x.1 x.2.1)) 6 [1, 2] [2]),
  (5, fun S => upLoop (x.1.2.2.2.1.getD (slotI S 6).toNat zL).2.length (noneOf (fun k => (x.1.2.2.2.1.getD (slotI S 6).toNat zL).2.getD k 0 == x.2.1)) 7 [1, 2, 6] [2])]
def c32 : DCon where
  args := [PlanT, I, I]
  out := .data [I]
  pre := fun (x : PlanD × Int × Int × Unit) => fCheck x.1 = 0 ∧ shortLines x.1
  fn := fun (x : PlanD × Int × Int × Unit) => (fLeadOf x.1 x.2.1 x.2.2.1, ())
def wantAt (p : PlanD) (r : RoadD) (l : Int) (i : Nat) : Bool := (fLineOf p (r.2.2.2.1.getD i zSt).1).1 == l
def wantOf (p : PlanD) (r : RoadD) (l : Int) : List TurnD := match firstTo (wantAt p r l) r.2.2.2.1.length with
  | some i => [(l, fLeadOf p (r.2.2.2.1.getD i zSt).1 (r.2.2.2.1.getD i zSt).2.1)]
  | none => []
def wantsRef (p : PlanD) (r : RoadD) : Nat → List TurnD
  | 0 => []
  | k + 1 => wantsRef p r k ++ wantOf p r (k : Int)
@[irreducible] def fWantsR (p : PlanD) (r : RoadD) : List TurnD := wantsRef p r p.2.2.2.1.length
def c10 : DCon where
  args := [PlanT, RoadT]
  out := .data [.list TurnT]
  pre := fun (x : PlanD × RoadD × Unit) => (fCheck x.1 = 0 ∧ shortLines x.1) ∧ x.2.1.2.2.2.1.length ≤ 1000
  fn := fun (x : PlanD × RoadD × Unit) => (fWantsR x.1 x.2.1, ())
def a10 (x : PlanD × RoadD × Unit) : Ann := loopAnn [(3, fun _ => rowLoop x.1.2.2.2.1.length 6 5 1000 45 TurnT (wantsRef x.1 x.2.1) [2, 3] [2, 3]),
  (6, fun S => {
    σ := Nat
    ok := fun k => k ≤ x.2.1.2.2.2.1.length ∧ noneOf (wantAt x.1 x.2.1 (slotI S 6)) k
    mu := fun k => x.2.1.2.2.2.1.length - k
    sl := fun k => [(7, .one (.dat I (k : Int)))]
    bl := fun k => []
    keep := [2, 3, 5, 6]
    keepB := [2, 3, 1000] })]

end YtpnnfimacblhgaaGreat
end Go.Proofs
end

section
set_option maxRecDepth 100000
set_option linter.unusedVariables false
set_option linter.unusedSimpArgs false
set_option maxHeartbeats 2000000
namespace Go.Proofs
open Go Go.Vc
namespace YtpnnfimacblhgaaGreat

theorem inR_u64 {n : Int} (h : InR .u64 n) : 0 ≤ n ∧ n ≤ 18446744073709551615 := by
  have h : IntKind.min .u64 ≤ n ∧ n ≤ IntKind.max .u64 := h
  have e1 : IntKind.min .u64 = 0 := by decide
  have e2 : IntKind.max .u64 = 18446744073709551615 := by decide
  omega

theorem wrap_u64 {n : Int} (h1 : 0 ≤ n) (h2 : n < 1000000000) : IntKind.u64.wrap n = n := IntWalk.u64_in _ (by omega)

theorem fFind_any {α : Type} {p : α → Bool} {xs : List α} : decide (fFind p xs ≥ 0) = xs.any p := by
  unfold fFind
  cases h : xs.any p <;> simp

theorem fFind_at {α : Type} {p : α → Bool} {xs : List α} {s : Nat} (d : α) (h : s < xs.length) (h0 : (xs.take s).any p = false) (h1 : p (xs.getD s d) = true) : (s : Int) = fFind p xs := by
  rw [getD_at d h] at h1
  have ha : xs.any p = true := List.any_eq_true.2 ⟨xs[s], List.getElem_mem h, h1⟩
  have hi : xs.findIdx p = s := by
    rw [List.findIdx_eq h]
    refine ⟨h1, fun j hj => ?_⟩
    have := List.any_eq_false.1 h0 xs[j] (by rw [List.mem_take_iff_getElem]; exact ⟨j, by omega, rfl⟩)
    simpa using this
  unfold fFind
  rw [if_pos ha, hi]

theorem fFind_none {α : Type} {p : α → Bool} {xs : List α} {s : Nat} (h : xs.length ≤ s) (h0 : (xs.take s).any p = false) : -1 = fFind p xs := by
  rw [List.take_of_length_le h] at h0
  unfold fFind
  rw [h0]
  rfl

theorem v28 (t : Int × Int) (l : Int) : bodyVC (ctxOf tab []) Tryz.f28 c28 noAnn (t, l, ()) = (
(t.fst == l) = (t.fst == l) ∧ True) := by kernel_rfl

theorem ok28 : DOk Tryz.prog 28 c28 :=
  DOk.of' (l := []) (A := fun _ => noAnn) tabOk trivial Tryz.func28 (by kernel_rfl) (by kernel_rfl) fun x _ _ => by
    obtain ⟨t, l, u⟩ := x
    show bodyVC (ctxOf tab []) Tryz.f28 c28 noAnn (t, l, ())
    rw [v28]
    exact ⟨rfl, trivial⟩

theorem v290053 (xs : List (Int × Int)) (l : Int × Unit) : bodyVC (ctxOf tab [(28, c28)]) Tryz.f53 c290053 (a290053 (xs, l, ())) (xs, l, ()) = (
lett (fFind (fun (t : TurnD) => t.fst == l.fst) xs) fun (y2 : Int) =>
(∃ (s03 : Nat),
(s03 ≤ xs.length ∧ ((List.take s03 xs).any fun (t : TurnD) => t.fst == l.fst) = false) ∧ (↑s03 : Int) = (0 : Int) ∧ xs = xs ∧ l = l ∧ (↑xs.length : Int) = (↑xs.length : Int) ∧ True) ∧
∀ (s3 : Nat),
lett (decide ((↑s3 : Int) < (↑xs.length : Int))) fun (y4 : Bool) =>
lett ((xs.getD (↑s3 : Int).toNat ((0 : Int), (0 : Int))).fst == l.fst) fun (y5 : Bool) =>
s3 ≤ xs.length ∧ ((List.take s3 xs).any fun (t : TurnD) => t.fst == l.fst) = false →
(y4 = true →
InB (↑s3 : Int) xs.length ∧
True ∧
(y5 = true → (↑s3 : Int) = y2 ∧ True) ∧
(y5 = false →
InR IntKind.i64 ((↑s3 : Int) + (1 : Int)) ∧
∃ (s'6 : Nat),
(s'6 ≤ xs.length ∧ ((List.take s'6 xs).any fun (t : TurnD) => t.fst == l.fst) = false) ∧
xs.length - s'6 < xs.length - s3 ∧ (↑s'6 : Int) = (↑s3 : Int) + (1 : Int) ∧ xs = xs ∧ l = l ∧ (↑xs.length : Int) = (↑xs.length : Int) ∧ True)) ∧
(y4 = false → (-1 : Int) = y2 ∧ True)) := by kernel_rfl

theorem ok290053 : DOk Tryz.prog 53 c290053 :=
  DOk.of' (l := [(28, c28)]) (A := a290053) tabOk ⟨ok28, trivial⟩ Tryz.func53 (by kernel_rfl) (by kernel_rfl) fun x _ hp => by
    obtain ⟨xs, l, ⟨⟩⟩ := x
    have hp : xs.length ≤ 1000 := hp
    rw [v290053]
    refine lett.mk fun y2 e2 => ?_
    simp only [true_and, and_true]
    refine ⟨⟨0, ⟨by omega, by simp⟩, rfl⟩, fun s => lett.mk fun y4 e4 => lett.mk fun y5 e5 => ?_⟩
    rintro ⟨h1, h2⟩
    rw [Int.toNat_natCast] at e5
    refine ⟨fun hs => ?_, fun hs => ?_⟩
    · have hs := lt_of_y e4 hs
      refine ⟨⟨by omega, by omega⟩, fun e => ?_, fun e => ⟨inR64 (by omega) (by omega), s + 1, ⟨by omega, ?_⟩, by omega, by omega⟩⟩
      · rw [e2]
        exact fFind_at ((0 : Int), (0 : Int)) hs h2 (by rw [← e5]; exact e)
      · exact any_succ ((0 : Int), (0 : Int)) hs h2 (by rw [← e5]; exact e)
    · rw [e2]
      exact fFind_none (s := s) (le_of_y e4 hs) h2

theorem v290027 (xs : List (Int × Int)) (l : Int × Unit) : bodyVC (ctxOf tab [(290053, c290053)]) Tryz.f27 c290027 noAnn (xs, l, ()) = (
lett (fFind (fun (t : TurnD) => t.fst == l.fst) xs) fun (y2 : Int) => xs.length ≤ (1000 : Nat) ∧ (decide (y2 ≥ (0 : Int)) = xs.any fun (t : TurnD) => t.fst == l.fst) ∧ True) := by kernel_rfl

theorem ok290027 : DOk Tryz.prog 27 c290027 :=
  DOk.of' (l := [(290053, c290053)]) (A := fun _ => noAnn) tabOk ⟨ok290053, trivial⟩ Tryz.func27 (by kernel_rfl) (by kernel_rfl) fun x _ hp => by
    obtain ⟨xs, l, ⟨⟩⟩ := x
    rw [v290027]
    refine lett.mk fun y2 e2 => ⟨hp, ?_, trivial⟩
    rw [e2]
    exact fFind_any

theorem v30 (s : Int × Int) (t : Int × Int) : bodyVC (ctxOf tab []) Tryz.f30 c30 noAnn (s, t, ()) = (
InR IntKind.i64 (s.fst - t.fst) ∧ s.fst - t.fst = s.fst - t.fst ∧ True) := by kernel_rfl

theorem b30 (s t : TurnD) (h1 : -1000 ≤ s.1 ∧ s.1 ≤ 1000) (h2 : -1000 ≤ t.1 ∧ t.1 ≤ 1000) : bodyVC (ctxOf tab []) Tryz.f30 c30 noAnn (s, t, ()) := by
  rw [v30]
  exact ⟨inR64 (by omega) (by omega), rfl, trivial⟩

theorem ok30 : DOk Tryz.prog 30 c30 :=
  DOk.of' (l := []) (A := fun _ => noAnn) tabOk trivial Tryz.func30 (by kernel_rfl) (by kernel_rfl) fun x _ hp => b30 x.1 x.2.1 hp.1 hp.2

/-! ### Sorting -/

theorem swap_len (l : List TurnD) (j : Nat) : (swapDn l j).length = l.length := by unfold swapDn; simp
theorem small_at {l : List TurnD} (h : small l) (k : Nat) : -1000 ≤ (l.getD k zT).1 ∧ (l.getD k zT).1 ≤ 1000 := by
  by_cases hk : k < l.length
  · exact h.2 _ (mem_getD zT hk)
  · have : l.getD k zT = zT := by simp [List.getD_eq_getElem?_getD, List.getElem?_eq_none (Nat.le_of_not_lt hk)]
    rw [this]
    decide
theorem small_swap {l : List TurnD} (h : small l) (j : Nat) : small (swapDn l j) := by
  refine ⟨by rw [swap_len]; exact h.1, fun t ht => ?_⟩
  unfold swapDn at ht
  rcases List.mem_or_eq_of_mem_set ht with ht | rfl
  · rcases List.mem_or_eq_of_mem_set ht with ht | rfl
    · exact h.2 t ht
    · exact small_at h _
  · exact small_at h _
theorem ins_len : ∀ (j : Nat) (l : List TurnD), (insDn j l).length = l.length
  | 0, _ => rfl
  | j + 1, l => by
    unfold insDn
    cases decide ((l.getD (j + 1) zT).1 - (l.getD j zT).1 < 0) with
    | true => rw [cond_true, ins_len j, swap_len]
    | false => rw [cond_false]
theorem small_ins : ∀ (j : Nat) {l : List TurnD}, small l → small (insDn j l)
  | 0, _, h => h
  | j + 1, l, h => by
    unfold insDn
    cases decide ((l.getD (j + 1) zT).1 - (l.getD j zT).1 < 0) with
    | true => rw [cond_true]; exact small_ins j (small_swap h j)
    | false => rw [cond_false]; exact h
theorem up_len (l : List TurnD) : ∀ (k : Nat), (sortUp l k).length = l.length
  | 0 => rfl
  | k + 1 => by show (insDn k (sortUp l k)).length = _; rw [ins_len, up_len l k]
theorem small_up {l : List TurnD} (h : small l) : ∀ (k : Nat), small (sortUp l k)
  | 0 => h
  | k + 1 => small_ins k (small_up h k)

theorem v310095 (l : List (Int × Int)) (a : Int) (b : Int) (u : Unit) : obodyVC (ctxOf tab [(30, c30)]) Tryz.f95 c310095 (a310095 (l, a, b, u, ())) (l, a, b, u, ()) = (
InR IntKind.i64 (a + (1 : Int)) ∧
(∃ (s04 : Nat), s04 ≤ l.length - (1 : Nat) ∧ (↑s04 : Int) + (1 : Int) = a + (1 : Int) ∧ a = a ∧ b = b ∧ u = u ∧ sortUp l (s04 + (1 : Nat)) = l ∧ True) ∧
∀ (s4 : Nat),
lett (decide ((↑s4 : Int) + (1 : Int) < b)) fun (y5 : Bool) =>
lett ((↑s4 : Int) + (1 : Int) + (1 : Int)) fun (y6 : Int) =>
s4 ≤ l.length - (1 : Nat) →
(y5 = true →
(∃ (s07 : Nat × List TurnD),
InsOk (sortUp l ((↑s4 : Int) + (1 : Int)).toNat) ((↑s4 : Int) + (1 : Int)).toNat s07.fst s07.snd ∧
(↑s07.fst : Int) = (↑s4 : Int) + (1 : Int) ∧ a = a ∧ b = b ∧ u = u ∧ (↑s4 : Int) + (1 : Int) = (↑s4 : Int) + (1 : Int) ∧ s07.snd = sortUp l (s4 + (1 : Nat)) ∧ True) ∧
∀ (s7 : Nat × List TurnD),
lett (decide ((↑s7.fst : Int) > a)) fun (y8 : Bool) =>
lett (s7.snd.getD (↑s7.fst : Int).toNat ((0 : Int), (0 : Int))) fun (y9 : Int × Int) =>
lett (s7.snd.getD ((↑s7.fst : Int) - (1 : Int)).toNat ((0 : Int), (0 : Int))) fun (y10 : Int × Int) =>
lett (bif y8 then decide (y9.fst - y10.fst < (0 : Int)) else false) fun (y11 : Bool) =>
lett (s7.snd.set (↑s7.fst : Int).toNat y10) fun (y12 : List (Int × Int)) =>
InsOk (sortUp l ((↑s4 : Int) + (1 : Int)).toNat) ((↑s4 : Int) + (1 : Int)).toNat s7.fst s7.snd →
(y8 = true → InB (↑s7.fst : Int) s7.snd.length) ∧
(y8 = true → InR IntKind.i64 ((↑s7.fst : Int) - (1 : Int))) ∧
(y8 = true → InB ((↑s7.fst : Int) - (1 : Int)) s7.snd.length) ∧
(y8 = true → ((-1000 : Int) ≤ y9.fst ∧ y9.fst ≤ (1000 : Int)) ∧ (-1000 : Int) ≤ y10.fst ∧ y10.fst ≤ (1000 : Int)) ∧
(y11 = true →
InR IntKind.i64 ((↑s7.fst : Int) - (1 : Int)) ∧
InR IntKind.i64 ((↑s7.fst : Int) - (1 : Int)) ∧
InB ((↑s7.fst : Int) - (1 : Int)) s7.snd.length ∧
InB (↑s7.fst : Int) s7.snd.length ∧
InB (↑s7.fst : Int) s7.snd.length ∧
InB ((↑s7.fst : Int) - (1 : Int)) y12.length ∧
InR IntKind.i64 ((↑s7.fst : Int) - (1 : Int)) ∧
∃ (s'13 : Nat × List TurnD),
InsOk (sortUp l ((↑s4 : Int) + (1 : Int)).toNat) ((↑s4 : Int) + (1 : Int)).toNat s'13.fst s'13.snd ∧
s'13.fst < s7.fst ∧
(↑s'13.fst : Int) = (↑s7.fst : Int) - (1 : Int) ∧
a = a ∧
b = b ∧
u = u ∧ (↑s4 : Int) + (1 : Int) = (↑s4 : Int) + (1 : Int) ∧ s'13.snd = y12.set ((↑s7.fst : Int) - (1 : Int)).toNat y9 ∧ True) ∧
(y11 = false →
InR IntKind.i64 y6 ∧
∃ (s'13 : Nat),
s'13 ≤ l.length - (1 : Nat) ∧
l.length - s'13 < l.length - s4 ∧ (↑s'13 : Int) + (1 : Int) = y6 ∧ a = a ∧ b = b ∧ u = u ∧ sortUp l (s'13 + (1 : Nat)) = s7.snd ∧ True)) ∧
(y5 = false → sortUp l (s4 + (1 : Nat)) = fSort l ∧ True)) := by kernel_rfl

theorem b310095 (l : List TurnD) (a b : Int) (h1 : a = 0) (h2 : b = (l.length : Int)) (hs : small l) : obodyVC (ctxOf tab [(30, c30)]) Tryz.f95 c310095 (a310095 (l, a, b, (), ())) (l, a, b, (), ()) := by
  subst h1 h2
  have hl := hs.1
  rw [v310095]
  simp only [true_and, and_true, eq_self, Int.toNat_natCast]
  refine ⟨inR64 (by omega) (by omega), ⟨0, by omega, by omega, rfl⟩, fun k => lett.mk fun y5 e5 => lett.mk fun y6 e6 => fun hk => ⟨fun h => ?_, fun h => ?_⟩⟩
  · have h5 : (k : Int) + 1 < (l.length : Int) := by rw [h] at e5; exact of_decide_eq_true e5.symm
    have hn : ((k : Int) + 1).toNat = k + 1 := by omega
    rw [hn]
    refine ⟨⟨(k + 1, sortUp l (k + 1)), ⟨small_up hs _, rfl, by omega, by rw [up_len]; omega, rfl⟩, by omega, rfl⟩, fun s => lett.mk fun y8 e8 => lett.mk fun y9 e9 => lett.mk fun y10 e10 => lett.mk fun y11 e11 => lett.mk fun y12 e12 => fun ho => ?_⟩
    obtain ⟨j, m⟩ := s
    obtain ⟨i1, i2, i3, i4, i5⟩ := ho
    have i1 : small m := i1
    have i2 : m.length = (sortUp l (k + 1)).length := i2
    have i3 : j ≤ k + 1 := i3
    have i5 : insDn j m = insDn (k + 1) (sortUp l (k + 1)) := i5
    have i2' : m.length = l.length := by rw [i2, up_len]
    have i4' : k + 1 < l.length := by omega
    have e8 : y8 = decide ((j : Int) > 0) := e8
    have e9 : y9 = m.getD j zT := e9
    have e10 : y10 = m.getD ((j : Int) - 1).toNat zT := e10
    have e12 : y12 = m.set j y10 := e12
    have g9 := small_at i1 j
    have g10 := small_at i1 ((j : Int) - 1).toNat
    rw [← e9] at g9
    rw [← e10] at g10
    show (y8 = true → InB (j : Int) m.length) ∧ (y8 = true → InR IntKind.i64 ((j : Int) - 1)) ∧ (y8 = true → InB ((j : Int) - 1) m.length) ∧ _ ∧ _ ∧ _
    refine ⟨fun h8 => ⟨by omega, by omega⟩, fun h8 => inR64 (by omega) (by omega), fun h8 => ?_, fun h8 => ⟨g9, g10⟩, fun h11 => ?_, fun h11 => ?_⟩
    · rw [h8] at e8
      have := of_decide_eq_true e8.symm
      exact ⟨by omega, by omega⟩
    · rw [e11] at h11
      cases h8 : y8 with
      | false => rw [h8] at h11; cases h11
      | true =>
        rw [h8] at h11 e8
        have h11 := of_decide_eq_true h11
        have h8 := of_decide_eq_true e8.symm
        obtain ⟨j', rfl⟩ : ∃ j', j = j' + 1 := ⟨j - 1, by omega⟩
        have hj : (((j' + 1 : Nat) : Int) - 1).toNat = j' := by omega
        rw [hj] at e10
        have hlen : y12.length = m.length := by rw [e12, List.length_set]
        show InR IntKind.i64 (((j' + 1 : Nat) : Int) - 1) ∧ _
        refine ⟨inR64 (by omega) (by omega), inR64 (by omega) (by omega), ⟨by show (0 : Int) ≤ ((j' + 1 : Nat) : Int) - 1; omega, by show ((j' + 1 : Nat) : Int) - 1 < (m.length : Int); omega⟩, ⟨by show (0 : Int) ≤ ((j' + 1 : Nat) : Int); omega, by show ((j' + 1 : Nat) : Int) < (m.length : Int); omega⟩, ⟨by show (0 : Int) ≤ ((j' + 1 : Nat) : Int); omega, by show ((j' + 1 : Nat) : Int) < (m.length : Int); omega⟩, ⟨by show (0 : Int) ≤ ((j' + 1 : Nat) : Int) - 1; omega, by show ((j' + 1 : Nat) : Int) - 1 < (y12.length : Int); omega⟩, inR64 (by omega) (by omega), (j', swapDn m j'), ⟨small_swap i1 _, ?_, ?_, ?_, ?_⟩, ?_, ?_, ?_⟩
        · show (swapDn m j').length = _; rw [swap_len]; exact i2
        · show j' ≤ _; omega
        · rw [up_len]; omega
        · show insDn j' (swapDn m j') = _
          rw [← i5]
          show _ = insDn (j' + 1) m
          conv => rhs; unfold insDn
          rw [← e9, ← e10, decide_eq_true h11]
          rfl
        · show j' < j' + 1; omega
        · show (j' : Int) = ((j' + 1 : Nat) : Int) - 1; omega
        · show swapDn m j' = y12.set (((j' + 1 : Nat) : Int) - 1).toNat y9
          rw [hj, e12, e9, e10]
          rfl
    · refine ⟨by rw [e6]; exact inR64 (by omega) (by omega), k + 1, by omega, by omega, by rw [e6]; omega, ?_⟩
      show insDn (k + 1) (sortUp l (k + 1)) = m
      rw [← i5]
      cases j with
      | zero => rfl
      | succ j' =>
        have hj : (((j' + 1 : Nat) : Int) - 1).toNat = j' := by omega
        rw [hj] at e10
        have h8 : y8 = true := by rw [e8]; exact decide_eq_true (by omega)
        rw [h8] at e11
        rw [h11] at e11
        unfold insDn
        rw [← e9, ← e10]
        rw [cond_true] at e11
        rw [← e11]
        rfl
  · have h5 : ¬ (k : Int) + 1 < (l.length : Int) := by rw [h] at e5; exact of_decide_eq_false e5.symm
    unfold fSort
    by_cases h0 : l.length = 0
    · have hk : k = 0 := by omega
      rw [h0, hk]
      rfl
    · have : k + 1 = l.length := by omega
      rw [this]

theorem ok310095 : OOk Tryz.prog 95 c310095 :=
  OOk.of' (l := [(30, c30)]) (A := a310095) tabOk ⟨ok30, trivial⟩ Tryz.func95 (by kernel_rfl) (by kernel_rfl) fun x hw hp => b310095 x.1 x.2.1 x.2.2.1 hp.1 hp.2.1 hp.2.2

theorem v310054 (l : List (Int × Int)) (a : Int) (b : Int) (m : Int) (u : Unit) : obodyVC (ctxOf tab [(310095, c310095)]) Tryz.f54 c310054 (a310054 (l, a, b, m, u, ())) (l, a, b, m, u, ()) = (
lett (decide (b - a ≤ (12 : Int))) fun (y5 : Bool) =>
(∃ (s06 : Unit), True ∧ a = a ∧ b = b ∧ m = m ∧ u = u ∧ true = true ∧ true = true ∧ l = l ∧ True) ∧
∀ (s6 : Unit),
True →
InR IntKind.i64 (b - a) ∧
(y5 = true → (a = (0 : Int) ∧ b = (↑l.length : Int) ∧ small l) ∧ fSort l = fSort l ∧ True) ∧
(y5 = false → ((m == (0 : Int)) = true → False) ∧ ((m == (0 : Int)) = false → ((!true) = true → False) ∧ ((!true) = false → False)))) := by kernel_rfl

theorem b310054 (l : List TurnD) (a b m : Int) (h1 : a = 0) (h2 : b = (l.length : Int)) (h3 : small l) : obodyVC (ctxOf tab [(310095, c310095)]) Tryz.f54 c310054 (a310054 (l, a, b, m, (), ())) (l, a, b, m, (), ()) := by
  subst h1 h2
  have hl := h3.1
  rw [v310054]
  refine lett.mk fun y5 e5 => ?_
  have h5 : y5 = true := by rw [e5]; exact decide_eq_true (by omega)
  simp only [true_and, and_true, eq_self]
  exact ⟨⟨(), trivial⟩, fun _ _ => ⟨inR64 (by omega) (by omega), fun _ => h3, fun h => by rw [h5] at h; cases h⟩⟩

theorem ok310054 : OOk Tryz.prog 54 c310054 :=
  OOk.of' (l := [(310095, c310095)]) (A := a310054) tabOk ⟨ok310095, trivial⟩ Tryz.func54 (by kernel_rfl) (by kernel_rfl) fun x hw hp => b310054 x.1 x.2.1 x.2.2.1 x.2.2.2.1 hp.1 hp.2.1 hp.2.2

theorem v104 (n : Int) : bodyVC (ctxOf tab []) Tryz.f104 c104 noAnn (n, ()) = (
lett (bif decide (n ≥ (4294967296 : Int)) then n.fdiv ((2 : Int) ^ min (Int.toNat (32 : Int)) IntKind.u64.bits) else n) fun (y1 : Int) =>
lett (bif decide (n ≥ (4294967296 : Int)) then (32 : Int) else (0 : Int)) fun (y2 : Int) =>
lett (bif decide (y1 ≥ (65536 : Int)) then y1.fdiv ((2 : Int) ^ min (Int.toNat (16 : Int)) IntKind.u64.bits) else y1) fun (y3 : Int) =>
lett (bif decide (y1 ≥ (65536 : Int)) then y2 + (16 : Int) else y2) fun (y4 : Int) =>
lett (IntKind.u8.wrap (bif decide (y3 ≥ (256 : Int)) then y3.fdiv ((2 : Int) ^ min (Int.toNat (8 : Int)) IntKind.u64.bits) else y3)) fun (y5 : Int) =>
lett
[(8 : UInt8), (8 : UInt8), (8 : UInt8), (8 : UInt8), (8 : UInt8), (8 : UInt8), (8 : UInt8), (8 : UInt8), (8 : UInt8), (8 : UInt8), (8 : UInt8), (8 : UInt8), (8 : UInt8), (8 : UInt8),
(8 : UInt8), (8 : UInt8), (8 : UInt8), (8 : UInt8), (8 : UInt8), (8 : UInt8), (8 : UInt8), (8 : UInt8), (8 : UInt8), (8 : UInt8), (8 : UInt8), (8 : UInt8), (8 : UInt8), (8 : UInt8),
(8 : UInt8), (8 : UInt8), (8 : UInt8), (8 : UInt8), (8 : UInt8), (8 : UInt8), (8 : UInt8), (8 : UInt8), (8 : UInt8), (8 : UInt8), (8 : UInt8), (8 : UInt8), (8 : UInt8), (8 : UInt8),
(8 : UInt8), (8 : UInt8), (8 : UInt8), (8 : UInt8), (8 : UInt8), (8 : UInt8), (8 : UInt8), (8 : UInt8), (8 : UInt8), (8 : UInt8), (8 : UInt8), (8 : UInt8), (8 : UInt8), (8 : UInt8),
(8 : UInt8), (8 : UInt8), (8 : UInt8), (8 : UInt8), (8 : UInt8), (8 : UInt8), (8 : UInt8), (8 : UInt8)]
fun (y6 : List UInt8) =>
lett
(([(0 : UInt8), (1 : UInt8), (2 : UInt8), (2 : UInt8), (3 : UInt8), (3 : UInt8), (3 : UInt8), (3 : UInt8), (4 : UInt8), (4 : UInt8), (4 : UInt8), (4 : UInt8), (4 : UInt8), (4 : UInt8),
(4 : UInt8), (4 : UInt8), (5 : UInt8), (5 : UInt8), (5 : UInt8), (5 : UInt8), (5 : UInt8), (5 : UInt8), (5 : UInt8), (5 : UInt8), (5 : UInt8), (5 : UInt8), (5 : UInt8),
(5 : UInt8), (5 : UInt8), (5 : UInt8), (5 : UInt8), (5 : UInt8), (6 : UInt8), (6 : UInt8), (6 : UInt8), (6 : UInt8), (6 : UInt8), (6 : UInt8), (6 : UInt8), (6 : UInt8),
(6 : UInt8), (6 : UInt8), (6 : UInt8), (6 : UInt8), (6 : UInt8), (6 : UInt8), (6 : UInt8), (6 : UInt8), (6 : UInt8), (6 : UInt8), (6 : UInt8), (6 : UInt8), (6 : UInt8),
(6 : UInt8), (6 : UInt8), (6 : UInt8), (6 : UInt8), (6 : UInt8), (6 : UInt8), (6 : UInt8), (6 : UInt8), (6 : UInt8), (6 : UInt8), (6 : UInt8)].append
[(7 : UInt8), (7 : UInt8), (7 : UInt8), (7 : UInt8), (7 : UInt8), (7 : UInt8), (7 : UInt8), (7 : UInt8), (7 : UInt8), (7 : UInt8), (7 : UInt8), (7 : UInt8), (7 : UInt8),
(7 : UInt8), (7 : UInt8), (7 : UInt8), (7 : UInt8), (7 : UInt8), (7 : UInt8), (7 : UInt8), (7 : UInt8), (7 : UInt8), (7 : UInt8), (7 : UInt8), (7 : UInt8), (7 : UInt8),
(7 : UInt8), (7 : UInt8), (7 : UInt8), (7 : UInt8), (7 : UInt8), (7 : UInt8), (7 : UInt8), (7 : UInt8), (7 : UInt8), (7 : UInt8), (7 : UInt8), (7 : UInt8), (7 : UInt8),
(7 : UInt8), (7 : UInt8), (7 : UInt8), (7 : UInt8), (7 : UInt8), (7 : UInt8), (7 : UInt8), (7 : UInt8), (7 : UInt8), (7 : UInt8), (7 : UInt8), (7 : UInt8), (7 : UInt8),
(7 : UInt8), (7 : UInt8), (7 : UInt8), (7 : UInt8), (7 : UInt8), (7 : UInt8), (7 : UInt8), (7 : UInt8), (7 : UInt8), (7 : UInt8), (7 : UInt8), (7 : UInt8)]).append
(y6.append y6))
fun (y7 : List UInt8) =>
lett ((bif decide (y3 ≥ (256 : Int)) then y4 + (8 : Int) else y4) + (↑(y7.getD y5.toNat (0 : UInt8)).toNat : Int)) fun (y8 : Int) =>
(decide (n ≥ (4294967296 : Int)) = true → (0 : Int) ≤ (32 : Int)) ∧
(decide (y1 ≥ (65536 : Int)) = true → (0 : Int) ≤ (16 : Int)) ∧
(decide (y1 ≥ (65536 : Int)) = true → InR IntKind.i64 (y2 + (16 : Int))) ∧
(decide (y3 ≥ (256 : Int)) = true → (0 : Int) ≤ (8 : Int)) ∧
(decide (y3 ≥ (256 : Int)) = true → InR IntKind.i64 (y4 + (8 : Int))) ∧ InB y5 y7.length ∧ InR IntKind.i64 y8 ∧ y8 = fBits n ∧ True) := by kernel_rfl

theorem b104 (n : Int) (h0 : 0 ≤ n) (hp : n ≤ 12) : bodyVC (ctxOf tab []) Tryz.f104 c104 noAnn (n, ()) := by
  rw [v104]
  have hn : n = 0 ∨ n = 1 ∨ n = 2 ∨ n = 3 ∨ n = 4 ∨ n = 5 ∨ n = 6 ∨ n = 7 ∨ n = 8 ∨ n = 9 ∨ n = 10 ∨ n = 11 ∨ n = 12 := by omega
  rcases hn with rfl | rfl | rfl | rfl | rfl | rfl | rfl | rfl | rfl | rfl | rfl | rfl | rfl <;>
  exact And.intro (fun h => absurd h (by decide)) (And.intro (fun h => absurd h (by decide)) (And.intro (fun h => absurd h (by decide)) (And.intro (fun h => absurd h (by decide)) (And.intro (fun h => absurd h (by decide)) (And.intro (And.intro (by decide) (by decide)) (And.intro (inR64 (by decide) (by decide)) (And.intro (by decide) trivial)))))))

theorem ok104 : DOk Tryz.prog 104 c104 :=
  DOk.of' (l := []) (A := fun _ => noAnn) tabOk trivial Tryz.func104 (by kernel_rfl) (by kernel_rfl) fun x hw hp => b104 x.1 (inR_u64 hw.1).1 hp

theorem v55 (n : Int) : bodyVC (ctxOf tab [(104, c104)]) Tryz.f55 c55 noAnn (n, ()) = (
(false = true → False) ∧ (false = false → n ≤ (12 : Int) ∧ fBits n = fBits n ∧ True)) := by kernel_rfl

theorem b55 (n : Int) (hp : n ≤ 12) : bodyVC (ctxOf tab [(104, c104)]) Tryz.f55 c55 noAnn (n, ()) := by
  rw [v55]
  exact And.intro (fun h => Bool.noConfusion h) (fun _ => ⟨hp, rfl, trivial⟩)

theorem ok55 : DOk Tryz.prog 55 c55 :=
  DOk.of' (l := [(104, c104)]) (A := fun _ => noAnn) tabOk ⟨ok104, trivial⟩ Tryz.func55 (by kernel_rfl) (by kernel_rfl) fun x hw hp => b55 x.1 hp

theorem v310029 (l : List (Int × Int)) (u : Unit) : obodyVC (ctxOf tab [(310054, c310054), (55, c55)]) Tryz.f29 c310029 noAnn (l, u, ()) = (
IntKind.u64.wrap (↑l.length : Int) ≤ (12 : Int) ∧ ((0 : Int) = (0 : Int) ∧ (↑l.length : Int) = (↑l.length : Int) ∧ small l) ∧ fSort l = fSort l ∧ True) := by kernel_rfl

theorem b310029 (l : List TurnD) (h3 : small l) : obodyVC (ctxOf tab [(310054, c310054), (55, c55)]) Tryz.f29 c310029 noAnn (l, (), ()) := by
  have hl := h3.1
  rw [v310029]
  refine ⟨?_, ⟨rfl, rfl, h3⟩, rfl, trivial⟩
  have : IntKind.u64.wrap (l.length : Int) = (l.length : Int) := wrap_u64 (by omega) (by omega)
  omega

theorem ok310029 : OOk Tryz.prog 29 c310029 :=
  OOk.of' (l := [(310054, c310054), (55, c55)]) (A := fun _ => noAnn) tabOk ⟨ok310054, ok55, trivial⟩ Tryz.func29 (by kernel_rfl) (by kernel_rfl) fun x hw hp => b310029 x.1 hp

end YtpnnfimacblhgaaGreat
end Go.Proofs
end

section
set_option maxRecDepth 100000
set_option linter.unusedVariables false
set_option linter.unusedSimpArgs false
set_option maxHeartbeats 2000000
namespace Go.Proofs
open Go Go.Vc
namespace YtpnnfimacblhgaaGreat

/-! ### The program's Wants -/

theorem gLine_in {n : NetD} (h : lineIn n) (e : Int) : (gLine n e).1 < 0 ∨ (0 ≤ (gLine n e).1 ∧ (gLine n e).1 ≤ 9) := by
  unfold gLine
  cases hm : mget I n.2.2.2.1 e with
  | none => exact .inl (by decide)
  | some x => exact .inr (h _ (mem_of_mget intKey hm))

structure WantsOk (l : List TurnD) : Prop where
  nodup : (l.map Prod.fst).Nodup
  inn : ∀ t ∈ l, 0 ≤ t.1 ∧ t.1 ≤ 9

theorem wants_step {n : NetD} (h : lineIn n) {l : List TurnD} (hl : WantsOk l) (s : StepD) : WantsOk (wantStep n l s) := by
  unfold wantStep
  cases h1 : decide ((gLine n s.1).1 < 0) with
  | true => exact hl
  | false =>
    cases h2 : l.any (fun t => t.1 == (gLine n s.1).1) with
    | true => exact hl
    | false =>
      refine ⟨?_, fun t ht => ?_⟩
      · show ((l ++ [_]).map Prod.fst).Nodup
        rw [List.map_append, List.nodup_append]
        refine ⟨hl.nodup, by simp, fun a ha b hb he => ?_⟩
        have hb : b = (gLine n s.1).1 := by simpa using hb
        obtain ⟨t, ht, rfl⟩ := List.mem_map.1 ha
        have := List.any_eq_false.1 h2 t ht
        rw [he, hb] at this
        simp at this
      · rcases List.mem_append.1 (show t ∈ l ++ [_] from ht) with ht | ht
        · exact hl.inn t ht
        · rw [List.mem_singleton.1 ht]
          rcases gLine_in h s.1 with h | h
          · exact absurd h (of_decide_eq_false h1)
          · exact h

theorem wants_up {n : NetD} (h : lineIn n) (r : RoadD) : ∀ k, WantsOk (wantsUp n r k)
  | 0 => ⟨List.nodup_nil, fun t ht => absurd ht (List.not_mem_nil)⟩
  | k + 1 => wants_step h (wants_up h r k) _

theorem wants_len {l : List TurnD} (h : WantsOk l) : l.length ≤ 10 := by
  have := nodup_len (l := l.map Prod.fst) (m := [0, 1, 2, 3, 4, 5, 6, 7, 8, 9]) h.nodup (fun x hx => by
    obtain ⟨t, ht, rfl⟩ := List.mem_map.1 hx
    have := h.inn t ht
    have : t.1 = 0 ∨ t.1 = 1 ∨ t.1 = 2 ∨ t.1 = 3 ∨ t.1 = 4 ∨ t.1 = 5 ∨ t.1 = 6 ∨ t.1 = 7 ∨ t.1 = 8 ∨ t.1 = 9 := by omega
    simp only [List.mem_cons, List.not_mem_nil, or_false]
    exact this)
  rw [List.length_map] at this
  exact this

theorem wants_small {l : List TurnD} (h : WantsOk l) : small l := ⟨by have := wants_len h; omega, fun t ht => by have := h.inn t ht; omega⟩

theorem v9 (n : NetD) (r : RoadD) : bodyVC (ctxOf tab [(11, c11), (12, c12), (290027, c290027), (310029, c310029)] [] [(28, .pair (.ref I) .unit), (30, .unit)]) Tryz.f9 c9 (a9 (n, r, ())) (n, r, ()) = (
(∃ (s02 : Nat),
s02 ≤ r.snd.snd.snd.fst.length ∧
(↑s02 : Int) = (0 : Int) ∧
[n] = [n] ∧
(0 : Nat) = (0 : Nat) ∧
r.snd.snd.snd.fst = r.snd.snd.snd.fst ∧
(↑r.snd.snd.snd.fst.length : Int) = (↑r.snd.snd.snd.fst.length : Int) ∧
wantsUp n r s02 = [] ∧
keepP r (True)) ∧
∀ (s2 : Nat),
lett (decide ((↑s2 : Int) < (↑r.snd.snd.snd.fst.length : Int))) fun (y3 : Bool) =>
lett (r.snd.snd.snd.fst.getD (↑s2 : Int).toNat ((0 : Int), (0 : Int), (0 : Int))) fun (y4 : Int × Int × Int) =>
lett (decide ((gLine n y4.fst).fst < (0 : Int))) fun (y5 : Bool) =>
lett ((wantsUp n r s2).any fun (t : TurnD) => t.fst == (gLine n y4.fst).fst) fun (y6 : Bool) =>
lett (gLead n y4.fst y4.snd.fst) fun (y7 : Int) =>
lett ((List.replicate (1 : Nat) ((0 : Int), (0 : Int))).set (0 : Nat) ((gLine n y4.fst).fst, y7)) fun (y8 : List (Int × Int)) =>
lett ((List.replicate (1 : Nat) ((0 : Int), (0 : Int))).set (0 : Nat) ((gLine n y4.fst).fst, y7)) fun (y9 : List (Int × Int)) =>
s2 ≤ r.snd.snd.snd.fst.length →
(y3 = true →
InB (↑s2 : Int) r.snd.snd.snd.fst.length ∧
True ∧
(y5 = false →
(wantsUp n r s2).length ≤ (1000 : Nat) ∧
(y6 = true →
InR IntKind.i64 ((↑s2 : Int) + (1 : Int)) ∧
∃ (s'10 : Nat),
s'10 ≤ r.snd.snd.snd.fst.length ∧
r.snd.snd.snd.fst.length - s'10 < r.snd.snd.snd.fst.length - s2 ∧
(↑s'10 : Int) = (↑s2 : Int) + (1 : Int) ∧
[n] = [n] ∧
(0 : Nat) = (0 : Nat) ∧
r.snd.snd.snd.fst = r.snd.snd.snd.fst ∧
(↑r.snd.snd.snd.fst.length : Int) = (↑r.snd.snd.snd.fst.length : Int) ∧
wantsUp n r s'10 = wantsUp n r s2 ∧
keepP r (True)) ∧
(y6 = false →
True ∧
roomFor ((wantsUp n r s2).length + y8.length) (16 : Nat) ∧
InR IntKind.i64 ((↑s2 : Int) + (1 : Int)) ∧
∃ (s'10 : Nat),
s'10 ≤ r.snd.snd.snd.fst.length ∧
r.snd.snd.snd.fst.length - s'10 < r.snd.snd.snd.fst.length - s2 ∧
(↑s'10 : Int) = (↑s2 : Int) + (1 : Int) ∧
[n] = [n] ∧
(0 : Nat) = (0 : Nat) ∧
r.snd.snd.snd.fst = r.snd.snd.snd.fst ∧
(↑r.snd.snd.snd.fst.length : Int) = (↑r.snd.snd.snd.fst.length : Int) ∧
wantsUp n r s'10 = wantsUp n r s2 ++ y8 ∧
keepP r (True))) ∧
(y5 = !false →
(true = true →
InR IntKind.i64 ((↑s2 : Int) + (1 : Int)) ∧
∃ (s'10 : Nat),
s'10 ≤ r.snd.snd.snd.fst.length ∧
r.snd.snd.snd.fst.length - s'10 < r.snd.snd.snd.fst.length - s2 ∧
(↑s'10 : Int) = (↑s2 : Int) + (1 : Int) ∧
[n] = [n] ∧
(0 : Nat) = (0 : Nat) ∧
r.snd.snd.snd.fst = r.snd.snd.snd.fst ∧
(↑r.snd.snd.snd.fst.length : Int) = (↑r.snd.snd.snd.fst.length : Int) ∧
wantsUp n r s'10 = wantsUp n r s2 ∧
keepP r (True)) ∧
(true = false →
True ∧
roomFor ((wantsUp n r s2).length + y9.length) (16 : Nat) ∧
InR IntKind.i64 ((↑s2 : Int) + (1 : Int)) ∧
∃ (s'10 : Nat),
s'10 ≤ r.snd.snd.snd.fst.length ∧
r.snd.snd.snd.fst.length - s'10 < r.snd.snd.snd.fst.length - s2 ∧
(↑s'10 : Int) = (↑s2 : Int) + (1 : Int) ∧
[n] = [n] ∧
(0 : Nat) = (0 : Nat) ∧
r.snd.snd.snd.fst = r.snd.snd.snd.fst ∧
(↑r.snd.snd.snd.fst.length : Int) = (↑r.snd.snd.snd.fst.length : Int) ∧
wantsUp n r s'10 = wantsUp n r s2 ++ y9 ∧
keepP r (True)))) ∧
(y3 = false → small (wantsUp n r s2) ∧ fSort (wantsUp n r s2) = fWants n r ∧ True)) := by kernel_rfl

theorem b9 (n : NetD) (r : RoadD) (hl : lineIn n) (hr : r.2.2.2.1.length ≤ 1000) : bodyVC (ctxOf tab [(11, c11), (12, c12), (290027, c290027), (310029, c310029)] [] [(28, .pair (.ref I) .unit), (30, .unit)]) Tryz.f9 c9 (a9 (n, r, ())) (n, r, ()) := by
  rw [v9]
  simp only [keepP_eq, true_and, and_true, eq_self]
  refine ⟨⟨0, by omega, by omega, rfl⟩, fun s => lett.mk fun y3 e3 => lett.mk fun y4 e4 => lett.mk fun y5 e5 => lett.mk fun y6 e6 => lett.mk fun y7 e7 => lett.mk fun y8 e8 => lett.mk fun y9 e9 => fun hs => ⟨fun h => ?_, fun h => ?_⟩⟩
  · have hs' := lt_of_y e3 h
    rw [Int.toNat_natCast] at e4
    have hw : wantsUp n r (s + 1) = wantStep n (wantsUp n r s) y4 := by rw [e4]; rfl
    have hq : wantStep n (wantsUp n r s) y4 = bif y5 || y6 then wantsUp n r s else wantsUp n r s ++ y8 := by rw [e5, e6, e8, e7]; rfl
    have h10 := wants_len (wants_up hl r s)
    refine ⟨⟨by omega, by omega⟩, fun h5 => ⟨by omega, fun h6 => ⟨inR64 (by omega) (by omega), s + 1, by omega, by omega, by omega, ?_⟩, fun h6 => ⟨roomB (by rw [e8]; show _ + 1 ≤ _; omega) (by omega), inR64 (by omega) (by omega), s + 1, by omega, by omega, by omega, ?_⟩⟩, fun h5 => ⟨fun _ => ⟨inR64 (by omega) (by omega), s + 1, by omega, by omega, by omega, ?_⟩, fun h => Bool.noConfusion h⟩⟩
    · rw [hw, hq, h5, h6]; rfl
    · rw [hw, hq, h5, h6]; rfl
    · rw [hw, hq, h5]; rfl
  · have hs' := le_of_y e3 h
    have : s = r.2.2.2.1.length := by omega
    subst this
    refine ⟨wants_small (wants_up hl r _), ?_⟩
    unfold fWants
    rfl

theorem ok9 : DOk Tryz.prog 9 c9 :=
  DOk.of' (l := [(11, c11), (12, c12), (290027, c290027), (310029, c310029)]) (wraps := []) (clos := [(28, .pair (.ref I) .unit), (30, .unit)]) (A := a9) tabOk ⟨ok11, ok12, ok290027, ok310029, trivial⟩ Tryz.func9 (by kernel_rfl) (by kernel_rfl) fun x hw hp => b9 x.1 x.2.1 hp.1 hp.2

/-! ### Lines of the reference -/

theorem pos_at {l : List Int} {e : Int} {k : Nat} (hk : k < l.length) (h0 : anyTo (fun k => l.getD k 0 == e) k = false) (h : (l.getD k 0 == e) = true) : posOf l e = some k := by
  unfold posOf
  exact firstTo_at hk h0 h
theorem pos_none {l : List Int} {e : Int} (h0 : anyTo (fun k => l.getD k 0 == e) l.length = false) : posOf l e = none := by
  unfold posOf
  exact firstTo_none h0
theorem pos_some {l : List Int} {e : Int} {k : Nat} (h : posOf l e = some k) : k < l.length ∧ l.getD k 0 = e := by
  unfold posOf at h
  have := firstTo_some h
  exact ⟨this.1, eq_of_beq this.2⟩
theorem line_hit {p : PlanD} {e : Int} {s k : Nat} (hs : s < p.2.2.2.1.length) (h0 : anyTo (inLine p e) s = false) (hk : posOf (p.2.2.2.1.getD s zL).2 e = some k) : fLineOf p e = ((s : Int), (k : Int)) := by
  unfold fLineOf
  rw [firstTo_at hs h0 (by unfold inLine; rw [hk]; rfl)]
  show ((s : Int), idxOr _) = _
  rw [hk]
  rfl
theorem line_none {p : PlanD} {e : Int} (h0 : anyTo (inLine p e) p.2.2.2.1.length = false) : fLineOf p e = (-1, -1) := by
  unfold fLineOf
  rw [firstTo_none h0]
  rfl
theorem line_cases (p : PlanD) (e : Int) : (fLineOf p e = (-1, -1) ∧ anyTo (inLine p e) p.2.2.2.1.length = false) ∨ ∃ s k : Nat, s < p.2.2.2.1.length ∧ k < (p.2.2.2.1.getD s zL).2.length ∧ (p.2.2.2.1.getD s zL).2.getD k 0 = e ∧ fLineOf p e = ((s : Int), (k : Int)) := by
  cases hf : firstTo (inLine p e) p.2.2.2.1.length with
  | none =>
    refine .inl ⟨by unfold fLineOf; rw [hf]; rfl, ?_⟩
    cases h : anyTo (inLine p e) p.2.2.2.1.length with
    | false => rfl
    | true =>
      exfalso
      unfold firstTo at hf
      have := List.find?_eq_none.1 hf
      have : anyTo (inLine p e) p.2.2.2.1.length = false := anyTo_none.2 fun i hi => by simpa using this i (List.mem_range.2 hi)
      rw [h] at this
      cases this
  | some s =>
    right
    obtain ⟨h1, h2⟩ := firstTo_some hf
    unfold inLine at h2
    cases hk : posOf (p.2.2.2.1.getD s zL).2 e with
    | none => rw [hk] at h2; cases h2
    | some k =>
      obtain ⟨h3, h4⟩ := pos_some hk
      refine ⟨s, k, h1, h3, h4, ?_⟩
      unfold fLineOf
      rw [hf]
      show ((s : Int), idxOr _) = _
      rw [hk]
      rfl

theorem v31 (p : PlanD) (e : Int) : bodyVC (ctxOf tab []) Tryz.f31 c31 (a31 (p, e, ())) (p, e, ()) = (
(∃ (s02 : Nat),
(s02 ≤ p.snd.snd.snd.fst.length ∧ noneOf (inLine p e) s02) ∧
(↑s02 : Int) = (0 : Int) ∧
e = e ∧
keepP p (True)) ∧
∀ (s2 : Nat),
lett (decide ((↑s2 : Int) < (↑p.snd.snd.snd.fst.length : Int))) fun (y3 : Bool) =>
lett (p.snd.snd.snd.fst.getD (↑s2 : Int).toNat zL).snd fun (y4 : List Int) =>
lett (p.snd.snd.snd.fst.getD (↑s2 : Int).toNat ([], [])).snd fun (y5 : List Int) =>
s2 ≤ p.snd.snd.snd.fst.length ∧ noneOf (inLine p e) s2 →
(y3 = true →
(∃ (s06 : Nat),
(s06 ≤ y4.length ∧ noneOf (fun (k : Nat) => y4.getD k (0 : Int) == e) s06) ∧
(↑s06 : Int) = (0 : Int) ∧
e = e ∧
(↑s2 : Int) = (↑s2 : Int) ∧
keepP p (True)) ∧
∀ (s6 : Nat),
lett (decide ((↑s6 : Int) < (↑y5.length : Int))) fun (y7 : Bool) =>
lett (y5.getD (↑s6 : Int).toNat (0 : Int) == e) fun (y8 : Bool) =>
s6 ≤ y4.length ∧ noneOf (fun (k : Nat) => y4.getD k (0 : Int) == e) s6 →
InB (↑s2 : Int) p.snd.snd.snd.fst.length ∧
(y7 = true →
InB (↑s2 : Int) p.snd.snd.snd.fst.length ∧
InB (↑s6 : Int) y5.length ∧
(y8 = true → (↑s2 : Int) = (fLineOf p e).fst ∧ (↑s6 : Int) = (fLineOf p e).snd ∧ True) ∧
(y8 = false →
InR IntKind.i64 ((↑s6 : Int) + (1 : Int)) ∧
∃ (s'9 : Nat),
(s'9 ≤ y4.length ∧ noneOf (fun (k : Nat) => y4.getD k (0 : Int) == e) s'9) ∧
y4.length - s'9 < y4.length - s6 ∧
(↑s'9 : Int) = (↑s6 : Int) + (1 : Int) ∧
e = e ∧
(↑s2 : Int) = (↑s2 : Int) ∧
keepP p (True))) ∧
(y7 = false →
InR IntKind.i64 ((↑s2 : Int) + (1 : Int)) ∧
∃ (s'9 : Nat),
(s'9 ≤ p.snd.snd.snd.fst.length ∧ noneOf (inLine p e) s'9) ∧
p.snd.snd.snd.fst.length - s'9 < p.snd.snd.snd.fst.length - s2 ∧
(↑s'9 : Int) = (↑s2 : Int) + (1 : Int) ∧
e = e ∧
keepP p (True))) ∧
(y3 = false → (-1 : Int) = (fLineOf p e).fst ∧ (-1 : Int) = (fLineOf p e).snd ∧ True)) := by kernel_rfl

theorem b31 (p : PlanD) (e : Int) (hm : p.2.2.2.1.length ≤ maxLenI) (hq : ∀ l ∈ p.2.2.2.1, l.2.length ≤ maxLenI) : bodyVC (ctxOf tab []) Tryz.f31 c31 (a31 (p, e, ())) (p, e, ()) := by
  rw [v31]
  simp only [keepP_eq, true_and, and_true, eq_self]
  refine ⟨⟨0, ⟨by omega, rfl⟩, by omega⟩, fun s => lett.mk fun y3 e3 => lett.mk fun y4 e4 => lett.mk fun y5 e5 => fun hs => ⟨fun h => ?_, fun h => ?_⟩⟩
  · have hs' := lt_of_y e3 h
    have e5 : y5 = y4 := by rw [e4]; exact e5
    subst e5
    rw [Int.toNat_natCast] at e4
    have hy : y5.length ≤ maxLenI := by rw [e4]; exact hq _ (mem_getD zL hs')
    refine ⟨⟨0, ⟨by omega, rfl⟩, by omega⟩, fun k => lett.mk fun y7 e7 => lett.mk fun y8 e8 => fun hk => ⟨⟨by omega, by omega⟩, fun h7 => ⟨⟨by omega, by omega⟩, ?_, fun h8 => ?_, fun h8 => ?_⟩, fun h7 => ?_⟩⟩
    · have := lt_of_y e7 h7
      exact ⟨by omega, by omega⟩
    · have hk' := lt_of_y e7 h7
      rw [Int.toNat_natCast] at e8
      have := line_hit hs' hs.2 (k := k) (by rw [← e4]; exact pos_at hk' hk.2 (by rw [← e8]; exact h8))
      rw [this]
      exact ⟨rfl, rfl⟩
    · have hk' := lt_of_y e7 h7
      rw [Int.toNat_natCast] at e8
      exact ⟨inRlen hk' hy, k + 1, ⟨by omega, anyTo_succ hk.2 (by rw [← e8]; exact h8)⟩, by omega, by omega⟩
    · have hk' := le_of_y e7 h7
      have : k = y5.length := by omega
      subst this
      exact ⟨inRlen hs' hm, s + 1, ⟨by omega, anyTo_succ hs.2 (by unfold inLine; rw [← e4, pos_none hk.2]; rfl)⟩, by omega, by omega⟩
  · have hs' := le_of_y e3 h
    have : s = p.2.2.2.1.length := by omega
    subst this
    rw [line_none hs.2]
    exact ⟨rfl, rfl⟩

theorem ok31 : DOk Tryz.prog 31 c31 :=
  DOk.of' (l := []) (A := a31) tabOk trivial Tryz.func31 (by kernel_rfl) (by kernel_rfl) fun x hw hp => b31 x.1 x.2.1 hw.1.2.2.2.1.1 (fun l hl => (hw.1.2.2.2.1.2 l hl).2.1)

/-! ### Leads -/

theorem ent_full {p : PlanD} {l : List Int} {o : Int} : ∀ k, (fEnt p l o k).2.2 = true → (fEnt p l o k).1.length = k + 1
  | 0, _ => rfl
  | k + 1, h => by
    have h0 : (fEnt p l o k).2.2 = true := by
      cases h0 : (fEnt p l o k).2.2 with
      | true => rfl
      | false => rw [ent_false h0 (k + 1) (by omega)] at h; cases h
    have ih := ent_full k h0
    unfold fEnt at h ⊢
    cases hb : ((fEnt p l o k).2.2 && ((entGo p l k (fEnt p l o k).2.1).2 && (entGo p l k (fEnt p l o k).2.1).1.1 == l.getD (k + 1) 0)) with
    | true =>
      show (_ ++ [_]).length = _
      rw [List.length_append, ih]
      rfl
    | false => rw [hb] at h; cases h

theorem enters_len {p : PlanD} {l : List Int} (h : (fEnters p l).2 = true) : (fEnters p l).1.length = l.length := by
  unfold fEnters at h ⊢
  cases h1 : decide (l.length = 0) || !l.all (fun e => fKind p e == 1) with
  | true => rw [h1] at h; cases h
  | false =>
    rw [h1, cond_false] at h; rw [cond_false]
    cases h2 : decide (l.length = 1) with
    | true => rw [cond_true]; have := of_decide_eq_true h2; rw [this]; rfl
    | false =>
      rw [h2, cond_false] at h; rw [cond_false]
      cases h3 : decide (fOut0 p l < 0) with
      | true => rw [h3] at h; cases h
      | false =>
        rw [h3, cond_false] at h; rw [cond_false]
        cases h4 : (fEnt p l (fOut0 p l) (l.length - 1)).2.2 with
        | false => rw [h4] at h; cases h
        | true =>
          rw [cond_true]
          show (fEnt p l (fOut0 p l) (l.length - 1)).1.length = _
          rw [ent_full _ h4]
          rw [Bool.or_eq_false_iff] at h1
          have := of_decide_eq_false h1.1
          omega

theorem line_enters {p : PlanD} (h : fLines p = true) {s : Nat} (hs : s < p.2.2.2.1.length) : (fEnters p (p.2.2.2.1.getD s zL).2).2 = true := by
  unfold fLines at h
  have := allTo_iff.1 h s hs
  unfold lineOk at this
  rw [Bool.and_eq_true] at this
  exact this.2

theorem v32 (p : PlanD) (e : Int) (i : Int) : bodyVC (ctxOf tab [(31, c31), (56, c56), (57, c57)]) Tryz.f32 c32 noAnn (p, e, i, ()) = (
lett (decide ((fLineOf p e).fst < (0 : Int))) fun (y3 : Bool) =>
lett (bif y3 then true else !fHas p (e, i)) fun (y4 : Bool) =>
lett (p.snd.snd.snd.fst.getD (fLineOf p e).fst.toNat ([], [])).snd fun (y5 : List Int) =>
lett ((fEnters p y5).fst.getD (fLineOf p e).snd.toNat (0 : Int) == i) fun (y6 : Bool) =>
True ∧
(y3 = false → True) ∧
(y4 = true → (0 : Int) = fLeadOf p e i ∧ True) ∧
(y4 = false →
InB (fLineOf p e).fst p.snd.snd.snd.fst.length ∧
(fJoined p = true ∧ y5.length ≤ (1000 : Nat)) ∧
InB (fLineOf p e).snd (fEnters p y5).fst.length ∧ (y6 = true → (1 : Int) = fLeadOf p e i ∧ True) ∧ (y6 = false → (2 : Int) = fLeadOf p e i ∧ True))) := by kernel_rfl

theorem b32 (p : PlanD) (e i : Int) (h0 : fCheck p = 0) (hl : shortLines p) : bodyVC (ctxOf tab [(31, c31), (56, c56), (57, c57)]) Tryz.f32 c32 noAnn (p, e, i, ()) := by
  rw [v32]
  obtain ⟨_, _, hJ, _, hL⟩ := check_zero h0
  refine lett.mk fun y3 e3 => lett.mk fun y4 e4 => lett.mk fun y5 e5 => lett.mk fun y6 e6 => ⟨trivial, fun _ => trivial, fun h => ?_, fun h => ?_⟩
  · have hF : fLeadOf p e i = 0 := by
      unfold fLeadOf
      rw [show (decide ((fLineOf p e).1 < 0) || !fHas p (e, i)) = true from ?_]
      · rfl
      · rw [← h, e4, e3]
        cases decide ((fLineOf p e).1 < 0) <;> rfl
    rw [hF]
    exact ⟨rfl, trivial⟩
  · have hor : (decide ((fLineOf p e).1 < 0) || !fHas p (e, i)) = false := by
      rw [← h, e4, e3]
      cases decide ((fLineOf p e).1 < 0) <;> rfl
    have hF : fLeadOf p e i = bif y6 then 1 else 2 := by
      unfold fLeadOf
      rw [hor, e6, e5]
      rfl
    rw [Bool.or_eq_false_iff] at hor
    rcases line_cases p e with ⟨hn, _⟩ | ⟨s, k, hs, hk, he, hn⟩
    · rw [hn] at hor; exact absurd hor.1 (by decide)
    · have e5 : y5 = (p.2.2.2.1.getD s zL).2 := by rw [e5, hn, Int.toNat_natCast]; rfl
      rw [hF, hn]
      refine ⟨⟨by omega, by show (s : Int) < _; omega⟩, ⟨hJ, by rw [e5]; exact hl _ (mem_getD zL hs)⟩, ⟨by omega, ?_⟩, fun h => ?_, fun h => ?_⟩
      · show (k : Int) < _
        rw [e5, enters_len (line_enters hL hs)]
        omega
      · rw [h]; exact ⟨rfl, trivial⟩
      · rw [h]; exact ⟨rfl, trivial⟩

theorem ok32 : DOk Tryz.prog 32 c32 :=
  DOk.of' (l := [(31, c31), (56, c56), (57, c57)]) (A := fun _ => noAnn) tabOk ⟨ok31, ok56, ok57, trivial⟩ Tryz.func32 (by kernel_rfl) (by kernel_rfl) fun x hw hp => b32 x.1 x.2.1 x.2.2.1 hp.1 hp.2

/-! ### The reference's Wants -/

theorem want_at {p : PlanD} {r : RoadD} {s i : Nat} (hi : i < r.2.2.2.1.length) (h0 : anyTo (wantAt p r (s : Int)) i = false) (h : wantAt p r (s : Int) i = true) :
    wantOf p r (s : Int) = [((s : Int), fLeadOf p (r.2.2.2.1.getD i zSt).1 (r.2.2.2.1.getD i zSt).2.1)] := by
  unfold wantOf
  rw [firstTo_at hi h0 h]
theorem want_none {p : PlanD} {r : RoadD} {s : Nat} (h0 : anyTo (wantAt p r (s : Int)) r.2.2.2.1.length = false) : wantOf p r (s : Int) = [] := by
  unfold wantOf
  rw [firstTo_none h0]
theorem wantOf_le (p : PlanD) (r : RoadD) (l : Int) : (wantOf p r l).length ≤ 1 := by
  unfold wantOf
  cases firstTo (wantAt p r l) r.2.2.2.1.length with
  | none => exact Nat.zero_le _
  | some i => exact Nat.le_refl _
theorem wantsRef_le (p : PlanD) (r : RoadD) : ∀ k, (wantsRef p r k).length ≤ k
  | 0 => Nat.le_refl _
  | k + 1 => by
    show (wantsRef p r k ++ wantOf p r (k : Int)).length ≤ _
    have := wantsRef_le p r k
    have := wantOf_le p r (k : Int)
    rw [List.length_append]
    omega

theorem v10 (p : PlanD) (r : RoadD) : bodyVC (ctxOf tab [(31, c31), (32, c32)]) Tryz.f10 c10 (a10 (p, r, ())) (p, r, ()) = (
(∃ (s02 : Nat),
s02 ≤ p.snd.snd.snd.fst.length ∧
(↑s02 : Int) = (0 : Int) ∧
wantsRef p r s02 = [] ∧
keepP p (keepP r (True))) ∧
∀ (s2 : Nat),
lett (decide ((↑s2 : Int) < (↑p.snd.snd.snd.fst.length : Int))) fun (y3 : Bool) =>
s2 ≤ p.snd.snd.snd.fst.length →
(y3 = true →
(∃ (s04 : Nat),
(s04 ≤ r.snd.snd.snd.fst.length ∧ noneOf (wantAt p r (↑s2 : Int)) s04) ∧
(↑s04 : Int) = (0 : Int) ∧
(↑s2 : Int) = (↑s2 : Int) ∧
keepP p (keepP r (wantsRef p r s2 = wantsRef p r s2 ∧ True))) ∧
∀ (s4 : Nat),
lett (decide ((↑s4 : Int) < (↑r.snd.snd.snd.fst.length : Int))) fun (y5 : Bool) =>
lett (r.snd.snd.snd.fst.getD (↑s4 : Int).toNat ((0 : Int), (0 : Int), (0 : Int))) fun (y6 : Int × Int × Int) =>
lett ((fLineOf p y6.fst).fst == (↑s2 : Int)) fun (y7 : Bool) =>
lett ((List.replicate (1 : Nat) ((0 : Int), (0 : Int))).set (0 : Nat) ((↑s2 : Int), fLeadOf p y6.fst y6.snd.fst)) fun (y8 : List (Int × Int)) =>
s4 ≤ r.snd.snd.snd.fst.length ∧ noneOf (wantAt p r (↑s2 : Int)) s4 →
(y5 = true →
InB (↑s4 : Int) r.snd.snd.snd.fst.length ∧
True ∧
(y7 = true →
InB (↑s4 : Int) r.snd.snd.snd.fst.length ∧
InB (↑s4 : Int) r.snd.snd.snd.fst.length ∧
(fCheck p = (0 : Int) ∧ shortLines p) ∧
roomFor ((wantsRef p r s2).length + y8.length) (16 : Nat) ∧
InR IntKind.i64 ((↑s2 : Int) + (1 : Int)) ∧
∃ (s'9 : Nat),
s'9 ≤ p.snd.snd.snd.fst.length ∧
p.snd.snd.snd.fst.length - s'9 < p.snd.snd.snd.fst.length - s2 ∧
(↑s'9 : Int) = (↑s2 : Int) + (1 : Int) ∧
wantsRef p r s'9 = wantsRef p r s2 ++ y8 ∧
keepP p (keepP r (True))) ∧
(y7 = false →
InR IntKind.i64 ((↑s4 : Int) + (1 : Int)) ∧
∃ (s'9 : Nat),
(s'9 ≤ r.snd.snd.snd.fst.length ∧ noneOf (wantAt p r (↑s2 : Int)) s'9) ∧
r.snd.snd.snd.fst.length - s'9 < r.snd.snd.snd.fst.length - s4 ∧
(↑s'9 : Int) = (↑s4 : Int) + (1 : Int) ∧
(↑s2 : Int) = (↑s2 : Int) ∧
keepP p (keepP r (wantsRef p r s2 = wantsRef p r s2 ∧ True)))) ∧
(y5 = false →
InR IntKind.i64 ((↑s2 : Int) + (1 : Int)) ∧
∃ (s'9 : Nat),
s'9 ≤ p.snd.snd.snd.fst.length ∧
p.snd.snd.snd.fst.length - s'9 < p.snd.snd.snd.fst.length - s2 ∧
(↑s'9 : Int) = (↑s2 : Int) + (1 : Int) ∧
wantsRef p r s'9 = wantsRef p r s2 ∧
keepP p (keepP r (True)))) ∧
(y3 = false → wantsRef p r s2 = fWantsR p r ∧ True)) := by kernel_rfl

theorem b10 (p : PlanD) (r : RoadD) (hc : fCheck p = 0) (hl : shortLines p) (hr : r.2.2.2.1.length ≤ 1000) : bodyVC (ctxOf tab [(31, c31), (32, c32)]) Tryz.f10 c10 (a10 (p, r, ())) (p, r, ()) := by
  rw [v10]
  have h4 := (sizes_factsQ (check_zero hc).1).2.2.1
  simp only [keepP_eq, true_and, and_true, eq_self]
  refine ⟨⟨0, by omega, by omega, rfl⟩, fun s => lett.mk fun y3 e3 => fun hs => ⟨fun h => ?_, fun h => ?_⟩⟩
  · have hs' := lt_of_y e3 h
    have hw := wantsRef_le p r s
    refine ⟨⟨0, ⟨by omega, rfl⟩, by omega⟩, fun i => lett.mk fun y5 e5 => lett.mk fun y6 e6 => lett.mk fun y7 e7 => lett.mk fun y8 e8 => fun hi => ⟨fun h5 => ?_, fun h5 => ?_⟩⟩
    · have hi' := lt_of_y e5 h5
      rw [Int.toNat_natCast] at e6
      have e6 : y6 = r.2.2.2.1.getD i zSt := e6
      have hwa : wantAt p r (s : Int) i = y7 := by rw [e7, e6]; rfl
      refine ⟨⟨by omega, by omega⟩, fun h7 => ⟨⟨by omega, by omega⟩, ⟨by omega, by omega⟩, ⟨hc, hl⟩, roomB (by rw [e8]; show _ + 1 ≤ _; omega) (by omega), inR64 (by omega) (by omega), s + 1, by omega, by omega, by omega, ?_⟩, fun h7 => ⟨inR64 (by omega) (by omega), i + 1, ⟨by omega, anyTo_succ hi.2 (by rw [hwa]; exact h7)⟩, by omega, by omega⟩⟩
      show wantsRef p r s ++ wantOf p r (s : Int) = _
      rw [want_at hi' hi.2 (by rw [hwa]; exact h7), e8, e6]
      rfl
    · have hi' := le_of_y e5 h5
      have : i = r.2.2.2.1.length := by omega
      subst this
      refine ⟨inR64 (by omega) (by omega), s + 1, by omega, by omega, by omega, ?_⟩
      show wantsRef p r s ++ wantOf p r (s : Int) = _
      rw [want_none hi.2, List.append_nil]
  · have hs' := le_of_y e3 h
    have : s = p.2.2.2.1.length := by omega
    subst this
    unfold fWantsR
    rfl

theorem ok10 : DOk Tryz.prog 10 c10 :=
  DOk.of' (l := [(31, c31), (32, c32)]) (A := a10) tabOk ⟨ok31, ok32, trivial⟩ Tryz.func10 (by kernel_rfl) (by kernel_rfl) fun x hw hp => b10 x.1 x.2.1 hp.1.1 hp.1.2 hp.2

end YtpnnfimacblhgaaGreat
end Go.Proofs
end

section
set_option maxRecDepth 100000
set_option linter.unusedVariables false
set_option linter.unusedSimpArgs false
set_option maxHeartbeats 2000000
namespace Go.Proofs
open Go Go.Vc
namespace YtpnnfimacblhgaaGreat

/-! ### Sorting -/

def keyT (l : List TurnD) (i : Nat) : Int := (l.getD i zT).1

theorem swap_perm : ∀ (j : Nat) (l : List TurnD), j + 1 < l.length → (swapDn l j).Perm l
  | _, [], h => by simp at h
  | 0, [x], h => by simp at h
  | 0, x :: y :: l, _ => by show (y :: x :: l).Perm _; exact .swap x y l
  | j + 1, x :: l, h => by
    have := swap_perm j l (by simp at h; omega)
    have e : swapDn (x :: l) (j + 1) = x :: swapDn l j := by unfold swapDn; simp
    rw [e]
    exact this.cons x
theorem ins_perm : ∀ (j : Nat) (l : List TurnD), j < l.length → (insDn j l).Perm l
  | 0, l, _ => .refl l
  | j + 1, l, h => by
    unfold insDn
    cases decide ((l.getD (j + 1) zT).1 - (l.getD j zT).1 < 0) with
    | true => rw [cond_true]; exact (ins_perm j _ (by rw [swap_len]; omega)).trans (swap_perm j l h)
    | false => exact .refl l
theorem up_perm (l : List TurnD) : ∀ (k : Nat), k ≤ l.length → (sortUp l k).Perm l
  | 0, _ => .refl l
  | k + 1, h => (ins_perm k _ (by rw [up_len]; omega)).trans (up_perm l k (by omega))
theorem sort_perm (l : List TurnD) : (fSort l).Perm l := by
  unfold fSort
  exact up_perm l _ (Nat.le_refl _)

theorem key_swap (l : List TurnD) (j : Nat) (h : j + 1 < l.length) (i : Nat) : keyT (swapDn l j) i = if i = j then keyT l (j + 1) else if i = j + 1 then keyT l j else keyT l i := by
  unfold keyT swapDn
  simp only [List.getD_eq_getElem?_getD, List.getElem?_set, List.length_set]
  by_cases h1 : i = j
  · subst h1
    simp [show i < l.length by omega]
  · by_cases h2 : i = j + 1
    · subst h2
      simp [h, h1]
    · rw [if_neg (fun e => h1 e.symm), if_neg (fun e => h2 e.symm), if_neg h1, if_neg h2]

/-- All but the place j are in order, and what stands there is below what follows. -/
structure InsInv (l : List TurnD) (j K : Nat) : Prop where
  rest : ∀ a b, a < b → b < K → a ≠ j → b ≠ j → keyT l a ≤ keyT l b
  lt : ∀ b, j < b → b < K → keyT l j < keyT l b

theorem ins_sorted : ∀ (j K : Nat) (l : List TurnD), j < K → K ≤ l.length → InsInv l j K → ∀ a b, a < b → b < K → keyT (insDn j l) a ≤ keyT (insDn j l) b
  | 0, K, l, _, _, hi, a, b, hab, hb => by
    show keyT l a ≤ keyT l b
    by_cases h : a = 0
    · subst h; exact Int.le_of_lt (hi.lt b (by omega) hb)
    · exact hi.rest a b hab hb h (by omega)
  | j + 1, K, l, hj, hK, hi, a, b, hab, hb => by
    unfold insDn
    cases h : decide ((l.getD (j + 1) zT).1 - (l.getD j zT).1 < 0) with
    | true =>
      have h : keyT l (j + 1) < keyT l j := by have := of_decide_eq_true h; unfold keyT; omega
      rw [cond_true]
      refine ins_sorted j K _ (by omega) (by rw [swap_len]; exact hK) ⟨fun a b hab hb h1 h2 => ?_, fun b h1 hb => ?_⟩ a b hab hb
      · rw [key_swap l j (by omega), key_swap l j (by omega), if_neg h1, if_neg h2]
        by_cases h3 : a = j + 1
        · rw [if_pos h3, if_neg (by omega)]
          exact hi.rest j b (by omega) hb (by omega) (by omega)
        · rw [if_neg h3]
          by_cases h4 : b = j + 1
          · rw [if_pos h4]
            exact hi.rest a j (by omega) (by omega) h3 (by omega)
          · rw [if_neg h4]
            exact hi.rest a b hab hb h3 h4
      · rw [key_swap l j (by omega), key_swap l j (by omega), if_pos rfl, if_neg (by omega)]
        by_cases h4 : b = j + 1
        · rw [if_pos h4]; exact h
        · rw [if_neg h4]
          exact hi.lt b (by omega) hb
    | false =>
      have h : keyT l j ≤ keyT l (j + 1) := by have := of_decide_eq_false h; unfold keyT; omega
      rw [cond_false]
      by_cases h3 : a = j + 1
      · subst h3; exact Int.le_of_lt (hi.lt b hab hb)
      · by_cases h4 : b = j + 1
        · subst h4
          by_cases h5 : a = j
          · subst h5; exact h
          · exact Int.le_trans (hi.rest a j (by omega) (by omega) h3 (by omega)) h
        · exact hi.rest a b hab hb h3 h4

theorem up_sorted (l : List TurnD) : ∀ (k : Nat), k ≤ l.length → ∀ a b, a < b → b < k → keyT (sortUp l k) a ≤ keyT (sortUp l k) b
  | 0, _, a, b, _, hb => by omega
  | k + 1, h, a, b, hab, hb => by
    show keyT (insDn k (sortUp l k)) a ≤ _
    refine ins_sorted k (k + 1) _ (by omega) (by rw [up_len]; exact h) ⟨fun a b hab hb h1 h2 => ?_, fun b h1 h2 => by omega⟩ a b hab hb
    exact up_sorted l k (by omega) a b hab (by omega)

def Rise (l : List TurnD) : Prop := l.Pairwise fun a b => a.1 < b.1

theorem sort_rise {l : List TurnD} (h : (l.map Prod.fst).Nodup) : Rise (fSort l) := by
  have hp := sort_perm l
  have hn : ((fSort l).map Prod.fst).Nodup := ((hp.map Prod.fst).nodup_iff).2 h
  unfold Rise
  rw [List.pairwise_iff_getElem]
  intro a b ha hb hab
  have hs : keyT (fSort l) a ≤ keyT (fSort l) b := by
    have hlen : (fSort l).length = l.length := hp.length_eq
    unfold fSort
    exact up_sorted l l.length (Nat.le_refl _) a b hab (by omega)
  have hne : (fSort l)[a].1 ≠ (fSort l)[b].1 := by
    have := (List.pairwise_iff_getElem.1 hn) a b (by rw [List.length_map]; exact ha) (by rw [List.length_map]; exact hb) hab
    simpa using this
  unfold keyT at hs
  rw [getD_at zT ha, getD_at zT hb] at hs
  omega

theorem rise_eq : ∀ {l m : List TurnD}, Rise l → Rise m → (∀ t, t ∈ l ↔ t ∈ m) → l = m
  | [], [], _, _, _ => rfl
  | [], y :: m, _, _, h => absurd ((h y).2 (List.mem_cons_self ..)) (List.not_mem_nil)
  | x :: l, [], _, _, h => absurd ((h x).1 (List.mem_cons_self ..)) (List.not_mem_nil)
  | x :: l, y :: m, h1, h2, h => by
    unfold Rise at h1 h2
    rw [List.pairwise_cons] at h1 h2
    have hxy : x = y := by
      rcases List.mem_cons.1 ((h x).1 (List.mem_cons_self ..)) with e | hx
      · exact e
      · rcases List.mem_cons.1 ((h y).2 (List.mem_cons_self ..)) with e | hy
        · exact e.symm
        · have := h2.1 x hx
          have := h1.1 y hy
          omega
    subst hxy
    congr 1
    refine rise_eq h1.2 h2.2 fun t => ⟨fun ht => ?_, fun ht => ?_⟩
    · rcases List.mem_cons.1 ((h t).1 (List.mem_cons_of_mem _ ht)) with e | hx
      · subst e; exact absurd (h1.1 t ht) (by omega)
      · exact hx
    · rcases List.mem_cons.1 ((h t).2 (List.mem_cons_of_mem _ ht)) with e | hx
      · subst e; exact absurd (h2.1 t ht) (by omega)
      · exact hx

/-! ### Lines of a net -/

theorem lines_nodup {p : PlanD} (h : fLines p = true) : ∀ (i : Nat), i ≤ p.2.2.2.1.length → ((linesUp p i).map Prod.fst).Nodup ∧ ((leadsUp p i).map Prod.fst).Nodup
  | 0, _ => ⟨List.nodup_nil, List.nodup_nil⟩
  | i + 1, hi => by
    obtain ⟨h1, h2⟩ := lines_nodup h i (by omega)
    have key : ∀ k, k ≤ (p.2.2.2.1.getD i zL).2.length → ((linesUp p i ++ lineRow (i : Int) (p.2.2.2.1.getD i zL).2 k).map Prod.fst).Nodup ∧ ((leadsUp p i ++ leadRow p (p.2.2.2.1.getD i zL).2 k).map Prod.fst).Nodup := by
      intro k
      induction k with
      | zero => intro _; exact ⟨by rw [show lineRow (i : Int) (p.2.2.2.1.getD i zL).2 0 = [] from rfl, List.append_nil]; exact h1, by rw [show leadRow p (p.2.2.2.1.getD i zL).2 0 = [] from rfl, List.append_nil]; exact h2⟩
      | succ k ih =>
        intro hk
        obtain ⟨a1, a2⟩ := ih (by omega)
        rw [lines_put h i k (by omega) (by omega), leads_put h i k (by omega) (by omega)]
        exact ⟨keys_put intKey _ _ _ a1, keys_put intKey _ _ _ a2⟩
    exact key _ (Nat.le_refl _)

theorem mem_row {i : Int} {l : List Int} {x : Int × Int × Int} : ∀ {n : Nat}, x ∈ lineRow i l n ↔ ∃ k, k < n ∧ x = (l.getD k 0, i, (k : Int))
  | 0 => ⟨fun h => absurd h List.not_mem_nil, fun ⟨k, h, _⟩ => absurd h (by omega)⟩
  | n + 1 => by
    show x ∈ lineRow i l n ++ [(l.getD n 0, i, (n : Int))] ↔ _
    rw [List.mem_append, mem_row (n := n), List.mem_singleton]
    constructor
    · rintro (⟨k, hk, e⟩ | e)
      · exact ⟨k, by omega, e⟩
      · exact ⟨n, by omega, e⟩
    · rintro ⟨k, hk, e⟩
      by_cases h : k = n
      · subst h; exact .inr e
      · exact .inl ⟨k, by omega, e⟩
theorem mem_lines {p : PlanD} {x : Int × Int × Int} : ∀ {n : Nat}, x ∈ linesUp p n ↔ ∃ s k : Nat, s < n ∧ k < (p.2.2.2.1.getD s zL).2.length ∧ x = ((p.2.2.2.1.getD s zL).2.getD k 0, (s : Int), (k : Int))
  | 0 => ⟨fun h => absurd h List.not_mem_nil, fun ⟨s, k, h, _⟩ => absurd h (by omega)⟩
  | n + 1 => by
    show x ∈ linesUp p n ++ lineRow (n : Int) (p.2.2.2.1.getD n zL).2 (p.2.2.2.1.getD n zL).2.length ↔ _
    rw [List.mem_append, mem_lines (n := n), mem_row]
    constructor
    · rintro (⟨s, k, hs, hk, e⟩ | ⟨k, hk, e⟩)
      · exact ⟨s, k, by omega, hk, e⟩
      · exact ⟨n, k, by omega, hk, e⟩
    · rintro ⟨s, k, hs, hk, e⟩
      by_cases h : s = n
      · subst h; exact .inr ⟨k, hk, e⟩
      · exact .inl ⟨s, k, by omega, hk, e⟩
theorem mem_lrow {p : PlanD} {l : List Int} {x : Int × Int} : ∀ {n : Nat}, x ∈ leadRow p l n ↔ ∃ k, k < n ∧ x = (l.getD k 0, inUp p l k)
  | 0 => ⟨fun h => absurd h List.not_mem_nil, fun ⟨k, h, _⟩ => absurd h (by omega)⟩
  | n + 1 => by
    show x ∈ leadRow p l n ++ [(l.getD n 0, inUp p l n)] ↔ _
    rw [List.mem_append, mem_lrow (n := n), List.mem_singleton]
    constructor
    · rintro (⟨k, hk, e⟩ | e)
      · exact ⟨k, by omega, e⟩
      · exact ⟨n, by omega, e⟩
    · rintro ⟨k, hk, e⟩
      by_cases h : k = n
      · subst h; exact .inr e
      · exact .inl ⟨k, by omega, e⟩
theorem mem_leads {p : PlanD} {x : Int × Int} : ∀ {n : Nat}, x ∈ leadsUp p n ↔ ∃ s k : Nat, s < n ∧ k < (p.2.2.2.1.getD s zL).2.length ∧ x = ((p.2.2.2.1.getD s zL).2.getD k 0, inUp p (p.2.2.2.1.getD s zL).2 k)
  | 0 => ⟨fun h => absurd h List.not_mem_nil, fun ⟨s, k, h, _⟩ => absurd h (by omega)⟩
  | n + 1 => by
    show x ∈ leadsUp p n ++ leadRow p (p.2.2.2.1.getD n zL).2 (p.2.2.2.1.getD n zL).2.length ↔ _
    rw [List.mem_append, mem_leads (n := n), mem_lrow]
    constructor
    · rintro (⟨s, k, hs, hk, e⟩ | ⟨k, hk, e⟩)
      · exact ⟨s, k, by omega, hk, e⟩
      · exact ⟨n, k, by omega, hk, e⟩
    · rintro ⟨s, k, hs, hk, e⟩
      by_cases h : s = n
      · subst h; exact .inr ⟨k, hk, e⟩
      · exact .inl ⟨s, k, by omega, hk, e⟩

theorem not_inLine {p : PlanD} {e : Int} (h : anyTo (inLine p e) p.2.2.2.1.length = false) {s k : Nat} (hs : s < p.2.2.2.1.length) (hk : k < (p.2.2.2.1.getD s zL).2.length) (he : (p.2.2.2.1.getD s zL).2.getD k 0 = e) : False := by
  have := anyTo_none.1 h s hs
  unfold inLine posOf firstTo at this
  have h2 := List.find?_eq_none.1 (Option.not_isSome_iff_eq_none.1 (by rw [this]; simp)) k (List.mem_range.2 hk)
  rw [he] at h2
  simp at h2

theorem net_eq (p : PlanD) : fNet p = (p, fNexts p, fReadsM p, fLineM p, fLeadM p) := by unfold fNet; rfl

theorem line_eq {p : PlanD} (h : fLines p = true) (e : Int) : gLine (fNet p) e = fLineOf p e := by
  have hn := (lines_nodup h _ (Nat.le_refl _)).1
  have hg : gLine (fNet p) e = lineOf (mget I (linesUp p p.2.2.2.1.length) e) := by unfold gLine; rw [net_eq]; unfold fLineM; rfl
  rw [hg]
  rcases line_cases p e with ⟨h1, h2⟩ | ⟨s, k, hs, hk, he, h1⟩
  · rw [h1]
    cases hm : mget I (linesUp p p.2.2.2.1.length) e with
    | none => rfl
    | some x =>
      obtain ⟨s, k, hs, hk, hx⟩ := mem_lines.1 (mem_of_mget intKey hm)
      exact (not_inLine h2 hs hk (by simpa using (congrArg Prod.fst hx).symm)).elim
  · rw [h1, mget_of_mem intKey hn (mem_lines.2 ⟨s, k, hs, hk, by rw [he]⟩)]
    rfl

theorem net_lineIn {p : PlanD} (h : p.2.2.2.1.length ≤ 10) : lineIn (fNet p) := by
  intro x hx
  have hx : x ∈ fLineM p := by rw [net_eq] at hx; exact hx
  unfold fLineM at hx
  obtain ⟨s, k, hs, hk, e⟩ := mem_lines.1 hx
  rw [e]
  exact ⟨by show (0 : Int) ≤ (s : Int); omega, by show (s : Int) ≤ 9; omega⟩

/-! ### Leads -/

theorem ent_spec {p : PlanD} {l : List Int} {o : Int} (h0 : 1 - o = inUp p l 0) : ∀ k, (fEnt p l o k).2.2 = true → (fEnt p l o k).2.1 = 1 - inUp p l k ∧ ∀ j, j ≤ k → (fEnt p l o k).1.getD j 0 = inUp p l j
  | 0, _ => by
    refine ⟨?_, fun j hj => ?_⟩
    · show o = _
      omega
    · have e : j = 0 := by omega
      rw [e]
      exact h0
  | k + 1, h => by
    have hk : (fEnt p l o k).2.2 = true := by
      cases hk : (fEnt p l o k).2.2 with
      | true => rfl
      | false => rw [ent_false hk (k + 1) (by omega)] at h; cases h
    obtain ⟨i1, i2⟩ := ent_spec h0 k hk
    have hlen := ent_full k hk
    cases hb : ((fEnt p l o k).2.2 && ((entGo p l k (fEnt p l o k).2.1).2 && (entGo p l k (fEnt p l o k).2.1).1.1 == l.getD (k + 1) 0)) with
    | false => unfold fEnt at h; rw [hb] at h; cases h
    | true =>
      have he : fEnt p l o (k + 1) = ((fEnt p l o k).1 ++ [(entGo p l k (fEnt p l o k).2.1).1.2], 1 - (entGo p l k (fEnt p l o k).2.1).1.2, true) := by
        conv => lhs; unfold fEnt
        rw [hb]
        rfl
      simp only [Bool.and_eq_true] at hb
      have hin : (entGo p l k (fEnt p l o k).2.1).1.2 = inUp p l (k + 1) := by
        show _ = ((mget PortT (fNexts p) (l.getD k 0, 1 - inUp p l k)).getD (0, 0)).2
        rw [next_get, ← i1]
        have := hb.2.1
        unfold entGo at this ⊢
        rw [this]
        rfl
      rw [he, hin]
      refine ⟨rfl, fun j hj => ?_⟩
      show (_ ++ [_]).getD j 0 = _
      by_cases hjk : j = k + 1
      · subst hjk
        rw [List.getD_eq_getElem?_getD, List.getElem?_append_right (by omega), hlen]
        simp
      · have := i2 j (by omega)
        rw [List.getD_eq_getElem?_getD, List.getElem?_append_left (by omega), ← List.getD_eq_getElem?_getD]
        exact this

theorem enters_spec {p : PlanD} {l : List Int} (h : (fEnters p l).2 = true) {k : Nat} (hk : k < l.length) : (fEnters p l).1.getD k 0 = inUp p l k ∧ fKind p (l.getD k 0) = 1 := by
  have hi0 : inUp p l 0 = in0 p l := rfl
  unfold fEnters at h ⊢
  cases h1 : decide (l.length = 0) || !l.all (fun e => fKind p e == 1) with
  | true => rw [h1] at h; cases h
  | false =>
    rw [h1, cond_false] at h; rw [cond_false]
    have hkind : fKind p (l.getD k 0) = 1 := by
      rw [Bool.or_eq_false_iff] at h1
      have := h1.2
      have : l.all (fun e => fKind p e == 1) = true := by simpa using this
      exact eq_of_beq (List.all_eq_true.1 this _ (mem_getD 0 hk))
    refine ⟨?_, hkind⟩
    cases h2 : decide (l.length = 1) with
    | true =>
      rw [cond_true]
      have := of_decide_eq_true h2
      have hk0 : k = 0 := by omega
      subst hk0
      rw [hi0]
      unfold in0
      rw [this]
      rfl
    | false =>
      rw [h2, cond_false] at h; rw [cond_false]
      have hl1 := of_decide_eq_false h2
      cases h3 : decide (fOut0 p l < 0) with
      | true => rw [h3] at h; cases h
      | false =>
        rw [h3, cond_false] at h; rw [cond_false]
        have h3 := of_decide_eq_false h3
        have hstart : 1 - fOut0 p l = inUp p l 0 := by
          rw [hi0]
          unfold in0
          rw [decide_eq_true (by omega : (l.length : Int) > 1), cond_true, outRow_eq]
          unfold fOut0 at h3 ⊢
          cases ho : outTo p l 0 with
          | true => rfl
          | false =>
            rw [ho] at h3
            cases ho1 : outTo p l 1 with
            | true => rfl
            | false => rw [ho1] at h3; exact absurd (by decide) h3
        cases h4 : (fEnt p l (fOut0 p l) (l.length - 1)).2.2 with
        | false => rw [h4] at h; cases h
        | true =>
          rw [cond_true]
          exact (ent_spec hstart _ h4).2 k (by omega)

theorem has_track {p : PlanD} {e i : Int} (h : fKind p e = 1) : fHas p (e, i) = (decide (0 ≤ i) && decide (i ≤ 1)) := by
  have hr : (decide (e < 0) || decide ((p.1.length : Int) ≤ e)) = false := by
    unfold fKind at h
    cases hb : (decide (e < 0) || decide ((p.1.length : Int) ≤ e)) with
    | false => rfl
    | true => rw [hb] at h; cases h
  rw [Bool.or_eq_false_iff] at hr
  have h1 := of_decide_eq_false hr.1
  have h2 := of_decide_eq_false hr.2
  unfold fHas
  show (decide (0 ≤ e) && (decide (e < (p.1.length : Int)) && (decide (0 ≤ i) && decide (i < fEnds (fKind p e))))) = _
  rw [h, show fEnds 1 = 2 by unfold fEnds; rfl, decide_eq_true (by omega : 0 ≤ e), decide_eq_true (by omega : e < (p.1.length : Int))]
  simp only [Bool.true_and]
  congr 1
  exact decide_eq_decide.2 (by omega)

theorem lead_eq {p : PlanD} (h : fLines p = true) (e i : Int) : gLead (fNet p) e i = fLeadOf p e i := by
  have hn := (lines_nodup h _ (Nat.le_refl _)).2
  have hg : gLead (fNet p) e i = bif !(mget I (leadsUp p p.2.2.2.1.length) e).isSome || (decide (i < 0) || decide (i > 1)) then 0 else bif (mget I (leadsUp p p.2.2.2.1.length) e).getD 0 == i then 1 else 2 := by
    unfold gLead; rw [net_eq]; unfold fLeadM; rfl
  rw [hg]
  rcases line_cases p e with ⟨h1, h2⟩ | ⟨s, k, hs, hk, he, h1⟩
  · have hf : fLeadOf p e i = 0 := by unfold fLeadOf; rw [h1]; rfl
    rw [hf]
    cases hm : mget I (leadsUp p p.2.2.2.1.length) e with
    | none => rfl
    | some x =>
      obtain ⟨s, k, hs, hk, hx⟩ := mem_leads.1 (mem_of_mget intKey hm)
      exact (not_inLine h2 hs hk (by simpa using (congrArg Prod.fst hx).symm)).elim
  · rw [mget_of_mem intKey hn (mem_leads.2 ⟨s, k, hs, hk, by rw [he]⟩)]
    obtain ⟨g1, g2⟩ := enters_spec (line_enters h hs) hk
    rw [he] at g2
    have hh := has_track (i := i) g2
    have hf : fLeadOf p e i = bif decide ((s : Int) < 0) || !fHas p (e, i) then 0 else bif inUp p (p.2.2.2.1.getD s zL).2 k == i then 1 else 2 := by
      unfold fLeadOf
      rw [h1]
      show (bif decide ((s : Int) < 0) || !fHas p (e, i) then 0 else bif (fEnters p (lineAt p (s : Int))).1.getD (k : Int).toNat 0 == i then 1 else 2) = _
      rw [Int.toNat_natCast, show lineAt p (s : Int) = (p.2.2.2.1.getD s zL).2 by unfold lineAt; rw [Int.toNat_natCast], g1]
    rw [hf, hh]
    show (bif !(some _).isSome || (decide (i < 0) || decide (i > 1)) then 0 else bif (some _).getD 0 == i then 1 else 2) = _
    rw [decide_eq_false (by omega : ¬ (s : Int) < 0)]
    have : (decide (i < 0) || decide (i > 1)) = !(decide (0 ≤ i) && decide (i ≤ 1)) := by
      by_cases a : i < 0
      · rw [decide_eq_true a, decide_eq_false (by omega : ¬ 0 ≤ i)]; rfl
      · rw [decide_eq_false a, decide_eq_true (by omega : 0 ≤ i)]
        by_cases b : i > 1
        · rw [decide_eq_true b, decide_eq_false (by omega : ¬ i ≤ 1)]; rfl
        · rw [decide_eq_false b, decide_eq_true (by omega : i ≤ 1)]; rfl
    rw [this]
    rfl

/-! ### The same turns -/

def turnAt (p : PlanD) (r : RoadD) (l : Int) (i : Nat) : TurnD := (l, fLeadOf p (r.2.2.2.1.getD i zSt).1 (r.2.2.2.1.getD i zSt).2.1)

theorem firstTo_succ {q : Nat → Bool} {k : Nat} : firstTo q (k + 1) = match firstTo q k with
    | some i => some i
    | none => if q k = true then some k else none := by
  unfold firstTo
  rw [List.range_succ, List.find?_append]
  cases (List.range k).find? q with
  | some i => rfl
  | none =>
    simp only [List.find?_cons, List.find?_nil, Option.none_or]
    cases q k <;> rfl

theorem mem_wants {p : PlanD} (h : fLines p = true) (r : RoadD) : ∀ (k : Nat) (t : TurnD), t ∈ wantsUp (fNet p) r k ↔ 0 ≤ t.1 ∧ ∃ i, firstTo (wantAt p r t.1) k = some i ∧ t = turnAt p r t.1 i
  | 0, t => ⟨fun h => absurd h List.not_mem_nil, fun ⟨_, i, hi, _⟩ => by have := (firstTo_some hi).1; omega⟩
  | k + 1, t => by
    have ih := mem_wants h r k
    show t ∈ wantStep (fNet p) (wantsUp (fNet p) r k) (r.2.2.2.1.getD k zSt) ↔ _
    unfold wantStep
    rw [line_eq h, lead_eq h, firstTo_succ]
    have hwa : wantAt p r t.1 k = ((fLineOf p (r.2.2.2.1.getD k zSt).1).1 == t.1) := rfl
    cases h1 : decide ((fLineOf p (r.2.2.2.1.getD k zSt).1).1 < 0) with
    | true =>
      have h1 := of_decide_eq_true h1
      rw [Bool.true_or, cond_true, ih t]
      refine and_congr_right fun ht => ?_
      cases hf : firstTo (wantAt p r t.1) k with
      | some i => exact Iff.rfl
      | none =>
        have : wantAt p r t.1 k = false := by rw [hwa]; exact beq_false_of_ne (by omega)
        simp only [this]
        exact Iff.rfl
    | false =>
      have h1 := of_decide_eq_false h1
      rw [Bool.false_or]
      cases h2 : (wantsUp (fNet p) r k).any (fun t => t.1 == (fLineOf p (r.2.2.2.1.getD k zSt).1).1) with
      | true =>
        rw [cond_true, ih t]
        refine and_congr_right fun ht => ?_
        cases hf : firstTo (wantAt p r t.1) k with
        | some i => exact Iff.rfl
        | none =>
          have : wantAt p r t.1 k = false := by
            rw [hwa]
            refine beq_false_of_ne fun e => ?_
            obtain ⟨u, hu, hb⟩ := List.any_eq_true.1 h2
            have hb := eq_of_beq hb
            obtain ⟨_, i, hi, _⟩ := (ih u).1 hu
            rw [hb, e, hf] at hi
            cases hi
          simp only [this]
          exact Iff.rfl
      | false =>
        rw [cond_false, List.mem_append, ih t, List.mem_singleton]
        constructor
        · rintro (⟨ht, i, hi, e⟩ | e)
          · exact ⟨ht, i, by rw [hi], e⟩
          · have et : t.1 = (fLineOf p (r.2.2.2.1.getD k zSt).1).1 := by rw [e]
            refine ⟨by omega, k, ?_, ?_⟩
            · cases hf : firstTo (wantAt p r t.1) k with
              | some i =>
                have := List.any_eq_false.1 h2 (turnAt p r t.1 i) ((ih _).2 ⟨by show 0 ≤ t.1; omega, i, hf, rfl⟩)
                have this : ¬ (t.1 == (fLineOf p (r.2.2.2.1.getD k zSt).1).1) = true := this
                rw [et] at this
                simp at this
              | none =>
                rw [hwa, et]
                simp
            · rw [e]; rfl
        · rintro ⟨ht, i, hi, e⟩
          cases hf : firstTo (wantAt p r t.1) k with
          | some j =>
            rw [hf] at hi
            exact .inl ⟨ht, j, rfl, by have : j = i := by simpa using hi
                                       rw [this]; exact e⟩
          | none =>
            rw [hf] at hi
            cases hq : wantAt p r t.1 k with
            | false => rw [hq] at hi; simp at hi
            | true =>
              rw [hq] at hi
              have hik : i = k := by simpa using hi.symm
              subst hik
              right
              rw [hwa] at hq
              rw [eq_of_beq hq]
              exact e

theorem mem_ref {p : PlanD} (r : RoadD) : ∀ (k : Nat) (t : TurnD), t ∈ wantsRef p r k ↔ (0 ≤ t.1 ∧ t.1 < (k : Int)) ∧ ∃ i, firstTo (wantAt p r t.1) r.2.2.2.1.length = some i ∧ t = turnAt p r t.1 i
  | 0, t => ⟨fun h => absurd h List.not_mem_nil, fun ⟨h, _⟩ => by omega⟩
  | k + 1, t => by
    show t ∈ wantsRef p r k ++ wantOf p r (k : Int) ↔ _
    rw [List.mem_append, mem_ref r k]
    have hw : t ∈ wantOf p r (k : Int) ↔ t.1 = (k : Int) ∧ ∃ i, firstTo (wantAt p r t.1) r.2.2.2.1.length = some i ∧ t = turnAt p r t.1 i := by
      unfold wantOf
      constructor
      · intro ht
        cases hf : firstTo (wantAt p r (k : Int)) r.2.2.2.1.length with
        | none => rw [hf] at ht; exact absurd ht List.not_mem_nil
        | some i =>
          rw [hf] at ht
          have ht := List.mem_singleton.1 ht
          have e1 : t.1 = (k : Int) := congrArg Prod.fst ht
          exact ⟨e1, i, by rw [e1, hf], by rw [e1]; exact ht⟩
      · rintro ⟨e1, i, hi, e⟩
        rw [e1] at hi
        rw [hi]
        refine List.mem_singleton.2 ?_
        rw [e1] at e
        exact e
    rw [hw]
    constructor
    · rintro (⟨h, i⟩ | ⟨h, i⟩)
      · exact ⟨by omega, i⟩
      · exact ⟨by omega, i⟩
    · rintro ⟨h, i⟩
      by_cases e : t.1 = (k : Int)
      · exact .inr ⟨e, i⟩
      · exact .inl ⟨by omega, i⟩

theorem ref_rise {p : PlanD} (r : RoadD) : ∀ (k : Nat), Rise (wantsRef p r k)
  | 0 => List.Pairwise.nil
  | k + 1 => by
    show List.Pairwise _ (wantsRef p r k ++ wantOf p r (k : Int))
    rw [List.pairwise_append]
    refine ⟨ref_rise r k, ?_, fun a ha b hb => ?_⟩
    · unfold wantOf
      cases firstTo (wantAt p r (k : Int)) r.2.2.2.1.length with
      | none => exact List.Pairwise.nil
      | some i => exact List.pairwise_singleton _ _
    · have h1 := ((mem_ref r k a).1 ha).1
      have h2 : b.1 = (k : Int) := by
        unfold wantOf at hb
        cases hf : firstTo (wantAt p r (k : Int)) r.2.2.2.1.length with
        | none => rw [hf] at hb; exact absurd hb List.not_mem_nil
        | some i => rw [hf] at hb; rw [List.mem_singleton.1 hb]
      omega

theorem wants_eq {p : PlanD} (h : fCheck p = 0) (r : RoadD) : fWants (fNet p) r = fWantsR p r := by
  obtain ⟨hS, _, hJ, _, hL⟩ := check_zero h
  have h4 := (sizes_factsQ hS).2.2.1
  have hin : lineIn (fNet p) := net_lineIn (by omega)
  have hok := wants_up hin r r.2.2.2.1.length
  unfold fWants fWantsR
  refine rise_eq (sort_rise hok.nodup) (ref_rise r _) fun t => ?_
  rw [(sort_perm _).mem_iff, mem_wants hL, mem_ref]
  constructor
  · rintro ⟨h0, i, hi, e⟩
    refine ⟨⟨h0, ?_⟩, i, hi, e⟩
    have := eq_of_beq (firstTo_some hi).2
    rcases line_cases p (r.2.2.2.1.getD i zSt).1 with ⟨h1, _⟩ | ⟨s, k, hs, hk, he, h1⟩
    · rw [h1] at this; have : (-1 : Int) = t.1 := this; omega
    · rw [h1] at this; have : (s : Int) = t.1 := this; omega
  · rintro ⟨⟨h0, _⟩, i, hi, e⟩
    exact ⟨h0, i, hi, e⟩

end YtpnnfimacblhgaaGreat
end Go.Proofs
end

section
set_option maxRecDepth 100000
set_option linter.unusedVariables false
namespace Go.Vc
open Go

/-- A pointer that may be nil, where it is not. -/
theorem DOk.ptr {P : Program} {f : Nat} {t : Ty} {ts : List Ty} {out : Out} {pre : Tup (.ref t :: ts) → Prop} {fn : Tup (.ref t :: ts) → Tup out.tys} {pre' : Tup (.ptr t :: ts) → Prop} (h : DOk P f ⟨.ref t :: ts, out, pre, fn⟩)
    (hp : ∀ x : Tup (.ptr t :: ts), pre' x → ∃ y, x.1 = some y ∧ pre (y, x.2)) : DOk P f ⟨.ptr t :: ts, out, pre', fun x => fn (x.1.getD t.dflt, x.2)⟩ where
  fn := h.fn
  calls F w x vs hF hx hpre := by
    obtain ⟨y, hy, hq⟩ := hp x hpre
    obtain ⟨x1, x2⟩ := x
    have hy : x1 = some y := hy
    subst hy
    obtain ⟨v, us, rfl, h1, h2⟩ := hx
    refine h.calls F w (y, x2) (v :: us) hF ⟨v, us, rfl, ?_, h2⟩ hq
    have h1 : Rep F (.ptr t) (some y) [v] := h1
    rcases h1 with ⟨h, _⟩ | ⟨y', hy', b, off, k⟩
    · cases h
    · cases hy'
      exact ⟨b, off, k⟩

end Go.Vc
namespace Go.Proofs
open Go Go.Vc

namespace YtpnnfimacblhgaaGreat
abbrev IntsM : Ty := .map I (.list I)
abbrev NeedsM : Ty := .map I (.list NeedT)
abbrev BookT : Ty := .pair I (.pair IntsM (.pair IntsM (.pair NeedsM NeedsM)))
abbrev BookD := Int × List (Int × List Int) × List (Int × List Int) × List (Int × List NeedD) × List (Int × List NeedD)
abbrev BookO : OTy := .cells true (.pair (.dat I) (.pair (.map I (.list I)) (.pair (.map I (.list I)) (.pair (.map I (.list NeedT)) (.map I (.list NeedT))))))
abbrev TokenT : Ty := .pair (.ptr NetT) (.map TurnT .bool)
abbrev TokenD := Option NetD × List (TurnD × Bool)
abbrev TokenO : OTy := .cells true (.pair (.dat (.ptr NetT)) (.map TurnT .bool))

def netOf (o : Option NetD) : NetD := o.getD (Ty.dflt NetT)
def netThere (o : Option NetD) : Prop := ∃ n, o = some n
def netLined (o : Option NetD) : Prop := ∃ n, o = some n ∧ lineIn n

def c9p : DCon where
  args := [.ptr NetT, RoadT]
  out := .data [.list TurnT]
  pre := fun (x : Option NetD × RoadD × Unit) => netLined x.1 ∧ x.2.1.2.2.2.1.length ≤ 1000
  fn := fun (x : Option NetD × RoadD × Unit) => (fWants (netOf x.1) x.2.1, ())
def c11p : DCon where
  args := [.ptr NetT, I]
  out := .data [I, I]
  pre := fun (x : Option NetD × Int × Unit) => netThere x.1
  fn := fun (x : Option NetD × Int × Unit) => ((gLine (netOf x.1) x.2.1).1, (gLine (netOf x.1) x.2.1).2, ())
def c12p : DCon where
  args := [.ptr NetT, I, I]
  out := .data [I]
  pre := fun (x : Option NetD × Int × Int × Unit) => netThere x.1
  fn := fun (x : Option NetD × Int × Int × Unit) => (gLead (netOf x.1) x.2.1 x.2.2.1, ())
def c48p : DCon where
  args := [.ptr NetT, I]
  out := .data [PortT, .bool]
  pre := fun (x : Option NetD × Int × Unit) => netThere x.1
  fn := fun (x : Option NetD × Int × Unit) => ((fAt (netOf x.1).1 x.2.1).1, (fAt (netOf x.1).1 x.2.1).2, ())
def c79p : DCon where
  args := [.ptr NetT]
  out := .data [I]
  pre := fun (x : Option NetD × Unit) => netThere x.1
  fn := fun (x : Option NetD × Unit) => (((netOf x.1).1.1.length : Int), ())

theorem ok9p : DOk Tryz.prog 9 c9p := ok9.ptr fun x h => by
  obtain ⟨⟨n, h1, h2⟩, h3⟩ := h
  exact ⟨n, h1, h2, h3⟩
theorem ok11p : DOk Tryz.prog 11 c11p := ok11.ptr fun x h => by
  obtain ⟨n, h1⟩ := h
  exact ⟨n, h1, trivial⟩
theorem ok12p : DOk Tryz.prog 12 c12p := ok12.ptr fun x h => by
  obtain ⟨n, h1⟩ := h
  exact ⟨n, h1, trivial⟩
theorem ok48p : DOk Tryz.prog 48 c48p := ok48.ptr fun x h => by
  obtain ⟨n, h1⟩ := h
  exact ⟨n, h1, trivial⟩
theorem ok79p : DOk Tryz.prog 79 c79p := ok79.ptr fun x h => by
  obtain ⟨n, h1⟩ := h
  exact ⟨n, h1, trivial⟩

/-! ### Books of locks -/

def c68 : DCon where
  args := [.list I, I]
  out := .data [I]
  pre := fun (x : List Int × Int × Unit) => True
  fn := fun (x : List Int × Int × Unit) => (fFind (fun y => x.2.1 == y) x.1, ())
def a68 (x : List Int × Int × Unit) : Ann := loopAnn [(2, fun _ => findLoop (fun y => x.2.1 == y) x.1 8 [0, 1, 7])]
def c44 : DCon where
  args := [.list I, I]
  out := .data [.bool]
  pre := fun (x : List Int × Int × Unit) => True
  fn := fun (x : List Int × Int × Unit) => (fMem x.1 x.2.1, ())
def c21 : OCon where
  args := [.dat I]
  outs := [BookO]
  pre := fun (x : Int × Unit) => True
  fn := fun (x : Int × Unit) => ((max 0 (min x.1 40), [], [], [], []), ())

/-- An element has one owner at most. -/
def oneOwner (b : BookD) (e : Int) : Prop := ∀ x ∈ b.2.1, ∀ y ∈ b.2.1, fMem x.2 e = true → fMem y.2 e = true → x.1 = y.1
def ownerOf (o : Option (Int × List Int)) : Int := match o with
  | some x => x.1
  | none => -1
@[irreducible] def fOwner (b : BookD) (e : Int) : Int := ownerOf (b.2.1.find? fun x => fMem x.2 e)
def c80 : DCon where
  args := [.ref BookT, I]
  out := .data [I]
  pre := fun (x : BookD × Int × Unit) => oneOwner x.1 x.2.1
  fn := fun (x : BookD × Int × Unit) => (fOwner x.1 x.2.1, ())
/-- What is left of a range over owners, none of those before having the element. -/
def ownLeft (b : BookD) (e : Int) (todo : List (Int × List Int)) : Prop := ∃ done, b.2.1.Perm (done ++ todo) ∧ done.any (fun x => fMem x.2 e) = false
def a80 (x : BookD × Int × Unit) : Ann := loopAnn [(2, fun _ => {
  σ := List (Int × List Int)
  ok := fun todo => ownLeft x.1 x.2.1 todo
  mu := fun todo => todo.length
  sl := fun todo => [(11, .one (.ptr 11 0))]
  bl := fun todo => [(11, .iter I (.list I) todo none)]
  keep := [0, 1]
  keepB := [] })]

/-! ### Tokens -/

def c20 : OCon where
  args := [.dat (.ptr NetT)]
  outs := [TokenO]
  pre := fun (x : Option NetD × Unit) => True
  fn := fun (x : Option NetD × Unit) => ((x.1, []), ())

def hasTurn (m : List (TurnD × Bool)) (t : TurnD) : Bool := (mget TurnT m t).getD false
@[irreducible] def fDir (m : List (TurnD × Bool)) (l : Int) : Int := bif hasTurn m (l, 1) then 1 else bif hasTurn m (l, 2) then 2 else 0
def c24 : DCon where
  args := [.ref TokenT, I]
  out := .data [I]
  pre := fun (x : TokenD × Int × Unit) => True
  fn := fun (x : TokenD × Int × Unit) => (fDir x.1.2 x.2.1, ())
def noTurn (m : List (TurnD × Bool)) (l : Int) (k : Nat) : Prop := ∀ j, 1 ≤ j → j < k + 1 → hasTurn m (l, (j : Int)) = false
def a24 (x : TokenD × Int × Unit) : Ann := loopAnn [(2, fun _ => {
  σ := Nat
  ok := fun k => k ≤ 2 ∧ noTurn x.1.2 x.2.1 k
  mu := fun k => 2 - k
  sl := fun k => [(5, .one (.dat I ((k : Int) + 1)))]
  bl := fun _ => []
  keep := [0, 1]
  keepB := [] })]

def occAt (occ : List Bool) (e : Int) : Bool := decide (0 ≤ e) && (decide (e < (occ.length : Int)) && occ.getD e.toNat false)
/-- An element of a line that is not at rest. -/
def loud (n : NetD) (l : Int) (occ : List Bool) (b : BookD) (berth : Int) (k : Nat) : Bool :=
  (gLine n (k : Int)).1 == l && ((occAt occ (k : Int) && !((k : Int) == berth)) || decide (0 ≤ fOwner b (k : Int)))
@[irreducible] def fQuiet (n : NetD) (l : Int) (occ : List Bool) (b : BookD) (berth : Int) : Bool := !anyTo (loud n l occ b berth) n.1.1.length
def oneOwners (b : BookD) : Prop := ∀ e, oneOwner b e
def c49 : DCon where
  args := [.ref TokenT, I, .list .bool, .ref BookT, I]
  out := .data [.bool]
  pre := fun (x : TokenD × Int × List Bool × BookD × Int × Unit) => netThere x.1.1 ∧ oneOwners x.2.2.2.1
  fn := fun (x : TokenD × Int × List Bool × BookD × Int × Unit) => (fQuiet (netOf x.1.1) x.2.1 x.2.2.1 x.2.2.2.1 x.2.2.2.2.1, ())
def a49 (x : TokenD × Int × List Bool × BookD × Int × Unit) : Ann := loopAnn [(2, fun _ => upLoop (netOf x.1.1).1.1.length (noneOf (loud (netOf x.1.1) x.2.1 x.2.2.1 x.2.2.2.1 x.2.2.2.2.1)) 19 [0, 1, 2, 3, 4, 18] [])]

def berthOf (n : NetD) (s : Int) : Int := bif (fAt n.1 s).2 then (fAt n.1 s).1.1 else -1
/-- A line that may not be turned as it should. -/
def stuckAt (t : TokenD) (occ : List Bool) (b : BookD) (berth : Int) (w : TurnD) : Bool :=
  !(fDir t.2 w.1 == 0) && (!(fDir t.2 w.1 == w.2) && !fQuiet (netOf t.1) w.1 occ b berth)
@[irreducible] def fMayT (t : TokenD) (r : RoadD) (occ : List Bool) (b : BookD) : Int :=
  bif (fWants (netOf t.1) r).any (stuckAt t occ b (berthOf (netOf t.1) r.1)) then 8 else 0
def c23 : DCon where
  args := [.ref TokenT, RoadT, .list .bool, .ref BookT]
  out := .data [I]
  pre := fun (x : TokenD × RoadD × List Bool × BookD × Unit) => (netLined x.1.1 ∧ x.2.1.2.2.2.1.length ≤ 1000) ∧ oneOwners x.2.2.2.1
  fn := fun (x : TokenD × RoadD × List Bool × BookD × Unit) => (fMayT x.1 x.2.1 x.2.2.1 x.2.2.2.1, ())
def a23 (x : TokenD × RoadD × List Bool × BookD × Unit) : Ann := loopAnn [(6, fun _ => {
  σ := Nat
  ok := fun k => k ≤ (fWants (netOf x.1.1) x.2.1).length ∧ ((fWants (netOf x.1.1) x.2.1).take k).any (stuckAt x.1 x.2.2.1 x.2.2.2.1 (berthOf (netOf x.1.1) x.2.1.1)) = false
  mu := fun k => (fWants (netOf x.1.1) x.2.1).length - k
  sl := fun k => [(35, .one (.dat I (k : Int))), (9, .one (.dat I (berthOf (netOf x.1.1) x.2.1.1)))]
  bl := fun _ => []
  keep := [0, 2, 3, 33, 34]
  keepB := [] })]

def turned (m : List (TurnD × Bool)) (w : TurnD) : List (TurnD × Bool) := mput TurnT (mdel TurnT m (w.1, 3 - w.2)) w true
def turnedUp (m : List (TurnD × Bool)) (l : List TurnD) : Nat → List (TurnD × Bool)
  | 0 => m
  | k + 1 => turned (turnedUp m l k) (l.getD k zT)
@[irreducible] def fTurned (t : TokenD) (r : RoadD) : List (TurnD × Bool) := turnedUp t.2 (fWants (netOf t.1) r) (fWants (netOf t.1) r).length
def fTakeT (t : TokenD) (r : RoadD) (occ : List Bool) (b : BookD) : TokenD := (t.1, bif fMayT t r occ b == 0 then fTurned t r else t.2)
def c22 : OCon where
  args := [TokenO, .dat RoadT, .dat (.list .bool), BookO]
  outs := [.dat I]
  pre := fun (x : TokenD × RoadD × List Bool × BookD × Unit) => (netLined x.1.1 ∧ x.2.1.2.2.2.1.length ≤ 1000) ∧ oneOwners x.2.2.2.1
  fn := fun (x : TokenD × RoadD × List Bool × BookD × Unit) => (fMayT x.1 x.2.1 x.2.2.1 x.2.2.2.1, ())
  upd := fun (x : TokenD × RoadD × List Bool × BookD × Unit) => (fTakeT x.1 x.2.1 x.2.2.1 x.2.2.2.1, x.2.1, x.2.2.1, x.2.2.2.1, ())
def a22 (x : TokenD × RoadD × List Bool × BookD × Unit) : Ann := loopAnn [(5, fun _ => {
  σ := Nat
  ok := fun k => k ≤ (fWants (netOf x.1.1) x.2.1).length
  mu := fun k => (fWants (netOf x.1.1) x.2.1).length - k
  sl := fun k => [(27, .one (.dat I (k : Int)))]
  bl := fun k => [(1000001, .map false TurnT .bool (turnedUp x.1.2 (fWants (netOf x.1.1) x.2.1) k) none)]
  keep := [0, 3, 25, 26]
  keepB := [1000000, 1000002, 1000003, 1000004, 1000005, 1000006] })]

end YtpnnfimacblhgaaGreat
end Go.Proofs
end

section
set_option maxRecDepth 100000
set_option linter.unusedVariables false
set_option linter.unusedSimpArgs false
set_option maxHeartbeats 2000000
namespace Go.Proofs
open Go Go.Vc
namespace YtpnnfimacblhgaaGreat

theorem v68 (xs : List Int) (v : Int) : bodyVC (ctxOf tab []) Tryz.f68 c68 (a68 (xs, v, ())) (xs, v, ()) = (
lett (fFind (fun (y : Int) => v == y) xs) fun (y2 : Int) =>
(∃ (s03 : Nat), (s03 ≤ xs.length ∧ ((List.take s03 xs).any fun (y : Int) => v == y) = false) ∧ (↑s03 : Int) = (0 : Int) ∧ xs = xs ∧ v = v ∧ (↑xs.length : Int) = (↑xs.length : Int) ∧ True) ∧
∀ (s3 : Nat),
lett (decide ((↑s3 : Int) < (↑xs.length : Int))) fun (y4 : Bool) =>
lett (v == xs.getD (↑s3 : Int).toNat (0 : Int)) fun (y5 : Bool) =>
s3 ≤ xs.length ∧ ((List.take s3 xs).any fun (y : Int) => v == y) = false →
(y4 = true →
InB (↑s3 : Int) xs.length ∧
(y5 = true → (↑s3 : Int) = y2 ∧ True) ∧
(y5 = false →
InR IntKind.i64 ((↑s3 : Int) + (1 : Int)) ∧
∃ (s'6 : Nat),
(s'6 ≤ xs.length ∧ ((List.take s'6 xs).any fun (y : Int) => v == y) = false) ∧
xs.length - s'6 < xs.length - s3 ∧ (↑s'6 : Int) = (↑s3 : Int) + (1 : Int) ∧ xs = xs ∧ v = v ∧ (↑xs.length : Int) = (↑xs.length : Int) ∧ True)) ∧
(y4 = false → (-1 : Int) = y2 ∧ True)) := by kernel_rfl

theorem b68 (xs : List Int) (v : Int) (hw : xs.length ≤ maxLenI) : bodyVC (ctxOf tab []) Tryz.f68 c68 (a68 (xs, v, ())) (xs, v, ()) := by
  rw [v68]
  refine lett.mk fun y2 e2 => ?_
  simp only [true_and, and_true, eq_self]
  refine ⟨⟨0, ⟨by omega, by simp⟩, by omega⟩, fun s => lett.mk fun y4 e4 => lett.mk fun y5 e5 => ?_⟩
  rintro ⟨h1, h2⟩
  rw [Int.toNat_natCast] at e5
  refine ⟨fun hs => ?_, fun hs => ?_⟩
  · have hs := lt_of_y e4 hs
    refine ⟨⟨by omega, by omega⟩, fun e => ?_, fun e => ⟨inRlen hs hw, s + 1, ⟨by omega, ?_⟩, by omega, by omega⟩⟩
    · rw [e2]
      exact fFind_at (0 : Int) hs h2 (by rw [← e5]; exact e)
    · exact any_succ (0 : Int) hs h2 (by rw [← e5]; exact e)
  · rw [e2]
    exact fFind_none (s := s) (le_of_y e4 hs) h2

theorem ok68 : DOk Tryz.prog 68 c68 :=
  DOk.of' (l := []) (A := a68) tabOk trivial Tryz.func68 (by kernel_rfl) (by kernel_rfl) fun x hw hp => b68 x.1 x.2.1 hw.1.1

theorem v44 (xs : List Int) (v : Int) : bodyVC (ctxOf tab [(68, c68)]) Tryz.f44 c44 noAnn (xs, v, ()) = (
lett (fFind (fun (y : Int) => v == y) xs) fun (y2 : Int) => True ∧ decide (y2 ≥ (0 : Int)) = fMem xs v ∧ True) := by kernel_rfl

theorem b44 (xs : List Int) (v : Int) : bodyVC (ctxOf tab [(68, c68)]) Tryz.f44 c44 noAnn (xs, v, ()) := by
  rw [v44]
  refine lett.mk fun y2 e2 => ⟨trivial, ?_, trivial⟩
  rw [e2, fFind_any]
  unfold fMem
  congr 1
  funext y
  rw [beqComm]

theorem ok44 : DOk Tryz.prog 44 c44 :=
  DOk.of' (l := [(68, c68)]) (A := fun _ => noAnn) tabOk ⟨ok68, trivial⟩ Tryz.func44 (by kernel_rfl) (by kernel_rfl) fun x hw hp => b44 x.1 x.2.1

theorem v21 (n : Int) : obodyVC (ctxOf tab []) Tryz.f21 c21 noAnn (n, ()) = (
max (0 : Int) (min n (40 : Int)) = max (0 : Int) (min n (40 : Int)) ∧ ([] : List (Int × List Int)) = [] ∧ ([] : List (Int × List Int)) = [] ∧ ([] : List (Int × List (Int × Int))) = [] ∧ ([] : List (Int × List (Int × Int))) = [] ∧ True) := by kernel_rfl

theorem ok21 : OOk Tryz.prog 21 c21 :=
  OOk.of' (l := []) (A := fun _ => noAnn) tabOk trivial Tryz.func21 (by kernel_rfl) (by kernel_rfl) fun x hw hp => by
    obtain ⟨n, ⟨⟩⟩ := x
    show obodyVC (ctxOf tab []) Tryz.f21 c21 noAnn (n, ())
    rw [v21]
    exact ⟨rfl, rfl, rfl, rfl, rfl, trivial⟩

/-! ### The owner of an element -/

theorem owner_of {b : BookD} {e : Int} (h : oneOwner b e) {x : Int × List Int} (hx : x ∈ b.2.1) (hm : fMem x.2 e = true) : fOwner b e = x.1 := by
  unfold fOwner
  cases hf : b.2.1.find? (fun x => fMem x.2 e) with
  | none => exact absurd hm (by simpa using List.find?_eq_none.1 hf x hx)
  | some y => exact h y (List.mem_of_find?_eq_some hf) x hx (by simpa using List.find?_some hf) hm
theorem owner_none {b : BookD} {e : Int} (h : b.2.1.any (fun x => fMem x.2 e) = false) : fOwner b e = -1 := by
  unfold fOwner
  rw [List.find?_eq_none.2 fun x hx => by simpa using List.any_eq_false.1 h x hx]
  rfl

theorem perm_any {α : Type} {l m : List α} (h : l.Perm m) (q : α → Bool) : l.any q = m.any q := by
  cases hm : m.any q with
  | true =>
    obtain ⟨x, hx, hq⟩ := List.any_eq_true.1 hm
    exact List.any_eq_true.2 ⟨x, h.mem_iff.2 hx, hq⟩
  | false => exact List.any_eq_false.2 fun x hx => List.any_eq_false.1 hm x (h.mem_iff.1 hx)

theorem v80 (b : BookD) (e : Int) : bodyVC (ctxOf tab [(44, c44)]) Tryz.f80 c80 (a80 (b, e, ())) (b, e, ()) = (
(∃ (s02 : List (Int × List Int)), ownLeft b e s02 ∧ [b] = [b] ∧ (0 : Nat) = (0 : Nat) ∧ e = e ∧ s02 = b.snd.fst ∧ True) ∧
∀ (s2 : List (Int × List Int)),
ownLeft b e s2 →
(s2 = [] → (false = true → False) ∧ (false = false → (-1 : Int) = fOwner b e ∧ True)) ∧
∀ (x3 : Int × List Int) (rest4 : List (Int × List Int)),
s2.Perm (x3 :: rest4) →
(true = true →
True ∧
(fMem x3.snd e = true → x3.fst = fOwner b e ∧ True) ∧
(fMem x3.snd e = false → ∃ (s'5 : List (Int × List Int)), ownLeft b e s'5 ∧ s'5.length < s2.length ∧ [b] = [b] ∧ (0 : Nat) = (0 : Nat) ∧ e = e ∧ s'5 = rest4 ∧ True)) ∧
(true = false → (-1 : Int) = fOwner b e ∧ True)) := by kernel_rfl

theorem b80 (b : BookD) (e : Int) (h : oneOwner b e) : bodyVC (ctxOf tab [(44, c44)]) Tryz.f80 c80 (a80 (b, e, ())) (b, e, ()) := by
  rw [v80]
  simp only [true_and, and_true, eq_self]
  refine ⟨⟨b.2.1, ⟨[], .refl _, rfl⟩, rfl⟩, fun s hs => ⟨fun h0 => ⟨fun h => Bool.noConfusion h, fun _ => ?_⟩, fun x rest hp => ⟨fun _ => ⟨fun hm => ?_, fun hm => ?_⟩, fun h => Bool.noConfusion h⟩⟩⟩
  · obtain ⟨done, h1, h2⟩ := hs
    subst h0
    rw [owner_none]
    rw [perm_any h1, List.append_nil]
    exact h2
  · obtain ⟨done, h1, h2⟩ := hs
    exact (owner_of h (h1.mem_iff.2 (List.mem_append_right _ (hp.mem_iff.2 (List.mem_cons_self ..)))) hm).symm
  · obtain ⟨done, h1, h2⟩ := hs
    refine ⟨rest, ⟨done ++ [x], ?_, ?_⟩, ?_, rfl⟩
    · rw [List.append_assoc]
      exact h1.trans (hp.append_left done)
    · rw [List.any_append, h2]
      simp [hm]
    · rw [hp.length_eq]
      exact Nat.lt_succ_self _

theorem ok80 : DOk Tryz.prog 80 c80 :=
  DOk.of' (l := [(44, c44)]) (A := a80) tabOk ⟨ok44, trivial⟩ Tryz.func80 (by kernel_rfl) (by kernel_rfl) fun x hw hp => b80 x.1 x.2.1 hp

/-! ### Tokens -/

theorem v20 (n : Option (NetD)) : obodyVC (ctxOf tab []) Tryz.f20 c20 noAnn (n, ()) = (
n = n ∧ ([] : List ((Int × Int) × Bool)) = [] ∧ True) := by kernel_rfl

theorem ok20 : OOk Tryz.prog 20 c20 :=
  OOk.of' (l := []) (A := fun _ => noAnn) tabOk trivial Tryz.func20 (by kernel_rfl) (by kernel_rfl) fun x hw hp => by
    obtain ⟨n, ⟨⟩⟩ := x
    show obodyVC (ctxOf tab []) Tryz.f20 c20 noAnn (n, ())
    rw [v20]
    exact ⟨rfl, rfl, trivial⟩

theorem v24 (t : Option (NetD) × List ((Int × Int) × Bool)) (l : Int) : bodyVC (ctxOf tab []) Tryz.f24 c24 (a24 (t, l, ())) (t, l, ()) = (
(∃ (s02 : Nat), (s02 ≤ (2 : Nat) ∧ noTurn t.snd l s02) ∧ (↑s02 : Int) + (1 : Int) = (1 : Int) ∧ [t] = [t] ∧ (0 : Nat) = (0 : Nat) ∧ l = l ∧ True) ∧
∀ (s2 : Nat),
lett (decide ((↑s2 : Int) + (1 : Int) ≤ (2 : Int))) fun (y3 : Bool) =>
lett ((mget PortT t.snd (l, (↑s2 : Int) + (1 : Int))).getD false) fun (y4 : Bool) =>
lett ((↑s2 : Int) + (1 : Int) + (1 : Int)) fun (y5 : Int) =>
s2 ≤ (2 : Nat) ∧ noTurn t.snd l s2 →
(y3 = true →
(y4 = true → (↑s2 : Int) + (1 : Int) = fDir t.snd l ∧ True) ∧
(y4 = false →
InR IntKind.i64 y5 ∧
∃ (s'6 : Nat), (s'6 ≤ (2 : Nat) ∧ noTurn t.snd l s'6) ∧ (2 : Nat) - s'6 < (2 : Nat) - s2 ∧ (↑s'6 : Int) + (1 : Int) = y5 ∧ [t] = [t] ∧ (0 : Nat) = (0 : Nat) ∧ l = l ∧ True)) ∧
(y3 = false → (0 : Int) = fDir t.snd l ∧ True)) := by kernel_rfl

theorem dir_at {m : List (TurnD × Bool)} {l : Int} {k : Nat} (hk : k < 2) (h0 : noTurn m l k) (h : hasTurn m (l, (k : Int) + 1) = true) : ((k : Int) + 1) = fDir m l := by
  unfold fDir
  rcases (by omega : k = 0 ∨ k = 1) with rfl | rfl
  · have h : hasTurn m (l, 1) = true := h
    rw [h]
    rfl
  · have h : hasTurn m (l, 2) = true := h
    have h1 : hasTurn m (l, 1) = false := h0 1 (by omega) (by omega)
    rw [h, h1]
    rfl
theorem dir_none {m : List (TurnD × Bool)} {l : Int} (h0 : noTurn m l 2) : 0 = fDir m l := by
  unfold fDir
  have h1 : hasTurn m (l, 1) = false := h0 1 (by omega) (by omega)
  have h2 : hasTurn m (l, 2) = false := h0 2 (by omega) (by omega)
  rw [h1, h2]
  rfl

theorem b24 (t : TokenD) (l : Int) : bodyVC (ctxOf tab []) Tryz.f24 c24 (a24 (t, l, ())) (t, l, ()) := by
  rw [v24]
  simp only [true_and, and_true, eq_self]
  refine ⟨⟨0, ⟨by omega, fun j h1 h2 => by omega⟩, by omega⟩, fun k => lett.mk fun y3 e3 => lett.mk fun y4 e4 => lett.mk fun y5 e5 => ?_⟩
  rintro ⟨h1, h2⟩
  have e4 : y4 = hasTurn t.2 (l, (k : Int) + 1) := e4
  refine ⟨fun h => ⟨fun hy => ?_, fun hy => ?_⟩, fun h => ?_⟩
  · rw [h] at e3
    have := of_decide_eq_true e3.symm
    exact dir_at (by omega) h2 (by rw [← e4]; exact hy)
  · rw [h] at e3
    have := of_decide_eq_true e3.symm
    refine ⟨inR64 (by omega) (by omega), k + 1, ⟨by omega, fun j h3 h4 => ?_⟩, by omega, by omega⟩
    by_cases hj : j = k + 1
    · subst hj
      rw [← hy, e4]
      congr 2
    · exact h2 j h3 (by omega)
  · rw [h] at e3
    have := of_decide_eq_false e3.symm
    have : k = 2 := by omega
    subst this
    exact dir_none h2

theorem ok24 : DOk Tryz.prog 24 c24 :=
  DOk.of' (l := []) (A := a24) tabOk trivial Tryz.func24 (by kernel_rfl) (by kernel_rfl) fun x hw hp => b24 x.1 x.2.1

theorem v49 (t : Option (NetD) × List ((Int × Int) × Bool)) (l : Int) (o : List Bool) (b : BookD) (h : Int) : bodyVC (ctxOf tab [(11, c11p), (79, c79p), (80, c80)]) Tryz.f49 c49 (a49 (t, l, o, b, h, ())) (t, l, o, b, h, ()) = (
lett (netOf t.fst).fst.fst.length fun (y5 : Nat) =>
lett (fQuiet (netOf t.fst) l o b h) fun (y6 : Bool) =>
netThere t.fst ∧
(∃ (s07 : Nat),
(s07 ≤ y5 ∧ noneOf (loud (netOf t.fst) l o b h) s07) ∧
(↑s07 : Int) = (0 : Int) ∧
[t] = [t] ∧ (0 : Nat) = (0 : Nat) ∧ l = l ∧ o = o ∧ [b] = [b] ∧ (0 : Nat) = (0 : Nat) ∧ h = h ∧ (↑(netOf t.fst).fst.fst.length : Int) = (↑(netOf t.fst).fst.fst.length : Int) ∧ True) ∧
∀ (s7 : Nat),
lett (decide ((↑s7 : Int) < (↑(netOf t.fst).fst.fst.length : Int))) fun (y8 : Bool) =>
lett ((gLine (netOf t.fst) (↑s7 : Int)).fst == l) fun (y9 : Bool) =>
lett (decide ((↑s7 : Int) < (↑o.length : Int))) fun (y10 : Bool) =>
lett (bif bif y10 then o.getD (↑s7 : Int).toNat false else false then (↑s7 : Int) != h else false) fun (y11 : Bool) =>
lett (bif y9 then bif y11 then true else decide (fOwner b (↑s7 : Int) ≥ (0 : Int)) else false) fun (y12 : Bool) =>
s7 ≤ y5 ∧ noneOf (loud (netOf t.fst) l o b h) s7 →
(y8 = true →
netThere t.fst ∧
(y9 = true → y10 = true → InB (↑s7 : Int) o.length) ∧
(y9 = true → y11 = false → oneOwner b (↑s7 : Int)) ∧
(y12 = true → false = y6 ∧ True) ∧
(y12 = false →
InR IntKind.i64 ((↑s7 : Int) + (1 : Int)) ∧
∃ (s'13 : Nat),
(s'13 ≤ y5 ∧ noneOf (loud (netOf t.fst) l o b h) s'13) ∧
y5 - s'13 < y5 - s7 ∧
(↑s'13 : Int) = (↑s7 : Int) + (1 : Int) ∧
[t] = [t] ∧
(0 : Nat) = (0 : Nat) ∧
l = l ∧ o = o ∧ [b] = [b] ∧ (0 : Nat) = (0 : Nat) ∧ h = h ∧ (↑(netOf t.fst).fst.fst.length : Int) = (↑(netOf t.fst).fst.fst.length : Int) ∧ True)) ∧
(y8 = false → true = y6 ∧ True)) := by kernel_rfl

theorem b49 (t : TokenD) (l : Int) (o : List Bool) (b : BookD) (h : Int) (hn : netThere t.1) (hb : oneOwners b) (hl : (netOf t.1).1.1.length ≤ maxLenI) : bodyVC (ctxOf tab [(11, c11p), (79, c79p), (80, c80)]) Tryz.f49 c49 (a49 (t, l, o, b, h, ())) (t, l, o, b, h, ()) := by
  rw [v49]
  refine lett.mk fun y5 e5 => lett.mk fun y6 e6 => ?_
  simp only [true_and, and_true, eq_self]
  rw [← e5]
  refine ⟨hn, ⟨0, ⟨by omega, rfl⟩, by omega⟩, fun s => lett.mk fun y8 e8 => lett.mk fun y9 e9 => lett.mk fun y10 e10 => lett.mk fun y11 e11 => lett.mk fun y12 e12 => ?_⟩
  rintro ⟨h1, h2⟩
  have hq : y6 = !anyTo (loud (netOf t.1) l o b h) y5 := by rw [e6, e5]; unfold fQuiet; rfl
  refine ⟨fun hs => ?_, fun hs => ?_⟩
  · have hs := lt_of_y e8 hs
    have hloud : loud (netOf t.1) l o b h s = y12 := by
      unfold loud occAt
      rw [e12, e11, e10, e9, decide_eq_true (by omega : (0 : Int) ≤ (s : Int))]
      cases ((gLine (netOf t.1) (s : Int)).1 == l) <;> cases decide ((s : Int) < (o.length : Int)) <;> cases (o.getD (s : Int).toNat false) <;> cases hx : ((s : Int) == h) <;> simp [hx, bne]
    refine ⟨hn, fun _ h10 => ?_, fun _ _ => hb _, fun hy => ?_, fun hy => ⟨inRlen hs (by rw [e5]; exact hl), s + 1, ⟨by omega, anyTo_succ h2 (by rw [hloud]; exact hy)⟩, by omega, by omega⟩⟩
    · rw [h10] at e10
      have := of_decide_eq_true e10.symm
      exact ⟨by omega, by omega⟩
    · rw [hq, anyTo_yes hs (by rw [hloud]; exact hy)]
      rfl
  · have hs := le_of_y e8 hs
    have : s = y5 := by omega
    subst this
    rw [hq, h2]
    rfl

theorem net_wf {o : Option NetD} (h : (Ty.ptr NetT).wf o) : (netOf o).1.1.length ≤ maxLenI := by
  cases o with
  | none => exact Nat.zero_le _
  | some n =>
    have := h n rfl
    exact this.1.1.1

theorem ok49 : DOk Tryz.prog 49 c49 :=
  DOk.of' (l := [(11, c11p), (79, c79p), (80, c80)]) (A := a49) tabOk ⟨ok11p, ok79p, ok80, trivial⟩ Tryz.func49 (by kernel_rfl) (by kernel_rfl) fun x hw hp => b49 x.1 x.2.1 x.2.2.1 x.2.2.2.1 x.2.2.2.2.1 hp.1 hp.2 (net_wf hw.1.1)

theorem fwants_len {o : Option NetD} (h : netLined o) (r : RoadD) : (fWants (netOf o) r).length ≤ 10 := by
  obtain ⟨n, rfl, hl⟩ := h
  show (fWants n r).length ≤ 10
  unfold fWants
  rw [(sort_perm _).length_eq]
  exact wants_len (wants_up hl r _)

theorem v23 (t : Option (NetD) × List ((Int × Int) × Bool)) (r : RoadD) (o : List Bool) (b : BookD) : bodyVC (ctxOf tab [(9, c9p), (48, c48p), (24, c24), (49, c49)]) Tryz.f23 c23 (a23 (t, r, o, b, ())) (t, r, o, b, ()) = (
lett (fWants (netOf t.fst) r).length fun (y4 : Nat) =>
lett (berthOf (netOf t.fst) r.fst) fun (y5 : Int) =>
lett (fAt (netOf t.fst).fst r.fst) fun (y6 : PortD × Bool) =>
lett (fWants (netOf t.fst) r).length fun (y7 : Nat) =>
netThere t.fst ∧
(netLined t.fst ∧ r.snd.snd.snd.fst.length ≤ (1000 : Nat)) ∧
(∃ (s08 : Nat),
(s08 ≤ y4 ∧ (List.take s08 (fWants (netOf t.fst) r)).any (stuckAt t o b y5) = false) ∧
(↑s08 : Int) = (0 : Int) ∧
(y5 = bif y6.snd then y6.fst.fst else (-1 : Int)) ∧
[t] = [t] ∧ (0 : Nat) = (0 : Nat) ∧ o = o ∧ [b] = [b] ∧ (0 : Nat) = (0 : Nat) ∧ fWants (netOf t.fst) r = fWants (netOf t.fst) r ∧ (↑y7 : Int) = (↑y7 : Int) ∧ True) ∧
∀ (s8 : Nat),
lett (decide ((↑s8 : Int) < (↑y7 : Int))) fun (y9 : Bool) =>
lett ((fWants (netOf t.fst) r).getD (↑s8 : Int).toNat ((0 : Int), (0 : Int))) fun (y10 : Int × Int) =>
lett (bif fDir t.snd y10.fst != (0 : Int) then fDir t.snd y10.fst != y10.snd else false) fun (y11 : Bool) =>
lett (bif y11 then !fQuiet (netOf t.fst) y10.fst o b y5 else false) fun (y12 : Bool) =>
s8 ≤ y4 ∧ (List.take s8 (fWants (netOf t.fst) r)).any (stuckAt t o b y5) = false →
(y9 = true →
InB (↑s8 : Int) y7 ∧
True ∧
(y11 = true → netThere t.fst ∧ oneOwners b) ∧
(y12 = true → (8 : Int) = fMayT t r o b ∧ True) ∧
(y12 = false →
InR IntKind.i64 ((↑s8 : Int) + (1 : Int)) ∧
∃ (s'13 : Nat),
(s'13 ≤ y4 ∧ (List.take s'13 (fWants (netOf t.fst) r)).any (stuckAt t o b y5) = false) ∧
y4 - s'13 < y4 - s8 ∧
(↑s'13 : Int) = (↑s8 : Int) + (1 : Int) ∧
y5 = y5 ∧
[t] = [t] ∧
(0 : Nat) = (0 : Nat) ∧
o = o ∧ [b] = [b] ∧ (0 : Nat) = (0 : Nat) ∧ fWants (netOf t.fst) r = fWants (netOf t.fst) r ∧ (↑y7 : Int) = (↑y7 : Int) ∧ True)) ∧
(y9 = false → (0 : Int) = fMayT t r o b ∧ True)) := by kernel_rfl

theorem b23 (t : TokenD) (r : RoadD) (o : List Bool) (b : BookD) (hn : netLined t.1) (hr : r.2.2.2.1.length ≤ 1000) (hb : oneOwners b) : bodyVC (ctxOf tab [(9, c9p), (48, c48p), (24, c24), (49, c49)]) Tryz.f23 c23 (a23 (t, r, o, b, ())) (t, r, o, b, ()) := by
  rw [v23]
  refine lett.mk fun y4 e4 => lett.mk fun y5 e5 => lett.mk fun y6 e6 => lett.mk fun y7 e7 => ?_
  have ht : netThere t.1 := by obtain ⟨n, h, _⟩ := hn; exact ⟨n, h⟩
  have hl := fwants_len hn r
  have e7 : y7 = y4 := by rw [e4]; exact e7
  subst e7
  have hF : fMayT t r o b = bif (fWants (netOf t.1) r).any (stuckAt t o b y5) then 8 else 0 := by rw [e5]; unfold fMayT; rfl
  simp only [true_and, and_true, eq_self]
  refine ⟨ht, ⟨hn, hr⟩, ⟨0, ⟨by omega, by simp⟩, by omega, by rw [e5, e6]; rfl⟩, fun s => lett.mk fun y9 e9 => lett.mk fun y10 e10 => lett.mk fun y11 e11 => lett.mk fun y12 e12 => ?_⟩
  rintro ⟨h1, h2⟩
  refine ⟨fun hs => ?_, fun hs => ?_⟩
  · have hs := lt_of_y e9 hs
    rw [Int.toNat_natCast] at e10
    have e10 : y10 = (fWants (netOf t.1) r).getD s zT := e10
    have hst : stuckAt t o b y5 ((fWants (netOf t.1) r).getD s zT) = y12 := by
      rw [← e10, e12, e11]
      unfold stuckAt
      cases hx : (fDir t.2 y10.1 == 0) <;> cases hz : (fDir t.2 y10.1 == y10.2) <;> simp [hx, hz, bne]
    refine ⟨⟨by omega, by omega⟩, fun _ => ⟨ht, hb⟩, fun hy => ?_, fun hy => ⟨inR64 (by omega) (by omega), s + 1, ⟨by omega, ?_⟩, by omega, by omega⟩⟩
    · rw [hF, any_yes (s := s) zT (by omega) (by rw [hst]; exact hy)]
      rfl
    · exact any_succ zT (by omega) h2 (by rw [hst]; exact hy)
  · have hs := le_of_y e9 hs
    rw [hF, any_full (s := s) (by omega) h2]
    rfl

theorem ok23 : DOk Tryz.prog 23 c23 :=
  DOk.of' (l := [(9, c9p), (48, c48p), (24, c24), (49, c49)]) (A := a23) tabOk ⟨ok9p, ok48p, ok24, ok49, trivial⟩ Tryz.func23 (by kernel_rfl) (by kernel_rfl) fun x hw hp => b23 x.1 x.2.1 x.2.2.1 x.2.2.2.1 hp.1.1 hp.1.2 hp.2

theorem gLead_in (n : NetD) (e i : Int) : 0 ≤ gLead n e i ∧ gLead n e i ≤ 2 := by
  unfold gLead
  cases (!(mget I n.2.2.2.2 e).isSome || (decide (i < 0) || decide (i > 1))) with
  | true => exact ⟨Int.le_refl 0, by show (0 : Int) ≤ 2; decide⟩
  | false =>
    cases ((mget I n.2.2.2.2 e).getD 0 == i) with
    | true => exact ⟨by decide, by decide⟩
    | false => exact ⟨by decide, by decide⟩
theorem wants_lead (n : NetD) (r : RoadD) : ∀ (k : Nat), ∀ t ∈ wantsUp n r k, 0 ≤ t.2 ∧ t.2 ≤ 2
  | 0, t, h => absurd h List.not_mem_nil
  | k + 1, t, h => by
    have h : t ∈ wantStep n (wantsUp n r k) (r.2.2.2.1.getD k zSt) := h
    unfold wantStep at h
    cases hc : (decide ((gLine n (r.2.2.2.1.getD k zSt).1).1 < 0) || (wantsUp n r k).any (fun t => t.1 == (gLine n (r.2.2.2.1.getD k zSt).1).1)) with
    | true => rw [hc] at h; exact wants_lead n r k t h
    | false =>
      rw [hc] at h
      rcases List.mem_append.1 h with h | h
      · exact wants_lead n r k t h
      · rw [List.mem_singleton.1 h]
        exact gLead_in n _ _

theorem v22 (t : Option (NetD) × List ((Int × Int) × Bool)) (r : RoadD) (o : List Bool) (b : BookD) : obodyVC (ctxOf tab [(23, c23), (9, c9p)]) Tryz.f22 c22 (a22 (t, r, o, b, ())) (t, r, o, b, ()) = (
lett (fMayT t r o b != (0 : Int)) fun (y4 : Bool) =>
lett (bif fMayT t r o b == (0 : Int) then fTurned t r else t.snd) fun (y5 : List (TurnD × Bool)) =>
lett (fWants (netOf t.fst) r).length fun (y6 : Nat) =>
lett (fWants (netOf t.fst) r).length fun (y7 : Nat) =>
((netLined t.fst ∧ r.snd.snd.snd.fst.length ≤ (1000 : Nat)) ∧ oneOwners b) ∧
(y4 = true →
fMayT t r o b = fMayT t r o b ∧
t.fst = t.fst ∧
t.snd = y5 ∧ b.fst = b.fst ∧ b.snd.fst = b.snd.fst ∧ b.snd.snd.fst = b.snd.snd.fst ∧ b.snd.snd.snd.fst = b.snd.snd.snd.fst ∧ b.snd.snd.snd.snd = b.snd.snd.snd.snd ∧ True) ∧
(y4 = false →
(netLined t.fst ∧ r.snd.snd.snd.fst.length ≤ (1000 : Nat)) ∧
(∃ (s08 : Nat),
s08 ≤ y6 ∧
(↑s08 : Int) = (0 : Int) ∧
fWants (netOf t.fst) r = fWants (netOf t.fst) r ∧
(↑y7 : Int) = (↑y7 : Int) ∧
turnedUp t.snd (fWants (netOf t.fst) r) s08 = t.snd ∧
t.fst = t.fst ∧
b.fst = b.fst ∧ b.snd.fst = b.snd.fst ∧ b.snd.snd.fst = b.snd.snd.fst ∧ b.snd.snd.snd.fst = b.snd.snd.snd.fst ∧ b.snd.snd.snd.snd = b.snd.snd.snd.snd ∧ True) ∧
∀ (s8 : Nat),
lett (decide ((↑s8 : Int) < (↑y7 : Int))) fun (y9 : Bool) =>
lett ((fWants (netOf t.fst) r).getD (↑s8 : Int).toNat ((0 : Int), (0 : Int))) fun (y10 : Int × Int) =>
lett (turnedUp t.snd (fWants (netOf t.fst) r) s8) fun (y11 : List (TurnD × Bool)) =>
s8 ≤ y6 →
(y9 = true →
InB (↑s8 : Int) y7 ∧
InR IntKind.i64 ((3 : Int) - y10.snd) ∧
InR IntKind.i64 ((↑s8 : Int) + (1 : Int)) ∧
∃ (s'12 : Nat),
s'12 ≤ y6 ∧
y6 - s'12 < y6 - s8 ∧
(↑s'12 : Int) = (↑s8 : Int) + (1 : Int) ∧
fWants (netOf t.fst) r = fWants (netOf t.fst) r ∧
(↑y7 : Int) = (↑y7 : Int) ∧
turnedUp t.snd (fWants (netOf t.fst) r) s'12 =
mput PortT (mdel PortT y11 (y10.fst, (3 : Int) - y10.snd))
y10 true ∧
t.fst = t.fst ∧
b.fst = b.fst ∧
b.snd.fst = b.snd.fst ∧ b.snd.snd.fst = b.snd.snd.fst ∧ b.snd.snd.snd.fst = b.snd.snd.snd.fst ∧ b.snd.snd.snd.snd = b.snd.snd.snd.snd ∧ True) ∧
(y9 = false →
(0 : Int) = fMayT t r o b ∧
t.fst = t.fst ∧
y11 = y5 ∧
b.fst = b.fst ∧ b.snd.fst = b.snd.fst ∧ b.snd.snd.fst = b.snd.snd.fst ∧ b.snd.snd.snd.fst = b.snd.snd.snd.fst ∧ b.snd.snd.snd.snd = b.snd.snd.snd.snd ∧ True))) := by kernel_rfl

theorem b22 (t : TokenD) (r : RoadD) (o : List Bool) (b : BookD) (hn : netLined t.1) (hr : r.2.2.2.1.length ≤ 1000) (hb : oneOwners b) : obodyVC (ctxOf tab [(23, c23), (9, c9p)]) Tryz.f22 c22 (a22 (t, r, o, b, ())) (t, r, o, b, ()) := by
  rw [v22]
  have hl := fwants_len hn r
  simp only [true_and, and_true, eq_self]
  refine lett.mk fun y4 e4 => lett.mk fun y5 e5 => lett.mk fun y6 e6 => lett.mk fun y7 e7 => ?_
  have e7 : y7 = y6 := by rw [e6]; exact e7
  subst e7
  refine ⟨⟨⟨hn, hr⟩, hb⟩, fun h => ?_, fun h => ⟨⟨hn, hr⟩, ⟨0, by omega, by omega, rfl⟩, fun s => lett.mk fun y9 e9 => lett.mk fun y10 e10 => lett.mk fun y11 e11 => fun hs => ⟨fun h9 => ?_, fun h9 => ?_⟩⟩⟩
  · rw [h] at e4
    have : (fMayT t r o b == 0) = false := by
      cases hx : (fMayT t r o b == 0) with
      | false => rfl
      | true => rw [bneB, hx] at e4; cases e4
    rw [e5, this]
    rfl
  · have hs' := lt_of_y e9 h9
    rw [Int.toNat_natCast] at e10
    have e10 : y10 = (fWants (netOf t.1) r).getD s zT := e10
    have hm : y10 ∈ fWants (netOf t.1) r := by rw [e10]; exact mem_getD zT (by omega)
    have hd : 0 ≤ y10.2 ∧ y10.2 ≤ 2 := by
      unfold fWants at hm
      exact wants_lead _ r _ _ ((sort_perm _).mem_iff.1 hm)
    refine ⟨⟨by omega, by omega⟩, inR64 (by omega) (by omega), inR64 (by omega) (by omega), s + 1, by omega, by omega, by omega, ?_⟩
    rw [e11, e10]
    rfl
  · have hs' := le_of_y e9 h9
    have hm : fMayT t r o b = 0 := by
      rw [h, bneB] at e4
      cases hx : (fMayT t r o b == 0) with
      | false => rw [hx] at e4; cases e4
      | true => exact eq_of_beq hx
    refine ⟨hm.symm, ?_⟩
    have : s = (fWants (netOf t.1) r).length := by omega
    subst this
    rw [e11, e5, hm]
    unfold fTurned
    rfl

theorem ok22 : OOk Tryz.prog 22 c22 :=
  OOk.of' (l := [(23, c23), (9, c9p)]) (A := a22) tabOk ⟨ok23, ok9p, trivial⟩ Tryz.func22 (by kernel_rfl) (by kernel_rfl) fun x hw hp => b22 x.1 x.2.1 x.2.2.1 x.2.2.2.1 hp.1.1 hp.1.2 hp.2

end YtpnnfimacblhgaaGreat
end Go.Proofs
end

section
set_option maxRecDepth 100000
set_option linter.unusedVariables false
namespace Go.Proofs
open Go Go.Vc

namespace YtpnnfimacblhgaaGreat
def linedP : PlanD := (smallP.1, smallP.2.1, smallP.2.2.1, [([108], [1])], smallP.2.2.2.2)
def c18 : DCon where
  args := []
  out := .data [PlanT]
  pre := fun (x : Unit) => True
  fn := fun (x : Unit) => (linedP, ())
def c6 : DCon where
  args := []
  out := .data [.bool]
  pre := fun (x : Unit) => True
  fn := fun (x : Unit) => (true, ())

/-- A law: whatever the arguments, it answers 'true'. -/
def lawCon (ts : List Ty) : DCon where
  args := ts
  out := .data [.bool]
  pre _ := True
  fn _ := (true, ())
def c3 : DCon := lawCon [PlanT, .int .u8]
def c4 : DCon := lawCon [PlanT, .int .u8, .int .u8]

def slotTurns (S : St) (n : Nat) : List TurnD :=
  match find S.sl n with
  | some (_, .one (.dat (.list (.pair (.int _) (.int _))) xs)) => xs
  | _ => []
def a3 (x : PlanD × Int × Unit) : Ann := loopAnn [(13, fun S => upLoop (slotTurns S 8).length (fun _ => True) 10 [8, 9] [])]

end YtpnnfimacblhgaaGreat
end Go.Proofs
end

section
set_option maxRecDepth 100000
set_option linter.unusedVariables false
set_option linter.unusedSimpArgs false
set_option maxHeartbeats 2000000
namespace Go.Proofs
open Go Go.Vc
namespace YtpnnfimacblhgaaGreat

/-- An end to which another one is joined. -/
def nextPort (p : PlanD) (y : PortD) : Prop := ∃ x, (fNext p x).2 = true ∧ y = (fNext p x).1

/-- What is kept by all that a search does. -/
structure Kept (p : PlanD) (Q : SearchD → Prop) : Prop where
  plan : ∀ s, Q s → s.1 = p
  bare : ∀ s, Q s → Q (sBare s)
  zone : ∀ s z, Q s → Q (sZone s z)
  hold : ∀ s z, Q s → Q (sHold s z)
  met : ∀ s m, Q s → Q (sMet s m)
  guard : ∀ s (y : PortD), Q s → nextPort p y → fOwn (sRoad s) y.1 = false → fKind p y.1 = 2 → (y.2 == 0) = false → fHasNeed (gGuards s) (y.1, y.2) = false → fHasNeed (gGuards s) (y.1, 3 - y.2) = false →
    Q (sGuard s (gGuards s ++ [(y.1, 3 - y.2)]))

theorem zone_kept {p : PlanD} {Q : SearchD → Prop} (k : Kept p Q) {s : SearchD} (h : Q s) (e : Int) : Q (fZone s e).2 := by
  unfold fZone
  cases fMem (gZone s) e with
  | true => exact h
  | false =>
    cases decide (12 ≤ (gZone s).length) with
    | true => exact k.bare _ h
    | false => exact k.zone _ _ h

theorem on_kept {p : PlanD} {Q : SearchD → Prop} (k : Kept p Q) {rec : PortD → SearchD → SearchD} (hrec : ∀ y s, nextPort p y → Q s → Q (rec y s)) (e stop : Int) {s : SearchD} (h : Q s) : Q (sOn rec e stop s) := by
  unfold sOn
  have hp := k.plan s h
  cases hn : (fNext s.1 (e, stop)).2 with
  | true => exact hrec _ _ ⟨(e, stop), by rw [← hp]; exact hn, by rw [hp]⟩ h
  | false => exact h

theorem points_kept {p : PlanD} {Q : SearchD → Prop} (k : Kept p Q) {rec : PortD → SearchD → SearchD} (hrec : ∀ y s, nextPort p y → Q s → Q (rec y s)) {y : PortD} {s : SearchD} (h : Q s) (hy : nextPort p y)
    (ho : fOwn (sRoad s) y.1 = false) (hk : fKind p y.1 = 2) : Q (sPoints rec y s) := by
  have hz := zone_kept k h y.1
  unfold sPoints
  cases h0 : y.2 == 0 with
  | true =>
    cases (fZone s y.1).1 with
    | true => exact on_kept k hrec _ _ (on_kept k hrec _ _ hz)
    | false => exact hz
  | false =>
    cases h1 : !fHasNeed (gNeeds s) (y.1, y.2) && !fHasNeed (gGuards s) (y.1, y.2) with
    | true =>
      cases h2 : fHasNeed (gGuards s) (y.1, 3 - y.2) with
      | true => exact h
      | false =>
        rw [Bool.and_eq_true] at h1
        exact k.guard s y h hy ho hk h0 (by simpa using h1.2) h2
    | false =>
      cases (fZone s y.1).1 with
      | true => exact on_kept k hrec _ _ hz
      | false => exact hz

theorem new_kept {p : PlanD} {Q : SearchD → Prop} (k : Kept p Q) {rec : PortD → SearchD → SearchD} (hrec : ∀ y s, nextPort p y → Q s → Q (rec y s)) {y : PortD} {s : SearchD} (h : Q s) (hy : nextPort p y)
    (ho : fOwn (sRoad s) y.1 = false) : Q (sNew rec y s) := by
  have hz := zone_kept k h y.1
  have hp := k.plan s h
  unfold sNew
  cases decide (0 ≤ fReads s.1 y) && !s.1.2.2.2.2.2.2.2.2 with
  | true =>
    cases fMem (gHolds s) (fReads s.1 y) with
    | true => exact h
    | false => exact k.hold _ _ h
  | false =>
    cases fKind s.1 y.1 == 4 with
    | true => exact k.bare _ h
    | false =>
      cases hk : fKind s.1 y.1 == 2 with
      | true => exact points_kept k hrec h hy ho (by rw [← hp]; exact eq_of_beq hk)
      | false =>
        cases (fZone s y.1).1 with
        | true => exact on_kept k hrec _ _ hz
        | false => exact hz

theorem come_kept {p : PlanD} {Q : SearchD → Prop} (k : Kept p Q) : ∀ (n : Nat) (y : PortD) (s : SearchD), nextPort p y → Q s → Q (sCome n y s)
  | 0, _, _, _, h => h
  | n + 1, y, s, hy, h => by
    show Q (sStep (sCome n) y s)
    unfold sStep
    cases hb : fOwn (sRoad s) y.1 || fHasPort (gMet s) y with
    | true => exact h
    | false =>
      rw [Bool.or_eq_false_iff] at hb
      refine new_kept k (come_kept k n) (k.met _ _ h) hy ?_
      unfold sRoad at hb ⊢
      exact hb.1

theorem flank_kept {p : PlanD} {Q : SearchD → Prop} (k : Kept p Q) {r : RoadD} (h0 : Q (s0 p r)) : ∀ n, Q (flankUp p r n)
  | 0 => h0
  | n + 1 => on_kept k (come_kept k 161) _ _ (flank_kept k h0 n)

/-- A search of a road: plan, ends, steps and needs. -/
def still (p : PlanD) (r : RoadD) (s : SearchD) : Prop := s.1 = p ∧ s.2.1 = r.1 ∧ s.2.2.1 = r.2.1 ∧ s.2.2.2.1 = r.2.2.1 ∧ gSteps s = r.2.2.2.1 ∧ gNeeds s = r.2.2.2.2.1
theorem still_kept (p : PlanD) (r : RoadD) : Kept p (still p r) where
  plan s h := h.1
  bare s h := h
  zone s z h := h
  hold s z h := h
  met s m h := h
  guard s y h _ _ _ _ _ _ := h

theorem flank_still (p : PlanD) (r : RoadD) : (fFlank p r).1 = r.1 ∧ (fFlank p r).2.1 = r.2.1 ∧ (fFlank p r).2.2.1 = r.2.2.1 ∧ (fFlank p r).2.2.2.1 = r.2.2.2.1 ∧ (fFlank p r).2.2.2.2.1 = r.2.2.2.2.1 := by
  have := flank_kept (still_kept p r) (r := r) ⟨rfl, rfl, rfl, rfl, rfl, rfl⟩ (fPorts p r).length
  obtain ⟨h1, h2, h3, h4, h5, h6⟩ := this
  unfold fFlank sRoad
  exact ⟨h2, h3, h4, h5, h6⟩

/-- A plan that is looked at: what holds of it and of its roads. -/
structure RoadsOk (p : PlanD) : Prop where
  fine : fFine p = true
  check : fCheck p = 0
  short : shortLines p
  made : fMade p = some (fNet p)
  len : (fRoads p).1.length ≤ 64
  road : ∀ r ∈ (fRoads p).1, ∃ q ∈ (fAll p).1, r = fFlank p q

theorem roads_ok {p : PlanD} (h : (fRoads p).2 = true) : RoadsOk p := by
  have hf : fFine p = true := by
    unfold fRoads at h
    cases hf : fFine p with
    | true => rfl
    | false => rw [hf] at h; cases h
  obtain ⟨_, hc, hl⟩ := fine_facts hf
  have hR : (fRoads p).1 = (fBuild p).1.2 ∧ (fBuild p).2 = 0 := by
    unfold fRoads at h ⊢
    rw [hf] at h ⊢
    exact ⟨rfl, eq_of_beq h⟩
  have ha : (fAll p).2 = 0 := by
    have hb := hR.2
    unfold fBuild at hb
    rw [hc] at hb
    cases ha : ((fAll p).2 == 0) with
    | true => exact eq_of_beq ha
    | false =>
      rw [ha] at hb
      have hb : (fAll p).2 = 0 := hb
      rw [hb] at ha
      cases ha
  have hB : (fRoads p).1 = (fAll p).1.map (fFlank p) := by
    rw [hR.1]
    unfold fBuild
    rw [hc, ha]
    rfl
  refine ⟨hf, hc, hl, ?_, ?_, fun r hr => ?_⟩
  · unfold fMade
    rw [hf]
    rfl
  · rw [hB, List.length_map]
    exact all_len p
  · rw [hB] at hr
    obtain ⟨q, hq, e⟩ := List.mem_map.1 hr
    exact ⟨q, hq, e.symm⟩

theorem road_len {p : PlanD} (h : RoadsOk p) {r : RoadD} (hr : r ∈ (fRoads p).1) : r.2.2.2.1.length ≤ 13 ∧ r.2.2.2.2.1.length ≤ 1000 := by
  obtain ⟨q, hq, rfl⟩ := h.road r hr
  obtain ⟨_, h2, h3⟩ := all_ok (check_zero h.check).2.2.1 q hq
  have hs := flank_still p q
  rw [hs.2.2.2.1, hs.2.2.2.2]
  exact ⟨h2, by omega⟩

theorem made_lined {p : PlanD} (h : RoadsOk p) : netLined (fMade p) :=
  ⟨fNet p, h.made, net_lineIn (by have := (sizes_factsQ (check_zero h.check).1).2.2.1; omega)⟩

end YtpnnfimacblhgaaGreat
end Go.Proofs
end

section
set_option maxRecDepth 100000
set_option linter.unusedVariables false
set_option linter.unusedSimpArgs false
set_option maxHeartbeats 2000000
namespace Go.Proofs
open Go Go.Vc
namespace YtpnnfimacblhgaaGreat

theorem v18 : bodyVC (ctxOf tab [(39, c39)]) Tryz.f18 c18 noAnn (()) = (
True ∧
([([(87 : UInt8)], (4 : Int), (0 : Int)), ([(65 : UInt8)], (1 : Int), (20 : Int)), ([(80 : UInt8)], (2 : Int), (10 : Int)), ([(66 : UInt8)], (1 : Int), (20 : Int)),
([(67 : UInt8)], (1 : Int), (30 : Int)), ([(69 : UInt8)], (4 : Int), (0 : Int))],
[(((0 : Int), (0 : Int)), (1 : Int), (0 : Int)), (((1 : Int), (1 : Int)), (2 : Int), (0 : Int)), (((2 : Int), (1 : Int)), (3 : Int), (0 : Int)), (((3 : Int), (1 : Int)), (5 : Int), (0 : Int)),
(((2 : Int), (2 : Int)), (4 : Int), (0 : Int))],
[([(119 : UInt8)], ((0 : Int), (0 : Int)), false), ([(97 : UInt8)], ((1 : Int), (1 : Int)), false), ([(101 : UInt8)], ((5 : Int), (0 : Int)), false),
([(98 : UInt8)], ((3 : Int), (0 : Int)), false), ([(99 : UInt8)], ((4 : Int), (0 : Int)), false)],
(List.replicate (1 : Nat) (([], []) : List UInt8 × List Int)).set (0 : Nat) ([(108 : UInt8)], (List.replicate (1 : Nat) (0 : Int)).set (0 : Nat) (1 : Int)), (10 : Int), (5 : Int), (15 : Int), (2 : Int), false) =
linedP ∧
True) := by kernel_rfl

theorem ok18 : DOk Tryz.prog 18 c18 :=
  DOk.of' (l := [(39, c39)]) (A := fun _ => noAnn) tabOk ⟨ok39, trivial⟩ Tryz.func18 (by kernel_rfl) (by kernel_rfl) fun x hw hp => by
    show bodyVC (ctxOf tab [(39, c39)]) Tryz.f18 c18 noAnn (())
    rw [v18]
    exact ⟨trivial, rfl, trivial⟩

/-! ### The small plan with a line -/

def linedR (k : Nat) : RoadD := (fBuild linedP).1.2.getD k zR
def bookN : BookD := (6, [], [], [], [])
def lineTurn (d : Int) : List (TurnD × Bool) := [((0, d), true)]
theorem lined_fine : fFine linedP = true := by kernel_rfl
theorem lined_build : (fBuild linedP).2 = 0 := by kernel_rfl
theorem lined_len : (fBuild linedP).1.2.length = 6 := by kernel_rfl
theorem lined_steps0 : Nat.ble (linedR 0).2.2.2.1.length 1000 = true := by kernel_rfl
theorem lined_steps4 : Nat.ble (linedR 4).2.2.2.1.length 1000 = true := by kernel_rfl
theorem lined_wants : fWants (fNet linedP) (linedR 0) = [(0, 1)] := by kernel_rfl
theorem lined_may0 : fMayT (some (fNet linedP), []) (linedR 0) [] bookN = 0 := by kernel_rfl
theorem lined_turn0 : fTurned (some (fNet linedP), []) (linedR 0) = lineTurn 1 := by kernel_rfl
theorem lined_may1 : fMayT (some (fNet linedP), lineTurn 1) (linedR 4) [] bookN = 0 := by kernel_rfl
theorem lined_turn1 : fTurned (some (fNet linedP), lineTurn 1) (linedR 4) = lineTurn 2 := by kernel_rfl
theorem lined_may2 : fMayT (some (fNet linedP), lineTurn 1) (linedR 4) [false, true] bookN = 8 := by kernel_rfl

theorem v6 : bodyVC (ctxOf tab [(18, c18), (8, c8), (19, c19), (20, c20), (21, c21), (9, c9p), (22, c22), (23, c23), (24, c24)]) Tryz.f6 c6 noAnn (()) = (
lett
([([(87 : UInt8)], (4 : Int), (0 : Int)), ([(65 : UInt8)], (1 : Int), (20 : Int)), ([(80 : UInt8)], (2 : Int), (10 : Int)), ([(66 : UInt8)], (1 : Int), (20 : Int)),
([(67 : UInt8)], (1 : Int), (30 : Int)), ([(69 : UInt8)], (4 : Int), (0 : Int))],
[(((0 : Int), (0 : Int)), (1 : Int), (0 : Int)), (((1 : Int), (1 : Int)), (2 : Int), (0 : Int)), (((2 : Int), (1 : Int)), (3 : Int), (0 : Int)), (((3 : Int), (1 : Int)), (5 : Int), (0 : Int)),
(((2 : Int), (2 : Int)), (4 : Int), (0 : Int))],
[([(119 : UInt8)], ((0 : Int), (0 : Int)), false), ([(97 : UInt8)], ((1 : Int), (1 : Int)), false), ([(101 : UInt8)], ((5 : Int), (0 : Int)), false),
([(98 : UInt8)], ((3 : Int), (0 : Int)), false), ([(99 : UInt8)], ((4 : Int), (0 : Int)), false)],
[([(108 : UInt8)], [(1 : Int)])], (10 : Int), (5 : Int), (15 : Int), (2 : Int), false)
fun (y0 : PlanD) =>
lett (bif bif (fMade y0).isNone then true else (fBuild y0).snd != (0 : Int) then true else (↑(fBuild y0).fst.snd.length : Int) != (6 : Int)) fun (y1 : Bool) =>
lett ((0 : Int), (0 : Int), (0 : Int), [], [], [], [], [], false) fun (y2 : RoadD) =>
lett ((fBuild y0).fst.snd.getD (Int.toNat (0 : Int)) y2) fun (y3 : RoadD) =>
lett (max (0 : Int) (min (6 : Int) (40 : Int)), [], [], [], [])
fun (y4 : BookD) =>
lett ((fBuild y0).fst.snd.getD (Int.toNat (4 : Int)) y2) fun (y5 : RoadD) =>
lett (fWants (netOf (fMade y0)) y3).length fun (y6 : Nat) =>
lett ((fWants (netOf (fMade y0)) y3).getD (Int.toNat (0 : Int)) ((0 : Int), (0 : Int))) fun (y7 : Int × Int) =>
lett (fMayT (fMade y0, []) y3 [] y4 == (0 : Int)) fun (y8 : Bool) =>
lett (bif y8 then fTurned (fMade y0, []) y3 else []) fun (y9 : List (TurnD × Bool)) =>
lett (fMayT (fMade y0, y9) y5 [] y4 == (0 : Int)) fun (y10 : Bool) =>
lett
(bif
bif
bif bif bif (↑y6 : Int) == (1 : Int) then y7.fst == (0 : Int) && (y7.snd == (1 : Int) && true) else false then y8 else false then fDir y9 (0 : Int) == (1 : Int)
else false then
fMayT (fMade y0, y9) y5 (((List.replicate (2 : Nat) false).set (0 : Nat) false).set (1 : Nat) true) y4 == (8 : Int)
else false then
y10
else false)
fun (y11 : Bool) =>
lett (bif y10 then fTurned (fMade y0, y9) y5 else y9) fun (y12 : List (TurnD × Bool)) =>
lett (bif y11 then fDir y12 (0 : Int) == (2 : Int) else false) fun (y13 : Bool) =>
True ∧
True ∧
shortLines y0 ∧
(y1 = true → false = true ∧ True) ∧
(y1 = false →
True ∧
True ∧
((bif false then true else false) = true → false = true ∧ True) ∧
((bif false then true else false) = false →
InB (0 : Int) (fBuild y0).fst.snd.length ∧
(netLined (fMade y0) ∧ y3.snd.snd.snd.fst.length ≤ (1000 : Nat)) ∧
InB (0 : Int) (fBuild y0).fst.snd.length ∧
((netLined (fMade y0) ∧ y3.snd.snd.snd.fst.length ≤ (1000 : Nat)) ∧ oneOwners y4) ∧
InB (4 : Int) (fBuild y0).fst.snd.length ∧
((netLined (fMade y0) ∧ y5.snd.snd.snd.fst.length ≤ (1000 : Nat)) ∧ oneOwners y4) ∧
True ∧
InB (4 : Int) (fBuild y0).fst.snd.length ∧
((netLined (fMade y0) ∧ y5.snd.snd.snd.fst.length ≤ (1000 : Nat)) ∧ oneOwners y4) ∧
(((↑y6 : Int) == (1 : Int)) = true → InB (0 : Int) y6) ∧
(y11 = true → True) ∧ (y13 = true → True) ∧ (bif y13 then fDir y12 (1 : Int) == (0 : Int) else false) = true ∧ True))) := by kernel_rfl

theorem book_owners {b : BookD} (h : b.2.1 = []) : oneOwners b := fun e x hx => by
  rw [h] at hx
  exact absurd hx List.not_mem_nil

theorem b6 : bodyVC (ctxOf tab [(18, c18), (8, c8), (19, c19), (20, c20), (21, c21), (9, c9p), (22, c22), (23, c23), (24, c24)]) Tryz.f6 c6 noAnn (()) := by
  rw [v6]
  refine lett.mk fun y0 e0 => lett.mk fun y1 e1 => lett.mk fun y2 e2 => lett.mk fun y3 e3 => lett.mk fun y4 e4 => lett.mk fun y5 e5 => lett.mk fun y6 e6 => lett.mk fun y7 e7 => lett.mk fun y8 e8 => lett.mk fun y9 e9 => lett.mk fun y10 e10 => lett.mk fun y11 e11 => lett.mk fun y12 e12 => lett.mk fun y13 e13 => ?_
  have e0 : y0 = linedP := e0
  have hm : fMade linedP = some (fNet linedP) := by unfold fMade; rw [lined_fine]; rfl
  have hlined : netLined (fMade linedP) := ⟨_, hm, net_lineIn (by decide)⟩
  have hsh : shortLines linedP := (fine_facts lined_fine).2.2
  have e3 : y3 = linedR 0 := by rw [e3, e2, e0]; rfl
  have e5 : y5 = linedR 4 := by rw [e5, e2, e0]; rfl
  have e4 : y4 = bookN := e4
  have hn : netOf (fMade linedP) = fNet linedP := by rw [hm]; rfl
  have a1 : y1 = false := by rw [e1, e0, hm, lined_build, lined_len]; rfl
  have a6 : y6 = 1 := by rw [e6, e0, e3, hn, lined_wants]; rfl
  have a7 : y7 = (0, 1) := by rw [e7, e0, e3, hn, lined_wants]; rfl
  have a8 : y8 = true := by rw [e8, e0, e3, e4, hm, lined_may0]; rfl
  have a9 : y9 = lineTurn 1 := by rw [e9, a8, e0, e3, hm, lined_turn0]; rfl
  have a10 : y10 = true := by rw [e10, a9, e0, e5, e4, hm, lined_may1]; rfl
  have a12 : y12 = lineTurn 2 := by rw [e12, a10, a9, e0, e5, hm, lined_turn1]; rfl
  have a11 : y11 = true := by
    rw [e11, a6, a7, a8, a9, a10, e0, hm, e5, e4]
    show (bif bif fDir (lineTurn 1) 0 == 1 then fMayT (some (fNet linedP), lineTurn 1) (linedR 4) [false, true] bookN == 8 else false then true else false) = true
    rw [lined_may2, show fDir (lineTurn 1) 0 = 1 by kernel_rfl]
    rfl
  have a13 : y13 = true := by rw [e13, a11, a12, show fDir (lineTurn 2) 0 = 2 by kernel_rfl]; rfl
  have h3 : y3.2.2.2.1.length ≤ 1000 := by rw [e3]; exact Nat.le_of_ble_eq_true lined_steps0
  have h5 : y5.2.2.2.1.length ≤ 1000 := by rw [e5]; exact Nat.le_of_ble_eq_true lined_steps4
  have hb : oneOwners y4 := book_owners (by rw [e4]; rfl)
  rw [e0, lined_len, a1, a12, a13, show fDir (lineTurn 2) 1 = 0 by kernel_rfl]
  exact ⟨trivial, trivial, hsh, fun h => Bool.noConfusion h, fun _ => ⟨trivial, trivial, fun h => Bool.noConfusion h, fun _ => ⟨⟨by decide, by decide⟩, ⟨hlined, h3⟩, ⟨by decide, by decide⟩, ⟨⟨hlined, h3⟩, hb⟩, ⟨by decide, by decide⟩, ⟨⟨hlined, h5⟩, hb⟩, trivial, ⟨by decide, by decide⟩, ⟨⟨hlined, h5⟩, hb⟩, fun _ => ⟨by decide, by rw [a6]; decide⟩, fun _ => trivial, fun _ => trivial, rfl, trivial⟩⟩⟩

theorem ok6 : DOk Tryz.prog 6 c6 :=
  DOk.of' (l := [(18, c18), (8, c8), (19, c19), (20, c20), (21, c21), (9, c9p), (22, c22), (23, c23), (24, c24)]) (A := fun _ => noAnn) tabOk ⟨ok18, ok8, ok19, ok20, ok21, ok9p, ok22, ok23, ok24, trivial⟩ Tryz.func6 (by kernel_rfl) (by kernel_rfl) fun x hw hp => b6

/-! ### The law of Wants -/

theorem v3 (p : PlanD) (i : Int) : bodyVC (ctxOf tab [(6, c6), (7, c7), (8, c8), (9, c9p), (10, c10)]) Tryz.f3 c3 (a3 (p, i, ())) (p, i, ()) = (
lett (bif !(fRoads p).snd then true else (↑(fRoads p).fst.length : Int) == (0 : Int)) fun (y2 : Bool) =>
lett (i.tmod (↑(fRoads p).fst.length : Int)) fun (y3 : Int) =>
lett ((fRoads p).fst.getD y3.toNat ((0 : Int), (0 : Int), (0 : Int), [], [], [], [], [], false))
fun (y4 : RoadD) =>
lett (fWants (netOf (fMade p)) y4).length fun (y5 : Nat) =>
lett ((↑y5 : Int) != (↑(fWantsR p y4).length : Int)) fun (y6 : Bool) =>
lett (fWants (netOf (fMade p)) y4).length fun (y7 : Nat) =>
True ∧
((!true) = true → false = true ∧ True) ∧
((!true) = false →
True ∧
(y2 = true → true = true ∧ True) ∧
(y2 = false →
True ∧
((fMade p).isNone = true → false = true ∧ True) ∧
((fMade p).isNone = false →
(↑(fRoads p).fst.length : Int) ≠ (0 : Int) ∧
InB y3 (fRoads p).fst.length ∧
(netLined (fMade p) ∧ y4.snd.snd.snd.fst.length ≤ (1000 : Nat)) ∧
(↑(fRoads p).fst.length : Int) ≠ (0 : Int) ∧
InB y3 (fRoads p).fst.length ∧
((fCheck p = (0 : Int) ∧ shortLines p) ∧ y4.snd.snd.snd.fst.length ≤ (1000 : Nat)) ∧
(y6 = true → false = true ∧ True) ∧
(y6 = false →
(∃ (s08 : Nat),
(s08 ≤ y7 ∧ True) ∧ (↑s08 : Int) = (0 : Int) ∧ fWants (netOf (fMade p)) y4 = fWants (netOf (fMade p)) y4 ∧ fWantsR p y4 = fWantsR p y4 ∧ True) ∧
∀ (s8 : Nat),
lett (decide ((↑s8 : Int) < (↑y5 : Int))) fun (y9 : Bool) =>
lett ((fWants (netOf (fMade p)) y4).getD (↑s8 : Int).toNat ((0 : Int), (0 : Int))) fun (y10 : Int × Int) =>
lett ((fWantsR p y4).getD (↑s8 : Int).toNat ((0 : Int), (0 : Int))) fun (y11 : Int × Int) =>
lett (bif y10.fst != y11.fst then true else y10.snd != y11.snd) fun (y12 : Bool) =>
s8 ≤ y7 ∧ True →
(y9 = true →
InB (↑s8 : Int) y5 ∧
InB (↑s8 : Int) (fWantsR p y4).length ∧
((y10.fst != y11.fst) = false → InB (↑s8 : Int) y5) ∧
((y10.fst != y11.fst) = false → InB (↑s8 : Int) (fWantsR p y4).length) ∧
(y12 = true → false = true ∧ True) ∧
(y12 = false →
InR IntKind.i64 ((↑s8 : Int) + (1 : Int)) ∧
∃ (s'13 : Nat),
(s'13 ≤ y7 ∧ True) ∧
y7 - s'13 < y7 - s8 ∧
(↑s'13 : Int) = (↑s8 : Int) + (1 : Int) ∧
fWants (netOf (fMade p)) y4 = fWants (netOf (fMade p)) y4 ∧ fWantsR p y4 = fWantsR p y4 ∧ True)) ∧
(y9 = false → true = true ∧ True)))))) := by kernel_rfl

theorem b3 (p : PlanD) (k : Int) (hk : 0 ≤ k ∧ k ≤ 255) : bodyVC (ctxOf tab [(6, c6), (7, c7), (8, c8), (9, c9p), (10, c10)]) Tryz.f3 c3 (a3 (p, k, ())) (p, k, ()) := by
  rw [v3]
  refine lett.mk fun y2 e2 => lett.mk fun y3 e3 => lett.mk fun y4 e4 => lett.mk fun y5 e5 => lett.mk fun y6 e6 => lett.mk fun y7 e7 => ?_
  refine ⟨trivial, fun h => Bool.noConfusion h, fun _ => ⟨trivial, fun _ => ⟨rfl, trivial⟩, fun h2 => ?_⟩⟩
  rw [e2] at h2
  obtain ⟨h2, hne⟩ := bif_or h2
  have hR := roads_ok (p := p) (by simpa using h2)
  rw [eqN' _ 0 0 rfl] at hne
  have hne := of_decide_eq_false hne
  have h3 : 0 ≤ y3 ∧ y3 < (fRoads p).1.length := by
    rw [e3, Int.tmod_eq_emod_of_nonneg hk.1]
    exact ⟨Int.emod_nonneg _ (by omega), Int.emod_lt_of_pos _ (by omega)⟩
  have e4 : y4 = (fRoads p).1.getD y3.toNat zR := e4
  have hm : y4 ∈ (fRoads p).1 := by rw [e4]; exact mem_getD zR (by omega)
  have hl := (road_len hR hm).1
  have hn : netOf (fMade p) = fNet p := by rw [hR.made]; rfl
  have hW : fWants (netOf (fMade p)) y4 = fWantsR p y4 := by rw [hn]; exact wants_eq hR.check y4
  have hfl := fwants_len (made_lined hR) y4
  rw [hW] at e5 e7 hfl ⊢
  have h57 : y7 = y5 := by rw [e5]; exact e7
  subst h57
  have h6 : y6 = false := by rw [e6, e5]; simp
  simp only [true_and, and_true, eq_self]
  refine ⟨fun h => by rw [hR.made] at h; exact Bool.noConfusion h, fun _ => ⟨by omega, ⟨h3.1, h3.2⟩, ⟨made_lined hR, by omega⟩, by omega, ⟨h3.1, h3.2⟩, ⟨⟨hR.check, hR.short⟩, by omega⟩, fun h => by rw [h6] at h; exact Bool.noConfusion h, fun _ => ⟨⟨0, by omega, by omega⟩, fun s => lett.mk fun y9 e9 => lett.mk fun y10 e10 => lett.mk fun y11 e11 => lett.mk fun y12 e12 => fun hs => ⟨fun h => ?_, fun _ => trivial⟩⟩⟩⟩
  have hs' := lt_of_y e9 h
  have h12 : y12 = false := by
    rw [e12, e10, e11]
    simp
  refine ⟨⟨by omega, by omega⟩, ⟨by omega, by omega⟩, fun _ => ⟨by omega, by omega⟩, fun _ => ⟨by omega, by omega⟩, fun h => by rw [h12] at h; exact Bool.noConfusion h, fun _ => ⟨inR64 (by omega) (by omega), s + 1, by omega, by omega, by omega⟩⟩

theorem ok3 : DOk Tryz.prog 3 c3 :=
  DOk.of' (l := [(6, c6), (7, c7), (8, c8), (9, c9p), (10, c10)]) (A := a3) tabOk ⟨ok6, ok7, ok8, ok9p, ok10, trivial⟩ Tryz.func3 (by kernel_rfl) (by kernel_rfl) fun x hw hp => b3 x.1 x.2.1 (inR_u8 hw.2.1)

end YtpnnfimacblhgaaGreat
end Go.Proofs
end

section
set_option maxRecDepth 100000
set_option linter.unusedVariables false
namespace Go.Proofs
open Go Go.Vc

namespace YtpnnfimacblhgaaGreat
def anyLoop {α : Type} (q : α → Bool) (xs : List α) (slot : Nat) (keep keepB : List Nat) : LA where
  σ := Nat
  ok := fun k => k ≤ xs.length ∧ (xs.take k).any q = false
  mu := fun k => xs.length - k
  sl := fun k => [(slot, .one (.dat I (k : Int)))]
  bl := fun _ => []
  keep := keep
  keepB := keepB

def c33d : DCon where
  args := [RoadT]
  out := .data [.list I]
  pre := fun (x : RoadD × Unit) => x.1.2.2.2.1.length ≤ 1000000
  fn := fun (x : RoadD × Unit) => (fElems x.1, ())
@[irreducible] def fMeets (a b : List Int) : Bool := a.any fun x => fMem b x
def c34 : DCon where
  args := [.list I, .list I]
  out := .data [.bool]
  pre := fun (x : List Int × List Int × Unit) => True
  fn := fun (x : List Int × List Int × Unit) => (fMeets x.1 x.2.1, ())
def a34 (x : List Int × List Int × Unit) : Ann := loopAnn [(2, fun _ => anyLoop (fun y => fMem x.2.1 y) x.1 5 [0, 1] [])]
def clash (x y : NeedD) : Bool := x.1 == y.1 && !(x.2 == y.2)
@[irreducible] def fAgainst (a b : List NeedD) : Bool := a.any fun x => b.any fun y => clash x y
def c35 : DCon where
  args := [.list NeedT, .list NeedT]
  out := .data [.bool]
  pre := fun (x : List NeedD × List NeedD × Unit) => True
  fn := fun (x : List NeedD × List NeedD × Unit) => (fAgainst x.1 x.2.1, ())
def a35 (x : List NeedD × List NeedD × Unit) : Ann := loopAnn [(2, fun _ => anyLoop (fun u => x.2.1.any fun v => clash u v) x.1 5 [0, 1] []),
  (5, fun S => anyLoop (fun v => clash (x.1.getD (slotI S 5).toNat (0, 0)) v) x.2.1 6 [0, 1, 5] [])]
def roadSmall (r : RoadD) : Prop := r.2.2.2.1.length ≤ 1000 ∧ r.2.2.2.2.1.length ≤ 1000 ∧ r.2.2.2.2.2.1.length ≤ 1000
@[irreducible] def fNeedsAll (r : RoadD) : List NeedD := r.2.2.2.2.1 ++ r.2.2.2.2.2.1
def c36 : DCon where
  args := [RoadT]
  out := .row 62 NeedT
  pre := fun (x : RoadD × Unit) => roadSmall x.1
  fn := fun (x : RoadD × Unit) => (fNeedsAll x.1, ())
def c36d : DCon where
  args := [RoadT]
  out := .data [.list NeedT]
  pre := fun (x : RoadD × Unit) => roadSmall x.1
  fn := fun (x : RoadD × Unit) => (fNeedsAll x.1, ())
def sideways (p : PlanD) (s t : StepD) : Bool := decide (0 ≤ (fLineOf p s.1).1) && ((fLineOf p s.1).1 == (fLineOf p t.1).1 && !(fLeadOf p s.1 s.2.1 == fLeadOf p t.1 t.2.1))
@[irreducible] def fBothWays (p : PlanD) (a b : RoadD) : Bool := a.2.2.2.1.any fun s => b.2.2.2.1.any fun t => sideways p s t
def c37 : DCon where
  args := [PlanT, RoadT, RoadT]
  out := .data [.bool]
  pre := fun (x : PlanD × RoadD × RoadD × Unit) => (fCheck x.1 = 0 ∧ shortLines x.1) ∧ roadSmall x.2.1 ∧ roadSmall x.2.2.1
  fn := fun (x : PlanD × RoadD × RoadD × Unit) => (fBothWays x.1 x.2.1 x.2.2.1, ())
def a37 (x : PlanD × RoadD × RoadD × Unit) : Ann := loopAnn [(2, fun _ => anyLoop (fun s => x.2.2.1.2.2.2.1.any fun t => sideways x.1 s t) x.2.1.2.2.2.1 7 [3, 4, 5] [3, 4, 5]),
  (5, fun S => anyLoop (fun t => sideways x.1 (x.2.1.2.2.2.1.getD (slotI S 7).toNat zSt) t) x.2.2.1.2.2.2.1 8 [3, 4, 5, 7] [3, 4, 5])]
@[irreducible] def fWhy (p : PlanD) (a b : RoadD) : Int :=
  bif a.1 == b.1 then 1 else bif fMeets (fElems a) (fElems b) then 2 else bif fMeets (fElems a) b.2.2.2.2.2.2.1 || fMeets a.2.2.2.2.2.2.1 (fElems b) then 3 else
    bif fAgainst (fNeedsAll a) (fNeedsAll b) then 4 else bif fBothWays p a b then 5 else 0
def c13 : DCon where
  args := [PlanT, RoadT, RoadT]
  out := .data [I]
  pre := fun (x : PlanD × RoadD × RoadD × Unit) => (fCheck x.1 = 0 ∧ shortLines x.1) ∧ roadSmall x.2.1 ∧ roadSmall x.2.2.1
  fn := fun (x : PlanD × RoadD × RoadD × Unit) => (fWhy x.1 x.2.1 x.2.2.1, ())

/-! ### The law -/

@[irreducible] def rAt (p : PlanD) (i : Int) : RoadD := (fRoads p).1.getD (i.tmod ((fRoads p).1.length : Int)).toNat zR
def a4 (x : PlanD × Int × Int × Unit) : Ann := loopAnn [(12, fun S => upLoop (slotTurns S 12).length (fun _ => True) 14 [3, 9, 10, 11, 12, 13] [3, 10, 11]),
  (15, fun S => upLoop (rAt x.1 x.2.1).2.2.2.1.length (fun _ => True) 15 [3, 9, 10, 11, 12, 13, 14] [3, 10, 11]),
  (21, fun S => upLoop (slotTurns S 13).length (fun _ => True) 18 [3, 9, 10, 11, 12, 13, 14] [3, 10, 11])]

end YtpnnfimacblhgaaGreat
end Go.Proofs
end

section
set_option maxRecDepth 100000
set_option linter.unusedVariables false
set_option linter.unusedSimpArgs false
set_option maxHeartbeats 2000000
namespace Go.Proofs
open Go Go.Vc
namespace YtpnnfimacblhgaaGreat

/-! ### Joins lead back -/

theorem ends_mem (p : PlanD) (x : PortD) : x ∈ joinEnds p ↔ ∃ j ∈ p.2.1, x = j.1 ∨ x = j.2 := by
  unfold joinEnds
  rw [List.mem_flatMap]
  constructor
  · rintro ⟨j, hj, hx⟩
    exact ⟨j, hj, by simpa using hx⟩
  · rintro ⟨j, hj, hx⟩
    exact ⟨j, hj, by simpa using hx⟩

theorem ends_nodup {p : PlanD} (h : fJoined p = true) : (joinEnds p).Nodup := by
  rw [joined_eq, Bool.and_eq_true] at h
  have h := h.1
  show List.Pairwise _ _
  rw [List.pairwise_iff_getElem]
  intro i j hi hj hij e
  have := allTo_iff.1 h j hj
  unfold endOk at this
  rw [Bool.and_eq_true] at this
  have h2 : anyTo (fun k => (joinEnds p).getD k zP == (joinEnds p).getD j zP) j = false := by simpa using this.2
  have := anyTo_none.1 h2 i hij
  rw [getD_at zP hi, getD_at zP hj, e] at this
  simp at this

/-- Of ends that differ from one another, two joins that share one are the same. -/
theorem join_one : ∀ {l : List JoinD}, (l.flatMap fun j => [j.1, j.2]).Nodup → ∀ {j k : JoinD} {x : PortD}, j ∈ l → k ∈ l → (x = j.1 ∨ x = j.2) → (x = k.1 ∨ x = k.2) → j = k
  | [], _, _, _, _, hj, _, _, _ => absurd hj List.not_mem_nil
  | a :: l, hn, j, k, x, hj, hk, hx, hy => by
    rw [List.flatMap_cons, List.nodup_append] at hn
    obtain ⟨_, h2, h3⟩ := hn
    have out : ∀ {m : JoinD}, m ∈ l → (x = m.1 ∨ x = m.2) → (x = a.1 ∨ x = a.2) → False := fun {m} hm h h' =>
      h3 x (by simpa using h') x (List.mem_flatMap.2 ⟨m, hm, by simpa using h⟩) rfl
    rcases List.mem_cons.1 hj with ej | mj
    · rcases List.mem_cons.1 hk with ek | mk
      · rw [ej, ek]
      · exact (out mk hy (by rw [← ej]; exact hx)).elim
    · rcases List.mem_cons.1 hk with ek | mk
      · exact (out mj hx (by rw [← ek]; exact hy)).elim
      · exact join_one h2 mj mk hx hy

theorem join_two : ∀ {l : List JoinD}, (l.flatMap fun j => [j.1, j.2]).Nodup → ∀ {j : JoinD}, j ∈ l → j.1 ≠ j.2
  | [], _, _, hj => absurd hj List.not_mem_nil
  | a :: l, hn, j, hj => by
    rw [List.flatMap_cons, List.nodup_append] at hn
    rcases List.mem_cons.1 hj with rfl | hj
    · have := hn.1
      intro e
      rw [e] at this
      simp at this
    · exact join_two hn.2.1 hj

theorem next_join {p : PlanD} {x : PortD} (h : (fNext p x).2 = true) : ∃ j ∈ p.2.1, (x = j.1 ∧ (fNext p x).1 = j.2) ∨ (x = j.2 ∧ x ≠ j.1 ∧ (fNext p x).1 = j.1) := by
  unfold fNext at h ⊢
  cases hf : p.2.1.find? (fun j => j.1 == x || j.2 == x) with
  | none => rw [hf] at h; cases h
  | some j =>
    refine ⟨j, List.mem_of_find?_eq_some hf, ?_⟩
    have hq := List.find?_some hf
    show (x = j.1 ∧ (bif j.1 == x then j.2 else j.1) = j.2) ∨ (x = j.2 ∧ x ≠ j.1 ∧ (bif j.1 == x then j.2 else j.1) = j.1)
    cases h1 : (j.1 == x) with
    | true => exact .inl ⟨(eq_of_beq h1).symm, rfl⟩
    | false =>
      rw [h1] at hq
      have hq : (j.2 == x) = true := hq
      exact .inr ⟨(eq_of_beq hq).symm, fun e => by rw [e] at h1; simp at h1, rfl⟩

theorem join_next {p : PlanD} (hJ : fJoined p = true) {j : JoinD} (hj : j ∈ p.2.1) : fNext p j.1 = (j.2, true) ∧ fNext p j.2 = (j.1, true) := by
  have hn : (p.2.1.flatMap fun j => [j.1, j.2]).Nodup := ends_nodup hJ
  have h12 := join_two hn hj
  have key : ∀ x, (x = j.1 ∨ x = j.2) → p.2.1.find? (fun j => j.1 == x || j.2 == x) = some j := fun x hx => by
    cases hf : p.2.1.find? (fun j => j.1 == x || j.2 == x) with
    | none =>
      have := List.find?_eq_none.1 hf j hj
      rcases hx with e | e <;> simp [e] at this
    | some k =>
      have hk := List.mem_of_find?_eq_some hf
      have hq : (k.1 == x || k.2 == x) = true := by simpa using List.find?_some hf
      congr 1
      refine (join_one hn hj hk hx ?_).symm
      rw [Bool.or_eq_true] at hq
      rcases hq with hq | hq
      · exact .inl (eq_of_beq hq).symm
      · exact .inr (eq_of_beq hq).symm
  constructor
  · unfold fNext
    rw [key _ (.inl rfl)]
    show ((bif j.1 == j.1 then j.2 else j.1), true) = _
    simp
  · unfold fNext
    rw [key _ (.inr rfl)]
    show ((bif j.1 == j.2 then j.2 else j.1), true) = _
    rw [beq_false_of_ne h12]
    rfl

/-- What an end is joined to is joined to it. -/
theorem next_back {p : PlanD} (hJ : fJoined p = true) {x y : PortD} (h : fNext p x = (y, true)) : fNext p y = (x, true) := by
  obtain ⟨j, hj, h1⟩ := next_join (p := p) (x := x) (by rw [h])
  obtain ⟨n1, n2⟩ := join_next hJ hj
  rw [h] at h1
  rcases h1 with ⟨e, e'⟩ | ⟨e, _, e'⟩
  · have e' : y = j.2 := e'
    rw [e', e, n2]
  · have e' : y = j.1 := e'
    rw [e', e, n1]

/-! ### Steps that follow one another -/

def outPort (s : StepD) : PortD := (s.1, s.2.2)
def inPort (s : StepD) : PortD := (s.1, s.2.1)
def stepAt (l : List StepD) (t : Nat) : StepD := l.getD t zSt
def chained (p : PlanD) (l : List StepD) : Prop := ∀ t, t + 1 < l.length → fNext p (outPort (stepAt l t)) = (inPort (stepAt l (t + 1)), true)
/-- A way through the element of a step, or a gate. -/
def passes (p : PlanD) (s : StepD) : Prop := fKind p s.1 = 4 ∨ ∃ w ∈ fOuts p s.1 s.2.1, w.1 = s.2.2
/-- A need of a step. -/
def needOf (p : PlanD) (l : List StepD) (n : NeedD) : Prop := (∃ s ∈ l, s.1 = n.1) ∧ (n.2 = 1 ∨ n.2 = 2)

structure Run (p : PlanD) (q : RoadD) : Prop where
  chain : chained p q.2.2.2.1
  nodup : (q.2.2.2.1.map Prod.fst).Nodup
  pass : ∀ s ∈ q.2.2.2.1, passes p s
  need : ∀ n ∈ q.2.2.2.2.1, needOf p q.2.2.2.1 n
  once : (q.2.2.2.2.1.map Prod.fst).Nodup

theorem stepAt_old {l : List StepD} {s : StepD} {t : Nat} (h : t < l.length) : stepAt (l ++ [s]) t = stepAt l t := by
  unfold stepAt
  rw [List.getD_eq_getElem?_getD, List.getElem?_append_left h, ← List.getD_eq_getElem?_getD]
theorem stepAt_new (l : List StepD) (s : StepD) : stepAt (l ++ [s]) l.length = s := by
  unfold stepAt
  rw [List.getD_eq_getElem?_getD, List.getElem?_append_right (Nat.le_refl _)]
  simp

/-- A road on its way: it has come to 'x'; 'met' has all its elements. -/
structure Going (p : PlanD) (q : RoadD) (x : PortD) (met : List Int) : Prop where
  run : Run p q
  last : q.2.2.2.1.length ≠ 0 → fNext p (outPort (stepAt q.2.2.2.1 (q.2.2.2.1.length - 1))) = (x, true)
  met : ∀ s ∈ q.2.2.2.1, s.1 ∈ met

theorem with_needs_eq (r : RoadD) (s : StepD) (pos stop to : Int) : (fWith r s pos stop to).2.2.2.2.1 = r.2.2.2.2.1 ++ (bif pos == 0 then [] else [(s.1, pos)]) := by unfold fWith; rfl

theorem run_with {p : PlanD} {q : RoadD} {x : PortD} {met : List Int} (g : Going p q x met) (hx : x.1 ∉ met) {o pos : Int} (stop to : Int) (hp : passes p (x.1, x.2, o)) (hpos : pos = 0 ∨ pos = 1 ∨ pos = 2) : Run p (fWith q (x.1, x.2, o) pos stop to) := by
  have hnew : ∀ s ∈ q.2.2.2.1, s.1 ≠ x.1 := fun s hs e => hx (by rw [← e]; exact g.met s hs)
  constructor
  · rw [with_steps]
    intro t ht
    rw [List.length_append] at ht
    have ht : t + 1 < q.2.2.2.1.length + 1 := ht
    by_cases h : t + 1 < q.2.2.2.1.length
    · rw [stepAt_old h, stepAt_old (by omega)]
      exact g.run.chain t h
    · have e : t + 1 = q.2.2.2.1.length := by omega
      rw [e, stepAt_new, stepAt_old (by omega)]
      have := g.last (by omega)
      rw [show q.2.2.2.1.length - 1 = t by omega] at this
      exact this
  · rw [with_steps, List.map_append, List.nodup_append]
    refine ⟨g.run.nodup, by simp, fun a ha b hb e => ?_⟩
    obtain ⟨s, hs, rfl⟩ := List.mem_map.1 ha
    have hb : b = x.1 := by simpa using hb
    exact hnew s hs (e.trans hb)
  · rw [with_steps]
    intro s hs
    rcases List.mem_append.1 hs with hs | hs
    · exact g.run.pass s hs
    · rw [List.mem_singleton.1 hs]; exact hp
  · rw [with_steps, with_needs_eq]
    intro n hn
    rcases List.mem_append.1 hn with hn | hn
    · obtain ⟨⟨s, hs, e⟩, h2⟩ := g.run.need n hn
      exact ⟨⟨s, List.mem_append_left _ hs, e⟩, h2⟩
    · cases h0 : (pos == 0) with
      | true => rw [h0] at hn; exact absurd hn List.not_mem_nil
      | false =>
        rw [h0] at hn
        have hn : n = (x.1, pos) := List.mem_singleton.1 hn
        rw [hn]
        refine ⟨⟨(x.1, x.2, o), List.mem_append_right _ (List.mem_singleton.2 rfl), rfl⟩, ?_⟩
        rcases hpos with h | h | h
        · rw [h] at h0; cases h0
        · exact .inl h
        · exact .inr h
  · rw [with_needs_eq, List.map_append, List.nodup_append]
    refine ⟨g.run.once, ?_, fun a ha b hb e => ?_⟩
    · cases (pos == 0) with
      | true => exact List.nodup_nil
      | false => show ([x.1] : List Int).Nodup; simp
    · obtain ⟨n, hn, rfl⟩ := List.mem_map.1 ha
      obtain ⟨⟨s, hs, e1⟩, _⟩ := g.run.need n hn
      cases h0 : (pos == 0) with
      | true => rw [h0] at hb; exact absurd hb List.not_mem_nil
      | false =>
        rw [h0] at hb
        have hb : b = x.1 := by
          have hb : b ∈ [x.1] := hb
          exact List.mem_singleton.1 hb
        exact hnew s hs (by rw [e1, e, hb])

theorem outs_pos {p : PlanD} {e i : Int} {w : Int × Int} (hw : w ∈ fOuts p e i) : w.2 = 0 ∨ w.2 = 1 ∨ w.2 = 2 := by
  have hh : fHas p (e, i) = true := by
    cases hh : fHas p (e, i) with
    | true => rfl
    | false => unfold fOuts at hw; rw [hh] at hw; cases hw
  unfold fOuts at hw
  rw [hh] at hw
  have hw : w ∈ (bif fKind p e == 1 then [(1 - i, 0)] else bif fKind p e == 3 then [(fCross i, 0)] else bif fKind p e == 2 then (bif i == 0 then [(1, 1), (2, 2)] else [(0, i)]) else []) := hw
  cases h1 : fKind p e == 1 with
  | true => rw [h1] at hw; rw [List.mem_singleton.1 hw]; exact .inl rfl
  | false =>
    rw [h1] at hw
    have hw : w ∈ (bif fKind p e == 3 then [(fCross i, 0)] else bif fKind p e == 2 then (bif i == 0 then [(1, 1), (2, 2)] else [(0, i)]) else []) := hw
    cases h3 : fKind p e == 3 with
    | true => rw [h3] at hw; rw [List.mem_singleton.1 hw]; exact .inl rfl
    | false =>
      rw [h3] at hw
      have hw : w ∈ (bif fKind p e == 2 then (bif i == 0 then [(1, 1), (2, 2)] else [(0, i)]) else []) := hw
      cases h2 : fKind p e == 2 with
      | false => rw [h2] at hw; exact absurd hw List.not_mem_nil
      | true =>
        rw [h2] at hw
        have hw : w ∈ (bif i == 0 then [(1, 1), (2, 2)] else [(0, i)]) := hw
        cases h0 : (i == 0) with
        | true =>
          rw [h0] at hw
          have hw : w = (1, 1) ∨ w = (2, 2) := by simpa using hw
          rcases hw with rfl | rfl
          · exact .inr (.inl rfl)
          · exact .inr (.inr rfl)
        | false =>
          rw [h0] at hw
          have hw : w = (0, i) := List.mem_singleton.1 hw
          rw [hw]
          have hk : fKind p e = 2 := eq_of_beq h2
          unfold fHas at hh
          have hh : (decide (0 ≤ e) && (decide (e < (p.1.length : Int)) && (decide (0 ≤ i) && decide (i < fEnds (fKind p e))))) = true := hh
          rw [hk, show fEnds 2 = 3 by unfold fEnds; rfl] at hh
          simp only [Bool.and_eq_true, decide_eq_true_eq] at hh
          have : i ≠ 0 := fun e => by rw [e] at h0; cases h0
          show i = 0 ∨ i = 1 ∨ i = 2
          omega

theorem on_run {p : PlanD} : ∀ (n : Nat) (r : RoadD) (x : PortD) (met : List Int), Going p r x met → ∀ q ∈ fOn p n r x met, Run p q
  | 0, _, _, _, _, q, hq => absurd hq List.not_mem_nil
  | n + 1, r, x, met, g, q, hq => by
    have hq : q ∈ onStep p (fOn p n) r x met := hq
    unfold onStep at hq
    cases h1 : fMem met x.1 || decide (r.2.2.2.1.length = 12) with
    | true => rw [h1] at hq; cases hq
    | false =>
      rw [h1] at hq
      have hx : x.1 ∉ met := fun hx => by
        have := (Bool.or_eq_false_iff.1 h1).1
        unfold fMem at this
        have := List.any_eq_false.1 this _ hx
        simp at this
      cases h2 : fKind p x.1 == 4 with
      | true =>
        rw [h2] at hq
        have hq : q = fWith r (x.1, x.2, -1) 0 2 (-1) := by simpa using hq
        rw [hq]
        exact run_with g hx 2 (-1) (.inl (eq_of_beq h2)) (.inl rfl)
      | false =>
        rw [h2] at hq
        have hq : q ∈ onWays p (fOn p n) r x (met ++ [x.1]) (fOuts p x.1 x.2).length := hq
        unfold onWays at hq
        rw [List.take_length] at hq
        obtain ⟨w, hw, hq⟩ := List.mem_flatMap.1 hq
        have hp : passes p (x.1, x.2, w.1) := .inr ⟨w, hw, rfl⟩
        have hpos := outs_pos hw
        unfold onWay at hq
        cases h3 : decide (0 ≤ fReads p (x.1, w.1)) with
        | true =>
          rw [h3] at hq
          have hq : q = fWith r (x.1, x.2, w.1) w.2 1 (fReads p (x.1, w.1)) := by simpa using hq
          rw [hq]
          exact run_with g hx _ _ hp hpos
        | false =>
          rw [h3] at hq
          cases h4 : (fNext p (x.1, w.1)).2 with
          | false =>
            rw [h4] at hq
            have hq : q = fWith r (x.1, x.2, w.1) w.2 3 (-1) := by simpa using hq
            rw [hq]
            exact run_with g hx _ _ hp hpos
          | true =>
            rw [h4] at hq
            have hq : q ∈ fOn p n (fWith r (x.1, x.2, w.1) w.2 0 (-1)) (fNext p (x.1, w.1)).1 (met ++ [x.1]) := hq
            refine on_run n _ _ _ ⟨run_with g hx _ _ hp hpos, fun _ => ?_, fun s hs => ?_⟩ q hq
            · rw [with_steps, List.length_append]
              show fNext p (outPort (stepAt _ (r.2.2.2.1.length + 1 - 1))) = _
              rw [Nat.add_sub_cancel, stepAt_new, ← h4]
              rfl
            · rw [with_steps] at hs
              rcases List.mem_append.1 hs with hs | hs
              · exact List.mem_append_left _ (g.met s hs)
              · rw [List.mem_singleton.1 hs]
                exact List.mem_append_right _ (List.mem_singleton.2 rfl)

theorem all_run {p : PlanD} : ∀ q ∈ (fAll p).1, Run p q := by
  intro q hq
  unfold fAll at hq
  cases h : anyTo (allLong p) p.2.2.1.length with
  | true => rw [h] at hq; cases hq
  | false =>
    rw [h] at hq
    have hq : q ∈ allUp p p.2.2.1.length := hq
    unfold allUp at hq
    obtain ⟨s, _, hq⟩ := List.mem_flatMap.1 hq
    unfold fOf at hq
    cases h1 : (fAt p (s : Int)).2 with
    | false => rw [h1] at hq; cases hq
    | true =>
      rw [h1] at hq
      cases h2 : (fNext p (fAt p (s : Int)).1).2 with
      | false => rw [h2] at hq; cases hq
      | true =>
        rw [h2] at hq
        have h0 : Run p (roadFrom (s : Int)) := ⟨fun t ht => absurd ht (by show ¬ t + 1 < 0; omega), List.nodup_nil, fun s hs => absurd hs List.not_mem_nil, fun n hn => absurd hn List.not_mem_nil, List.nodup_nil⟩
        exact on_run 13 _ _ _ ⟨h0, fun h => absurd rfl h, fun s hs => absurd hs List.not_mem_nil⟩ q hq

theorem road_run {p : PlanD} (h : RoadsOk p) {r : RoadD} (hr : r ∈ (fRoads p).1) : Run p r := by
  obtain ⟨q, hq, rfl⟩ := h.road r hr
  have hs := flank_still p q
  have := all_run q hq
  constructor
  · rw [hs.2.2.2.1]; exact this.chain
  · rw [hs.2.2.2.1]; exact this.nodup
  · rw [hs.2.2.2.1]; exact this.pass
  · rw [hs.2.2.2.1, hs.2.2.2.2]; exact this.need
  · rw [hs.2.2.2.2]; exact this.once

/-! ### A row of tracks -/

/-- Tracks that follow one another, each with the end by which one comes in. -/
structure Row (p : PlanD) (C : Nat → PortD) (m : Nat) : Prop where
  track : ∀ k, k < m → fKind p (C k).1 = 1
  ends : ∀ k, k < m → (C k).2 = 0 ∨ (C k).2 = 1
  next : ∀ k, k + 1 < m → fNext p ((C k).1, 1 - (C k).2) = (C (k + 1), true)
  apart : ∀ j k, j < m → k < m → (C j).1 = (C k).1 → j = k

/-- The same row the other way. -/
def revRow (C : Nat → PortD) (m : Nat) (k : Nat) : PortD := ((C (m - 1 - k)).1, 1 - (C (m - 1 - k)).2)
theorem Row.rev {p : PlanD} (hJ : fJoined p = true) {C : Nat → PortD} {m : Nat} (h : Row p C m) : Row p (revRow C m) m where
  track k hk := h.track _ (by omega)
  ends k hk := by
    have := h.ends (m - 1 - k) (by omega)
    show (1 - (C (m - 1 - k)).2) = 0 ∨ (1 - (C (m - 1 - k)).2) = 1
    omega
  next k hk := by
    have := next_back hJ (h.next (m - 1 - (k + 1)) (by omega))
    rw [show m - 1 - (k + 1) + 1 = m - 1 - k by omega] at this
    show fNext p ((C (m - 1 - k)).1, 1 - (1 - (C (m - 1 - k)).2)) = (((C (m - 1 - (k + 1))).1, 1 - (C (m - 1 - (k + 1))).2), true)
    rw [show 1 - (1 - (C (m - 1 - k)).2) = (C (m - 1 - k)).2 by omega]
    exact this
  apart j k hj hk e := by
    have := h.apart (m - 1 - j) (m - 1 - k) (by omega) (by omega) e
    omega

theorem track_out {p : PlanD} {s : StepD} (hp : passes p s) (hk : fKind p s.1 = 1) : s.2.2 = 1 - s.2.1 := by
  rcases hp with h | ⟨w, hw, e⟩
  · rw [hk] at h; cases h
  · unfold fOuts at hw
    cases hh : fHas p (s.1, s.2.1) with
    | false => rw [hh] at hw; cases hw
    | true =>
      rw [hh, hk] at hw
      have hw : w = (1 - s.2.1, 0) := List.mem_singleton.1 hw
      rw [← e, hw]

def onRow (C : Nat → PortD) (l : List StepD) (t k : Nat) : Prop := inPort (stepAt l t) = C k

theorem row_fore {p : PlanD} {C : Nat → PortD} {m : Nat} (h : Row p C m) {q : RoadD} (g : Run p q) {t k : Nat} (ha : onRow C q.2.2.2.1 t k) (ht : t + 1 < q.2.2.2.1.length) (hk : k + 1 < m) : onRow C q.2.2.2.1 (t + 1) (k + 1) := by
  have hc := g.chain t ht
  have hp := g.pass (stepAt q.2.2.2.1 t) (mem_getD zSt (by omega))
  have e1 : (stepAt q.2.2.2.1 t).1 = (C k).1 := congrArg Prod.fst ha
  have e2 : (stepAt q.2.2.2.1 t).2.1 = (C k).2 := congrArg Prod.snd ha
  have ho := track_out hp (by rw [e1]; exact h.track k (by omega))
  have : outPort (stepAt q.2.2.2.1 t) = ((C k).1, 1 - (C k).2) := by unfold outPort; rw [ho, e1, e2]
  rw [this, h.next k hk] at hc
  exact (congrArg Prod.fst hc).symm

theorem row_back {p : PlanD} (hJ : fJoined p = true) {C : Nat → PortD} {m : Nat} (h : Row p C m) {q : RoadD} (g : Run p q) {t k : Nat} (ha : onRow C q.2.2.2.1 (t + 1) (k + 1)) (ht : t + 1 < q.2.2.2.1.length) (hk : k + 1 < m) : onRow C q.2.2.2.1 t k := by
  have hc := g.chain t ht
  have hp := g.pass (stepAt q.2.2.2.1 t) (mem_getD zSt (by omega))
  have ha : inPort (stepAt q.2.2.2.1 (t + 1)) = C (k + 1) := ha
  rw [ha] at hc
  have h1 := next_back hJ hc
  have h2 := next_back hJ (h.next k hk)
  rw [h1] at h2
  have h2 : outPort (stepAt q.2.2.2.1 t) = ((C k).1, 1 - (C k).2) := congrArg Prod.fst h2
  have e1 : (stepAt q.2.2.2.1 t).1 = (C k).1 := congrArg Prod.fst h2
  have e2 : (stepAt q.2.2.2.1 t).2.2 = 1 - (C k).2 := congrArg Prod.snd h2
  have ho := track_out hp (by rw [e1]; exact h.track k (by omega))
  show inPort (stepAt q.2.2.2.1 t) = C k
  unfold inPort
  rw [e1, show (stepAt q.2.2.2.1 t).2.1 = (C k).2 by omega]

theorem not_both {p : PlanD} {C : Nat → PortD} {m : Nat} (h : Row p C m) {l : List StepD} {t j k : Nat} (hj : j < m) (hk : k < m) (h1 : onRow C l t j) (h2 : onRow (revRow C m) l t k) : False := by
  have e : C j = revRow C m k := h1.symm.trans h2
  have e1 : (C j).1 = (revRow C m k).1 := by rw [e]
  have e2 : (C j).2 = (revRow C m k).2 := by rw [e]
  have e1 : (C j).1 = (C (m - 1 - k)).1 := e1
  have e2 : (C j).2 = 1 - (C (m - 1 - k)).2 := e2
  have := h.apart j (m - 1 - k) hj (by omega) e1
  rw [← this] at e2
  have := h.ends j hj
  omega

/-- A road that runs along a row to its end, if it is to run the other way later. -/
theorem row_end {p : PlanD} {C : Nat → PortD} {m : Nat} (h : Row p C m) {q : RoadD} (g : Run p q) {t' k' : Nat} (ht' : t' < q.2.2.2.1.length) (hk' : k' < m) (h2 : onRow (revRow C m) q.2.2.2.1 t' k') :
    ∀ (n t k : Nat), k + n = m - 1 → k < m → t < t' → onRow C q.2.2.2.1 t k → ∃ u, t ≤ u ∧ u < t' ∧ onRow C q.2.2.2.1 u (m - 1)
  | 0, t, k, hn, hk, ht, h1 => ⟨t, Nat.le_refl _, ht, by rw [show m - 1 = k by omega]; exact h1⟩
  | n + 1, t, k, hn, hk, ht, h1 => by
    have h3 := row_fore h g h1 (by omega) (by omega)
    by_cases e : t + 1 = t'
    · rw [e] at h3
      exact (not_both h (by omega) hk' h3 h2).elim
    · obtain ⟨u, u1, u2, u3⟩ := row_end h g ht' hk' h2 n (t + 1) (k + 1) (by omega) (by omega) (by omega) h3
      exact ⟨u, by omega, u2, u3⟩

theorem row_start {p : PlanD} (hJ : fJoined p = true) {C : Nat → PortD} {m : Nat} (h : Row p C m) {q : RoadD} (g : Run p q) {u j : Nat} (hj : j < m) (h1 : onRow C q.2.2.2.1 u j) :
    ∀ (k t : Nat), k < m → u < t → t < q.2.2.2.1.length → onRow (revRow C m) q.2.2.2.1 t k → ∃ v, u < v ∧ v < q.2.2.2.1.length ∧ onRow (revRow C m) q.2.2.2.1 v 0
  | 0, t, _, hu, ht, h2 => ⟨t, hu, ht, h2⟩
  | k + 1, t, hk, hu, ht, h2 => by
    obtain ⟨t, rfl⟩ : ∃ s, t = s + 1 := ⟨t - 1, by omega⟩
    have h3 := row_back hJ (h.rev hJ) g h2 ht hk
    by_cases e : t = u
    · rw [e] at h3
      exact (not_both h hj (by omega) h1 h3).elim
    · exact row_start hJ h g hj h1 k t (by omega) (by omega) (by omega) h3

theorem step_apart {q : RoadD} {p : PlanD} (g : Run p q) {u v : Nat} (hu : u < v) (hv : v < q.2.2.2.1.length) : (stepAt q.2.2.2.1 u).1 ≠ (stepAt q.2.2.2.1 v).1 := by
  have := (List.pairwise_iff_getElem.1 g.nodup) u v (by rw [List.length_map]; omega) (by rw [List.length_map]; omega) hu
  unfold stepAt
  rw [getD_at zSt (by omega), getD_at zSt hv]
  simpa using this

theorem row_once {p : PlanD} (hJ : fJoined p = true) {C : Nat → PortD} {m : Nat} (h : Row p C m) {q : RoadD} (g : Run p q) {t k t' k' : Nat} (hk : k < m) (hk' : k' < m) (ht : t < t') (ht' : t' < q.2.2.2.1.length)
    (h1 : onRow C q.2.2.2.1 t k) (h2 : onRow (revRow C m) q.2.2.2.1 t' k') : False := by
  obtain ⟨u, u1, u2, u3⟩ := row_end h g ht' hk' h2 (m - 1 - k) t k (by omega) hk ht h1
  obtain ⟨v, v1, v2, v3⟩ := row_start hJ h g (j := m - 1) (by omega) u3 k' t' hk' u2 ht' h2
  have e1 : (stepAt q.2.2.2.1 u).1 = (C (m - 1)).1 := congrArg Prod.fst u3
  have e2 : (stepAt q.2.2.2.1 v).1 = (C (m - 1 - 0)).1 := congrArg Prod.fst v3
  exact step_apart g v1 v2 (by rw [e1, e2, Nat.sub_zero])

/-- No road runs a row both ways. -/
theorem row_ways {p : PlanD} (hJ : fJoined p = true) {C : Nat → PortD} {m : Nat} (h : Row p C m) {q : RoadD} (g : Run p q) {t k t' k' : Nat} (hk : k < m) (hk' : k' < m) (ht : t < q.2.2.2.1.length) (ht' : t' < q.2.2.2.1.length)
    (h1 : onRow C q.2.2.2.1 t k) (h2 : onRow (revRow C m) q.2.2.2.1 t' k') : False := by
  rcases Nat.lt_trichotomy t t' with hlt | e | hlt
  · exact row_once hJ h g hk hk' hlt ht' h1 h2
  · rw [e] at h1
    exact not_both h hk hk' h1 h2
  · refine row_once hJ (h.rev hJ) g (k := k') (k' := k) hk' hk hlt ht h2 ?_
    show inPort (stepAt q.2.2.2.1 t) = ((C (m - 1 - (m - 1 - k))).1, 1 - (1 - (C (m - 1 - (m - 1 - k))).2))
    rw [show m - 1 - (m - 1 - k) = k by omega, show 1 - (1 - (C k).2) = (C k).2 by omega]
    exact h1

/-! ### Lines -/

def lineRowOf (p : PlanD) (l : List Int) (k : Nat) : PortD := (l.getD k 0, inUp p l k)

theorem in_ends {p : PlanD} (hJ : fJoined p = true) {l : List Int} (h : (fEnters p l).2 = true) : ∀ k, k < l.length → (inUp p l k = 0 ∨ inUp p l k = 1) ∧ (k + 1 < l.length → fNext p (l.getD k 0, 1 - inUp p l k) = ((l.getD (k + 1) 0, inUp p l (k + 1)), true)) := by
  have hall : ∀ k, k < l.length → fKind p (l.getD k 0) = 1 := fun k hk => (enters_spec h hk).2
  have hnext : ∀ k, k + 1 < l.length → fNext p (l.getD k 0, 1 - inUp p l k) = ((l.getD (k + 1) 0, inUp p l (k + 1)), true) := by
    intro k hk
    unfold fEnters at h
    cases h1 : decide (l.length = 0) || !l.all (fun e => fKind p e == 1) with
    | true => rw [h1] at h; cases h
    | false =>
      rw [h1, cond_false] at h
      rw [decide_eq_false (by omega : ¬ l.length = 1), cond_false] at h
      cases h3 : decide (fOut0 p l < 0) with
      | true => rw [h3] at h; cases h
      | false =>
        rw [h3, cond_false] at h
        have h3 := of_decide_eq_false h3
        have hstart : 1 - fOut0 p l = inUp p l 0 := by
          rw [show inUp p l 0 = in0 p l from rfl]
          unfold in0
          rw [decide_eq_true (by omega : (l.length : Int) > 1), cond_true, outRow_eq]
          unfold fOut0 at h3 ⊢
          cases ho : outTo p l 0 with
          | true => rfl
          | false =>
            rw [ho] at h3
            cases ho1 : outTo p l 1 with
            | true => rfl
            | false => rw [ho1] at h3; exact absurd (by decide) h3
        cases h4 : (fEnt p l (fOut0 p l) (l.length - 1)).2.2 with
        | false => rw [h4] at h; cases h
        | true =>
          have hok : (fEnt p l (fOut0 p l) (k + 1)).2.2 = true := by
            cases hk2 : (fEnt p l (fOut0 p l) (k + 1)).2.2 with
            | true => rfl
            | false => rw [ent_false hk2 (l.length - 1) (by omega)] at h4; cases h4
          have hok0 : (fEnt p l (fOut0 p l) k).2.2 = true := by
            cases hk2 : (fEnt p l (fOut0 p l) k).2.2 with
            | true => rfl
            | false => rw [ent_false hk2 (k + 1) (by omega)] at hok; cases hok
          have hout := (ent_spec hstart k hok0).1
          have hinn : inUp p l (k + 1) = ((mget PortT (fNexts p) (l.getD k 0, 1 - inUp p l k)).getD (0, 0)).2 := rfl
          cases hb : ((fEnt p l (fOut0 p l) k).2.2 && ((entGo p l k (fEnt p l (fOut0 p l) k).2.1).2 && (entGo p l k (fEnt p l (fOut0 p l) k).2.1).1.1 == l.getD (k + 1) 0)) with
          | false => unfold fEnt at hok; rw [hb] at hok; cases hok
          | true =>
            simp only [Bool.and_eq_true] at hb
            have b1 := hb.2.1
            have b2 := eq_of_beq hb.2.2
            unfold entGo at b1 b2
            rw [hout] at b1 b2
            rw [next_get, b1] at hinn
            have hinn : inUp p l (k + 1) = (fNext p (l.getD k 0, 1 - inUp p l k)).1.2 := hinn
            rw [hinn, ← b2, ← b1]
  intro k
  induction k with
  | zero =>
    intro hk
    refine ⟨?_, fun h => hnext 0 h⟩
    rw [show inUp p l 0 = in0 p l from rfl]
    unfold in0
    cases decide ((l.length : Int) > 1) with
    | false => exact .inl rfl
    | true =>
      cases outRow (fNexts p) l 0 with
      | true => exact .inr rfl
      | false => exact .inl rfl
  | succ k ih =>
    intro hk
    refine ⟨?_, fun h => hnext (k + 1) h⟩
    have hn := hnext k hk
    have hh : fHas p (l.getD (k + 1) 0, inUp p l (k + 1)) = true := by
      refine next_hasQ hJ (x := (l.getD k 0, 1 - inUp p l k)) ?_
      rw [next_get, hn]
      rfl
    rw [has_track (hall (k + 1) hk)] at hh
    simp only [Bool.and_eq_true, decide_eq_true_eq] at hh
    omega

theorem line_row {p : PlanD} (hJ : fJoined p = true) (hL : fLines p = true) {s : Nat} (hs : s < p.2.2.2.1.length) : Row p (lineRowOf p (p.2.2.2.1.getD s zL).2) (p.2.2.2.1.getD s zL).2.length where
  track k hk := (enters_spec (line_enters hL hs) hk).2
  ends k hk := (in_ends hJ (line_enters hL hs) k hk).1
  next k hk := (in_ends hJ (line_enters hL hs) k (by omega)).2 hk
  apart j k hj hk e := by
    have key : ∀ a b, a < b → b < (p.2.2.2.1.getD s zL).2.length → (p.2.2.2.1.getD s zL).2.getD a 0 = (p.2.2.2.1.getD s zL).2.getD b 0 → False := fun a b hab hb e => by
      have hf := line_fresh hL s b hs hb
      unfold fMem at hf
      have := List.any_eq_false.1 hf ((p.2.2.2.1.getD s zL).2.getD a 0) (List.mem_append_right _ (by
        rw [getD_at 0 (by omega), List.mem_take_iff_getElem]
        exact ⟨a, by omega, rfl⟩))
      rw [e] at this
      simp at this
    rcases Nat.lt_trichotomy j k with h | h | h
    · exact (key j k h hk e).elim
    · exact h
    · exact (key k j h hj e.symm).elim

/-- A step in a line: its place, and which way. -/
theorem step_line {p : PlanD} (hJ : fJoined p = true) (hL : fLines p = true) {q : RoadD} (g : Run p q) {t : Nat} (ht : t < q.2.2.2.1.length) {l : Int} (hl : 0 ≤ l) (h : (fLineOf p (stepAt q.2.2.2.1 t).1).1 = l) :
    ∃ s k : Nat, l = (s : Int) ∧ s < p.2.2.2.1.length ∧ k < (p.2.2.2.1.getD s zL).2.length ∧
      ((onRow (lineRowOf p (p.2.2.2.1.getD s zL).2) q.2.2.2.1 t k ∧ fLeadOf p (stepAt q.2.2.2.1 t).1 (stepAt q.2.2.2.1 t).2.1 = 1) ∨
       (onRow (revRow (lineRowOf p (p.2.2.2.1.getD s zL).2) (p.2.2.2.1.getD s zL).2.length) q.2.2.2.1 t k ∧ fLeadOf p (stepAt q.2.2.2.1 t).1 (stepAt q.2.2.2.1 t).2.1 = 2)) := by
  rcases line_cases p (stepAt q.2.2.2.1 t).1 with ⟨h1, _⟩ | ⟨s, k, hs, hk, he, h1⟩
  · rw [h1] at h
    have h : (-1 : Int) = l := h
    omega
  · rw [h1] at h
    have h : (s : Int) = l := h
    obtain ⟨g1, g2⟩ := enters_spec (line_enters hL hs) hk
    rw [he] at g2
    have hin := (in_ends hJ (line_enters hL hs) k hk).1
    have hp := g.pass (stepAt q.2.2.2.1 t) (mem_getD zSt ht)
    have hh : fHas p ((stepAt q.2.2.2.1 t).1, (stepAt q.2.2.2.1 t).2.1) = true := by
      rcases hp with h | ⟨w, hw, _⟩
      · rw [g2] at h; cases h
      · cases hh : fHas p ((stepAt q.2.2.2.1 t).1, (stepAt q.2.2.2.1 t).2.1) with
        | true => rfl
        | false => unfold fOuts at hw; rw [hh] at hw; cases hw
    have hh2 := hh
    rw [has_track g2] at hh2
    simp only [Bool.and_eq_true, decide_eq_true_eq] at hh2
    have hf : fLeadOf p (stepAt q.2.2.2.1 t).1 (stepAt q.2.2.2.1 t).2.1 = bif inUp p (p.2.2.2.1.getD s zL).2 k == (stepAt q.2.2.2.1 t).2.1 then 1 else 2 := by
      unfold fLeadOf
      rw [h1, hh]
      show (bif decide ((s : Int) < 0) || !true then 0 else bif (fEnters p (lineAt p (s : Int))).1.getD (k : Int).toNat 0 == (stepAt q.2.2.2.1 t).2.1 then 1 else 2) = _
      rw [Int.toNat_natCast, show lineAt p (s : Int) = (p.2.2.2.1.getD s zL).2 by unfold lineAt; rw [Int.toNat_natCast], g1, decide_eq_false (by omega : ¬ (s : Int) < 0)]
      rfl
    cases hb : (inUp p (p.2.2.2.1.getD s zL).2 k == (stepAt q.2.2.2.1 t).2.1) with
    | true =>
      refine ⟨s, k, h.symm, hs, hk, .inl ⟨?_, by rw [hf, hb]; rfl⟩⟩
      show inPort (stepAt q.2.2.2.1 t) = (_, _)
      unfold inPort
      rw [he, eq_of_beq hb]
    | false =>
      have hne : inUp p (p.2.2.2.1.getD s zL).2 k ≠ (stepAt q.2.2.2.1 t).2.1 := fun e => by rw [e] at hb; simp at hb
      refine ⟨s, (p.2.2.2.1.getD s zL).2.length - 1 - k, h.symm, hs, by omega, .inr ⟨?_, by rw [hf, hb]; rfl⟩⟩
      show inPort (stepAt q.2.2.2.1 t) = ((p.2.2.2.1.getD s zL).2.getD _ 0, 1 - inUp p _ _)
      rw [show (p.2.2.2.1.getD s zL).2.length - 1 - ((p.2.2.2.1.getD s zL).2.length - 1 - k) = k by omega]
      unfold inPort
      rw [he, show 1 - inUp p (p.2.2.2.1.getD s zL).2 k = (stepAt q.2.2.2.1 t).2.1 by omega]

/-- Over a line a road runs one way. -/
theorem one_way {p : PlanD} (hJ : fJoined p = true) (hL : fLines p = true) {q : RoadD} (g : Run p q) {t t' : Nat} (ht : t < q.2.2.2.1.length) (ht' : t' < q.2.2.2.1.length) {l : Int} (hl : 0 ≤ l)
    (h : (fLineOf p (stepAt q.2.2.2.1 t).1).1 = l) (h' : (fLineOf p (stepAt q.2.2.2.1 t').1).1 = l) :
    fLeadOf p (stepAt q.2.2.2.1 t).1 (stepAt q.2.2.2.1 t).2.1 = fLeadOf p (stepAt q.2.2.2.1 t').1 (stepAt q.2.2.2.1 t').2.1 := by
  obtain ⟨s, k, e, hs, hk, c⟩ := step_line hJ hL g ht hl h
  obtain ⟨s', k', e', hs', hk', c'⟩ := step_line hJ hL g ht' hl h'
  have : s' = s := by omega
  subst this
  have hrow := line_row hJ hL hs
  rcases c with ⟨c1, c2⟩ | ⟨c1, c2⟩
  · rcases c' with ⟨d1, d2⟩ | ⟨d1, d2⟩
    · rw [c2, d2]
    · exact (row_ways hJ hrow g hk hk' ht ht' c1 d1).elim
  · rcases c' with ⟨d1, d2⟩ | ⟨d1, d2⟩
    · exact (row_ways hJ hrow g hk' hk ht' ht d1 c1).elim
    · rw [c2, d2]

end YtpnnfimacblhgaaGreat
end Go.Proofs
end

section
set_option maxRecDepth 100000
set_option linter.unusedVariables false
set_option linter.unusedSimpArgs false
set_option maxHeartbeats 4000000
namespace Go.Proofs
open Go Go.Vc
namespace YtpnnfimacblhgaaGreat

theorem ok33d : DOk Tryz.prog 33 c33d := ok33.asData
theorem v34 (a : List Int) (b : List Int) : bodyVC (ctxOf tab [(16, c16)]) Tryz.f34 c34 (a34 (a, b, ())) (a, b, ()) = (
(∃ (s02 : Nat), (s02 ≤ a.length ∧ ((List.take s02 a).any fun (y : Int) => fMem b y) = false) ∧ (↑s02 : Int) = (0 : Int) ∧ a = a ∧ b = b ∧ True) ∧
∀ (s2 : Nat),
lett (decide ((↑s2 : Int) < (↑a.length : Int))) fun (y3 : Bool) =>
lett (fMem b (a.getD (↑s2 : Int).toNat (0 : Int))) fun (y4 : Bool) =>
s2 ≤ a.length ∧ ((List.take s2 a).any fun (y : Int) => fMem b y) = false →
(y3 = true →
InB (↑s2 : Int) a.length ∧
True ∧
(y4 = true → true = fMeets a b ∧ True) ∧
(y4 = false →
InR IntKind.i64 ((↑s2 : Int) + (1 : Int)) ∧
∃ (s'5 : Nat),
(s'5 ≤ a.length ∧ ((List.take s'5 a).any fun (y : Int) => fMem b y) = false) ∧
a.length - s'5 < a.length - s2 ∧ (↑s'5 : Int) = (↑s2 : Int) + (1 : Int) ∧ a = a ∧ b = b ∧ True)) ∧
(y3 = false → false = fMeets a b ∧ True)) := by kernel_rfl

theorem b34 (a b : List Int) (hw : a.length ≤ maxLenI) : bodyVC (ctxOf tab [(16, c16)]) Tryz.f34 c34 (a34 (a, b, ())) (a, b, ()) := by
  rw [v34]
  simp only [true_and, and_true, eq_self]
  have hF : fMeets a b = a.any (fun y => fMem b y) := by unfold fMeets; rfl
  refine ⟨⟨0, ⟨by omega, by simp⟩, by omega⟩, fun s => lett.mk fun y3 e3 => lett.mk fun y4 e4 => ?_⟩
  rintro ⟨h1, h2⟩
  rw [Int.toNat_natCast] at e4
  refine ⟨fun hs => ?_, fun hs => ?_⟩
  · have hs := lt_of_y e3 hs
    refine ⟨⟨by omega, by omega⟩, fun e => ?_, fun e => ⟨inRlen hs hw, s + 1, ⟨by omega, any_succ 0 hs h2 (by rw [← e4]; exact e)⟩, by omega, by omega⟩⟩
    rw [hF, any_yes (s := s) 0 hs (by rw [← e4]; exact e)]
  · rw [hF, any_full (s := s) (le_of_y e3 hs) h2]

theorem ok34 : DOk Tryz.prog 34 c34 :=
  DOk.of' (l := [(16, c16)]) (A := a34) tabOk ⟨ok16, trivial⟩ Tryz.func34 (by kernel_rfl) (by kernel_rfl) fun x hw hp => b34 x.1 x.2.1 hw.1.1

theorem v35 (a : List (Int × Int)) (b : List (Int × Int)) : bodyVC (ctxOf tab []) Tryz.f35 c35 (a35 (a, b, ())) (a, b, ()) = (
(∃ (s02 : Nat), (s02 ≤ a.length ∧ ((List.take s02 a).any fun (u : NeedD) => b.any fun (v : NeedD) => clash u v) = false) ∧ (↑s02 : Int) = (0 : Int) ∧ a = a ∧ b = b ∧ True) ∧
∀ (s2 : Nat),
lett (decide ((↑s2 : Int) < (↑a.length : Int))) fun (y3 : Bool) =>
lett (a.getD (↑s2 : Int).toNat ((0 : Int), (0 : Int))) fun (y4 : Int × Int) =>
s2 ≤ a.length ∧ ((List.take s2 a).any fun (u : NeedD) => b.any fun (v : NeedD) => clash u v) = false →
(y3 = true →
(∃ (s05 : Nat),
(s05 ≤ b.length ∧ ((List.take s05 b).any fun (v : NeedD) => clash (a.getD (↑s2 : Int).toNat ((0 : Int), (0 : Int))) v) = false) ∧
(↑s05 : Int) = (0 : Int) ∧ a = a ∧ b = b ∧ (↑s2 : Int) = (↑s2 : Int) ∧ True) ∧
∀ (s5 : Nat),
lett (decide ((↑s5 : Int) < (↑b.length : Int))) fun (y6 : Bool) =>
lett (b.getD (↑s5 : Int).toNat ((0 : Int), (0 : Int))) fun (y7 : Int × Int) =>
lett (bif y4.fst == y7.fst then y4.snd != y7.snd else false) fun (y8 : Bool) =>
s5 ≤ b.length ∧ ((List.take s5 b).any fun (v : NeedD) => clash (a.getD (↑s2 : Int).toNat ((0 : Int), (0 : Int))) v) = false →
(y6 = true →
InB (↑s2 : Int) a.length ∧
InB (↑s5 : Int) b.length ∧
((y4.fst == y7.fst) = true → InB (↑s2 : Int) a.length) ∧
((y4.fst == y7.fst) = true → InB (↑s5 : Int) b.length) ∧
(y8 = true → true = fAgainst a b ∧ True) ∧
(y8 = false →
InR IntKind.i64 ((↑s5 : Int) + (1 : Int)) ∧
∃ (s'9 : Nat),
(s'9 ≤ b.length ∧ ((List.take s'9 b).any fun (v : NeedD) => clash (a.getD (↑s2 : Int).toNat ((0 : Int), (0 : Int))) v) = false) ∧
b.length - s'9 < b.length - s5 ∧ (↑s'9 : Int) = (↑s5 : Int) + (1 : Int) ∧ a = a ∧ b = b ∧ (↑s2 : Int) = (↑s2 : Int) ∧ True)) ∧
(y6 = false →
InR IntKind.i64 ((↑s2 : Int) + (1 : Int)) ∧
∃ (s'9 : Nat),
(s'9 ≤ a.length ∧ ((List.take s'9 a).any fun (u : NeedD) => b.any fun (v : NeedD) => clash u v) = false) ∧
a.length - s'9 < a.length - s2 ∧ (↑s'9 : Int) = (↑s2 : Int) + (1 : Int) ∧ a = a ∧ b = b ∧ True)) ∧
(y3 = false → false = fAgainst a b ∧ True)) := by kernel_rfl

theorem b35 (a b : List NeedD) (hw : a.length ≤ maxLenI) (hw' : b.length ≤ maxLenI) : bodyVC (ctxOf tab []) Tryz.f35 c35 (a35 (a, b, ())) (a, b, ()) := by
  rw [v35]
  simp only [true_and, and_true, eq_self]
  have hF : fAgainst a b = a.any (fun u => b.any fun v => clash u v) := by unfold fAgainst; rfl
  refine ⟨⟨0, ⟨by omega, by simp⟩, by omega⟩, fun s => lett.mk fun y3 e3 => lett.mk fun y4 e4 => ?_⟩
  rintro ⟨h1, h2⟩
  rw [← e4]
  rw [Int.toNat_natCast] at e4
  refine ⟨fun hs => ⟨⟨0, ⟨by omega, by simp⟩, by omega⟩, fun t => lett.mk fun y6 e6 => lett.mk fun y7 e7 => lett.mk fun y8 e8 => ?_⟩, fun hs => ?_⟩
  · have hs := lt_of_y e3 hs
    rintro ⟨h3, h4⟩
    rw [Int.toNat_natCast] at e7
    have h8 : clash y4 (b.getD t (0, 0)) = y8 := by
      rw [← e7, e8]
      unfold clash
      cases y4.1 == y7.1 <;> rfl
    refine ⟨fun ht => ?_, fun ht => ?_⟩
    · have ht := lt_of_y e6 ht
      refine ⟨⟨by omega, by omega⟩, ⟨by omega, by omega⟩, fun _ => ⟨by omega, by omega⟩, fun _ => ⟨by omega, by omega⟩, fun e => ?_, fun e => ⟨inRlen ht hw', t + 1, ⟨by omega, any_succ (0, 0) ht h4 (by rw [h8]; exact e)⟩, by omega, by omega⟩⟩
      rw [hF, any_yes (s := s) (0, 0) hs (any_yes (s := t) (0, 0) ht (by rw [← e4, h8]; exact e))]
    · refine ⟨inRlen hs hw, s + 1, ⟨by omega, any_succ (0, 0) hs h2 ?_⟩, by omega, by omega⟩
      rw [← e4]
      exact any_full (s := t) (le_of_y e6 ht) h4
  · rw [hF, any_full (s := s) (le_of_y e3 hs) h2]

theorem ok35 : DOk Tryz.prog 35 c35 :=
  DOk.of' (l := []) (A := a35) tabOk trivial Tryz.func35 (by kernel_rfl) (by kernel_rfl) fun x hw hp => b35 x.1 x.2.1 hw.1.1 hw.2.1.1

theorem v36 (r : RoadD) : bodyVC (ctxOf tab []) Tryz.f36 c36 noAnn (r, ()) = (
lett (List.replicate (0 : Nat) ((0 : Int), (0 : Int)) ++ r.snd.snd.snd.snd.fst) fun (y1 : List (Int × Int)) =>
roomFor ((List.replicate (0 : Nat) ((0 : Int), (0 : Int))).length + r.snd.snd.snd.snd.fst.length) (16 : Nat) ∧
roomFor (y1.length + r.snd.snd.snd.snd.snd.fst.length) (16 : Nat) ∧ y1 ++ r.snd.snd.snd.snd.snd.fst = fNeedsAll r ∧ True) := by kernel_rfl

theorem b36 (r : RoadD) (h : roadSmall r) : bodyVC (ctxOf tab []) Tryz.f36 c36 noAnn (r, ()) := by
  rw [v36]
  obtain ⟨h1, h2, h3⟩ := h
  refine lett.mk fun y1 e1 => ?_
  have e1 : y1 = r.2.2.2.2.1 := e1
  rw [e1]
  refine ⟨roomB (by show 0 + _ ≤ _; omega) (by omega), roomB (by omega) (by omega), ?_, trivial⟩
  unfold fNeedsAll
  rfl

theorem ok36 : DOk Tryz.prog 36 c36 :=
  DOk.of' (l := []) (A := fun _ => noAnn) tabOk trivial Tryz.func36 (by kernel_rfl) (by kernel_rfl) fun x hw hp => b36 x.1 hp
theorem ok36d : DOk Tryz.prog 36 c36d := ok36.asData

theorem v37 (p : PlanD) (a : RoadD) (b : RoadD) : bodyVC (ctxOf tab [(31, c31), (32, c32)]) Tryz.f37 c37 (a37 (p, a, b, ())) (p, a, b, ()) = (
(∃ (s03 : Nat),
(s03 ≤ a.snd.snd.snd.fst.length ∧ ((List.take s03 a.snd.snd.snd.fst).any fun (s : StepD) => b.snd.snd.snd.fst.any fun (t : StepD) => sideways p s t) = false) ∧
(↑s03 : Int) = (0 : Int) ∧
keepP p (keepP a (keepP b (True)))) ∧
∀ (s3 : Nat),
lett (decide ((↑s3 : Int) < (↑a.snd.snd.snd.fst.length : Int))) fun (y4 : Bool) =>
lett (a.snd.snd.snd.fst.getD (↑s3 : Int).toNat ((0 : Int), (0 : Int), (0 : Int))) fun (y5 : Int × Int × Int) =>
s3 ≤ a.snd.snd.snd.fst.length ∧ ((List.take s3 a.snd.snd.snd.fst).any fun (s : StepD) => b.snd.snd.snd.fst.any fun (t : StepD) => sideways p s t) = false →
(y4 = true →
(∃ (s06 : Nat),
(s06 ≤ b.snd.snd.snd.fst.length ∧ ((List.take s06 b.snd.snd.snd.fst).any fun (t : StepD) => sideways p (a.snd.snd.snd.fst.getD (↑s3 : Int).toNat zSt) t) = false) ∧
(↑s06 : Int) = (0 : Int) ∧
(↑s3 : Int) = (↑s3 : Int) ∧
keepP p (keepP a (keepP b (True)))) ∧
∀ (s6 : Nat),
lett (decide ((↑s6 : Int) < (↑b.snd.snd.snd.fst.length : Int))) fun (y7 : Bool) =>
lett (b.snd.snd.snd.fst.getD (↑s6 : Int).toNat ((0 : Int), (0 : Int), (0 : Int))) fun (y8 : Int × Int × Int) =>
lett (bif decide ((fLineOf p y5.fst).fst ≥ (0 : Int)) then (fLineOf p y5.fst).fst == (fLineOf p y8.fst).fst else false) fun (y9 : Bool) =>
lett (bif y9 then fLeadOf p y5.fst y5.snd.fst != fLeadOf p y8.fst y8.snd.fst else false) fun (y10 : Bool) =>
s6 ≤ b.snd.snd.snd.fst.length ∧ ((List.take s6 b.snd.snd.snd.fst).any fun (t : StepD) => sideways p (a.snd.snd.snd.fst.getD (↑s3 : Int).toNat zSt) t) = false →
(y7 = true →
InB (↑s3 : Int) a.snd.snd.snd.fst.length ∧
True ∧
InB (↑s6 : Int) b.snd.snd.snd.fst.length ∧
True ∧
(y9 = true → InB (↑s3 : Int) a.snd.snd.snd.fst.length) ∧
(y9 = true → InB (↑s3 : Int) a.snd.snd.snd.fst.length) ∧
(y9 = true → fCheck p = (0 : Int) ∧ shortLines p) ∧
(y9 = true → InB (↑s6 : Int) b.snd.snd.snd.fst.length) ∧
(y9 = true → InB (↑s6 : Int) b.snd.snd.snd.fst.length) ∧
(y9 = true → fCheck p = (0 : Int) ∧ shortLines p) ∧
(y10 = true → true = fBothWays p a b ∧ True) ∧
(y10 = false →
InR IntKind.i64 ((↑s6 : Int) + (1 : Int)) ∧
∃ (s'11 : Nat),
(s'11 ≤ b.snd.snd.snd.fst.length ∧
((List.take s'11 b.snd.snd.snd.fst).any fun (t : StepD) => sideways p (a.snd.snd.snd.fst.getD (↑s3 : Int).toNat zSt) t) = false) ∧
b.snd.snd.snd.fst.length - s'11 < b.snd.snd.snd.fst.length - s6 ∧
(↑s'11 : Int) = (↑s6 : Int) + (1 : Int) ∧
(↑s3 : Int) = (↑s3 : Int) ∧
keepP p (keepP a (keepP b (True))))) ∧
(y7 = false →
InR IntKind.i64 ((↑s3 : Int) + (1 : Int)) ∧
∃ (s'11 : Nat),
(s'11 ≤ a.snd.snd.snd.fst.length ∧ ((List.take s'11 a.snd.snd.snd.fst).any fun (s : StepD) => b.snd.snd.snd.fst.any fun (t : StepD) => sideways p s t) = false) ∧
a.snd.snd.snd.fst.length - s'11 < a.snd.snd.snd.fst.length - s3 ∧
(↑s'11 : Int) = (↑s3 : Int) + (1 : Int) ∧
keepP p (keepP a (keepP b (True))))) ∧
(y4 = false → false = fBothWays p a b ∧ True)) := by kernel_rfl

theorem b37 (p : PlanD) (a b : RoadD) (hc : fCheck p = 0) (hl : shortLines p) (ha : roadSmall a) (hb : roadSmall b) : bodyVC (ctxOf tab [(31, c31), (32, c32)]) Tryz.f37 c37 (a37 (p, a, b, ())) (p, a, b, ()) := by
  rw [v37]
  have ha := ha.1
  have hb := hb.1
  simp only [keepP_eq, true_and, and_true, eq_self]
  have hF : fBothWays p a b = a.2.2.2.1.any (fun s => b.2.2.2.1.any fun t => sideways p s t) := by unfold fBothWays; rfl
  refine ⟨⟨0, ⟨by omega, by simp⟩, by omega⟩, fun s => lett.mk fun y4 e4 => lett.mk fun y5 e5 => ?_⟩
  rintro ⟨h1, h2⟩
  have e5 : y5 = a.2.2.2.1.getD (s : Int).toNat zSt := e5
  rw [← e5]
  rw [Int.toNat_natCast] at e5
  refine ⟨fun hs => ⟨⟨0, ⟨by omega, by simp⟩, by omega⟩, fun t => lett.mk fun y7 e7 => lett.mk fun y8 e8 => lett.mk fun y9 e9 => lett.mk fun y10 e10 => ?_⟩, fun hs => ?_⟩
  · have hs := lt_of_y e4 hs
    rintro ⟨h3, h4⟩
    have e8 : y8 = b.2.2.2.1.getD (t : Int).toNat zSt := e8
    rw [Int.toNat_natCast] at e8
    have h8 : sideways p y5 (b.2.2.2.1.getD t zSt) = y10 := by
      rw [← e8, e10, e9]
      unfold sideways
      cases h0 : decide (0 ≤ (fLineOf p y5.1).1) <;> cases (fLineOf p y5.1).1 == (fLineOf p y8.1).1 <;> simp [h0, bne]
    refine ⟨fun ht => ?_, fun ht => ?_⟩
    · have ht := lt_of_y e7 ht
      refine ⟨⟨by omega, by omega⟩, ⟨by omega, by omega⟩, fun _ => ⟨by omega, by omega⟩, fun _ => ⟨by omega, by omega⟩, fun _ => ⟨hc, hl⟩, fun _ => ⟨by omega, by omega⟩, fun _ => ⟨by omega, by omega⟩, fun _ => ⟨hc, hl⟩, fun e => ?_, fun e => ⟨inR64 (by omega) (by omega), t + 1, ⟨by omega, any_succ zSt ht h4 (by rw [h8]; exact e)⟩, by omega, by omega⟩⟩
      rw [hF, any_yes (s := s) zSt hs (any_yes (s := t) zSt ht (by rw [← e5, h8]; exact e))]
    · refine ⟨inR64 (by omega) (by omega), s + 1, ⟨by omega, any_succ zSt hs h2 ?_⟩, by omega, by omega⟩
      rw [← e5]
      exact any_full (s := t) (le_of_y e7 ht) h4
  · rw [hF, any_full (s := s) (le_of_y e4 hs) h2]

theorem ok37 : DOk Tryz.prog 37 c37 :=
  DOk.of' (l := [(31, c31), (32, c32)]) (A := a37) tabOk ⟨ok31, ok32, trivial⟩ Tryz.func37 (by kernel_rfl) (by kernel_rfl) fun x hw hp => b37 x.1 x.2.1 x.2.2.1 hp.1.1 hp.1.2 hp.2.1 hp.2.2

theorem v13 (p : PlanD) (a : RoadD) (b : RoadD) : bodyVC (ctxOf tab [(33, c33d), (34, c34), (35, c35), (36, c36d), (37, c37)]) Tryz.f13 c13 noAnn (p, a, b, ()) = (
lett (fMeets (fElems a) b.snd.snd.snd.snd.snd.snd.fst) fun (y3 : Bool) =>
lett (bif y3 then true else fMeets a.snd.snd.snd.snd.snd.snd.fst (fElems b)) fun (y4 : Bool) =>
a.snd.snd.snd.fst.length ≤ (1000000 : Nat) ∧
b.snd.snd.snd.fst.length ≤ (1000000 : Nat) ∧
((a.fst == b.fst) = true → (1 : Int) = fWhy p a b ∧ True) ∧
((a.fst == b.fst) = false →
True ∧
(fMeets (fElems a) (fElems b) = true → (2 : Int) = fWhy p a b ∧ True) ∧
(fMeets (fElems a) (fElems b) = false →
True ∧
(y3 = false → True) ∧
(y4 = true → (3 : Int) = fWhy p a b ∧ True) ∧
(y4 = false →
roadSmall a ∧
roadSmall b ∧
True ∧
(fAgainst (fNeedsAll a) (fNeedsAll b) = true → (4 : Int) = fWhy p a b ∧ True) ∧
(fAgainst (fNeedsAll a) (fNeedsAll b) = false →
((fCheck p = (0 : Int) ∧ shortLines p) ∧ roadSmall a ∧ roadSmall b) ∧
(fBothWays p a b = true → (5 : Int) = fWhy p a b ∧ True) ∧ (fBothWays p a b = false → (0 : Int) = fWhy p a b ∧ True)))))) := by kernel_rfl

theorem why_eq (p : PlanD) (a b : RoadD) : fWhy p a b = bif a.1 == b.1 then 1 else bif fMeets (fElems a) (fElems b) then 2 else bif fMeets (fElems a) b.2.2.2.2.2.2.1 || fMeets a.2.2.2.2.2.2.1 (fElems b) then 3 else
    bif fAgainst (fNeedsAll a) (fNeedsAll b) then 4 else bif fBothWays p a b then 5 else 0 := by unfold fWhy; rfl

theorem b13 (p : PlanD) (a b : RoadD) (hc : fCheck p = 0) (hl : shortLines p) (ha : roadSmall a) (hb : roadSmall b) : bodyVC (ctxOf tab [(33, c33d), (34, c34), (35, c35), (36, c36d), (37, c37)]) Tryz.f13 c13 noAnn (p, a, b, ()) := by
  rw [v13, why_eq]
  refine lett.mk fun y3 e3 => lett.mk fun y4 e4 => ?_
  have e4 : (fMeets (fElems a) b.2.2.2.2.2.2.1 || fMeets a.2.2.2.2.2.2.1 (fElems b)) = y4 := by rw [e4, e3]; rfl
  rw [e4]
  have h1 := ha.1
  have h2 := hb.1
  refine ⟨by omega, by omega, fun h => ⟨by rw [h]; rfl, trivial⟩, fun h => ⟨trivial, fun h' => ⟨by rw [h, h']; rfl, trivial⟩, fun h' => ⟨trivial, fun _ => trivial, fun h4 => ⟨by rw [h, h', h4]; rfl, trivial⟩, fun h4 => ⟨ha, hb, trivial, fun h5 => ⟨by rw [h, h', h4, h5]; rfl, trivial⟩, fun h5 => ⟨⟨⟨hc, hl⟩, ha, hb⟩, fun h6 => ⟨by rw [h, h', h4, h5, h6]; rfl, trivial⟩, fun h6 => ⟨by rw [h, h', h4, h5, h6]; rfl, trivial⟩⟩⟩⟩⟩⟩

theorem ok13 : DOk Tryz.prog 13 c13 :=
  DOk.of' (l := [(33, c33d), (34, c34), (35, c35), (36, c36d), (37, c37)]) (A := fun _ => noAnn) tabOk ⟨ok33d, ok34, ok35, ok36d, ok37, trivial⟩ Tryz.func13 (by kernel_rfl) (by kernel_rfl) fun x hw hp => b13 x.1 x.2.1 x.2.2.1 hp.1.1 hp.1.2 hp.2.1 hp.2.2

/-! ### The law -/

theorem road_small {p : PlanD} (h : RoadsOk p) {r : RoadD} (hr : r ∈ (fRoads p).1) : roadSmall r := by
  have hl := road_len h hr
  obtain ⟨q, hq, rfl⟩ := h.road r hr
  obtain ⟨h1, h2, h3⟩ := all_ok (check_zero h.check).2.2.1 q hq
  have hon := (flank_on (p := p) (r := q) ⟨h.check, ⟨by omega, h1⟩, by omega⟩ (fPorts p q).length)
  have hi := hon.1.1
  have hm := nodup_len hi.nodup hi.sub
  have hg := hi.guards
  have he : (joinEnds (flankUp p q (fPorts p q).length).1).length ≤ 160 := by
    rw [hon.2, ends_lenQ]
    have := (sizes_factsQ (check_zero h.check).1).2.2.2
    omega
  refine ⟨by omega, hl.2, ?_⟩
  have : (fFlank p q).2.2.2.2.2.1 = gGuards (flankUp p q (fPorts p q).length) := by unfold fFlank sRoad; rfl
  rw [this]
  omega

theorem wants_mem {p : PlanD} (h : RoadsOk p) {r : RoadD} {t : TurnD} (ht : t ∈ fWantsR p r) : 0 ≤ t.1 ∧ ∃ i, i < r.2.2.2.1.length ∧ (fLineOf p (stepAt r.2.2.2.1 i).1).1 = t.1 ∧ t.2 = fLeadOf p (stepAt r.2.2.2.1 i).1 (stepAt r.2.2.2.1 i).2.1 := by
  unfold fWantsR at ht
  obtain ⟨h1, i, hi, e⟩ := (mem_ref r _ t).1 ht
  obtain ⟨h2, h3⟩ := firstTo_some hi
  exact ⟨h1.1, i, h2, eq_of_beq h3, by rw [e]; rfl⟩

/-- All of a road's elements in a line that it wants lead the same way. -/
theorem wants_one {p : PlanD} (h : RoadsOk p) {r : RoadD} (hr : r ∈ (fRoads p).1) {t : TurnD} (ht : t ∈ fWantsR p r) {s : Nat} (hs : s < r.2.2.2.1.length) (hl : (fLineOf p (r.2.2.2.1.getD s zSt).1).1 = t.1) :
    fLeadOf p (r.2.2.2.1.getD s zSt).1 (r.2.2.2.1.getD s zSt).2.1 = t.2 := by
  obtain ⟨h0, i, hi, e1, e2⟩ := wants_mem h ht
  obtain ⟨_, _, hJ, _, hL⟩ := check_zero h.check
  rw [e2]
  exact one_way hJ hL (road_run h hr) hs hi h0 hl e1

/-- Two roads that want a line both ways shut each other out. -/
theorem wants_shut {p : PlanD} (h : RoadsOk p) {a b : RoadD} {t u : TurnD} (ht : t ∈ fWantsR p a) (hu : u ∈ fWantsR p b) (he : t.1 = u.1) (hne : t.2 ≠ u.2) : fWhy p a b ≠ 0 := by
  obtain ⟨h0, i, hi, e1, e2⟩ := wants_mem h ht
  obtain ⟨_, k, hk, f1, f2⟩ := wants_mem h hu
  have hb : fBothWays p a b = true := by
    unfold fBothWays
    refine any_yes (s := i) zSt hi (any_yes (s := k) zSt hk ?_)
    show (decide (0 ≤ (fLineOf p (stepAt a.2.2.2.1 i).1).1) && ((fLineOf p (stepAt a.2.2.2.1 i).1).1 == (fLineOf p (stepAt b.2.2.2.1 k).1).1 && !(fLeadOf p (stepAt a.2.2.2.1 i).1 (stepAt a.2.2.2.1 i).2.1 == fLeadOf p (stepAt b.2.2.2.1 k).1 (stepAt b.2.2.2.1 k).2.1))) = true
    rw [e1, f1, ← e2, ← f2, decide_eq_true h0, he, beq_false_of_ne hne]
    simp
  rw [why_eq, hb]
  cases a.1 == b.1 with
  | true => show (1 : Int) ≠ 0; decide
  | false =>
    cases fMeets (fElems a) (fElems b) with
    | true => show (2 : Int) ≠ 0; decide
    | false =>
      cases (fMeets (fElems a) b.2.2.2.2.2.2.1 || fMeets a.2.2.2.2.2.2.1 (fElems b)) with
      | true => show (3 : Int) ≠ 0; decide
      | false =>
        cases fAgainst (fNeedsAll a) (fNeedsAll b) with
        | true => show (4 : Int) ≠ 0; decide
        | false => show (5 : Int) ≠ 0; decide

theorem v4 (p : PlanD) (i : Int) (k : Int) : bodyVC (ctxOf tab [(6, c6), (7, c7), (8, c8), (9, c9p), (11, c11p), (12, c12p), (13, c13)]) Tryz.f4 c4 (a4 (p, i, k, ())) (p, i, k, ()) = (
lett (bif !(fRoads p).snd then true else (↑(fRoads p).fst.length : Int) == (0 : Int)) fun (y3 : Bool) =>
lett (i.tmod (↑(fRoads p).fst.length : Int)) fun (y4 : Int) =>
lett (k.tmod (↑(fRoads p).fst.length : Int)) fun (y5 : Int) =>
lett ((0 : Int), (0 : Int), (0 : Int), [], [], [], [], [], false) fun (y6 : RoadD) =>
lett ((fRoads p).fst.getD y4.toNat y6) fun (y7 : RoadD) =>
lett ((fRoads p).fst.getD y5.toNat y6) fun (y8 : RoadD) =>
lett (fWants (netOf (fMade p)) y7).length fun (y9 : Nat) =>
lett (fWants (netOf (fMade p)) y7).length fun (y10 : Nat) =>
lett (rAt p i).snd.snd.snd.fst.length fun (y11 : Nat) =>
lett (fWants (netOf (fMade p)) y8).length fun (y12 : Nat) =>
lett (fWants (netOf (fMade p)) y8).length fun (y13 : Nat) =>
True ∧
((!true) = true → false = true ∧ True) ∧
((!true) = false →
True ∧
(y3 = true → true = true ∧ True) ∧
(y3 = false →
True ∧
((fMade p).isNone = true → false = true ∧ True) ∧
((fMade p).isNone = false →
(↑(fRoads p).fst.length : Int) ≠ (0 : Int) ∧
InB y4 (fRoads p).fst.length ∧
(↑(fRoads p).fst.length : Int) ≠ (0 : Int) ∧
InB y5 (fRoads p).fst.length ∧
(netLined (fMade p) ∧ y7.snd.snd.snd.fst.length ≤ (1000 : Nat)) ∧
(netLined (fMade p) ∧ y8.snd.snd.snd.fst.length ≤ (1000 : Nat)) ∧
(∃ (s014 : Nat),
(s014 ≤ y9 ∧ True) ∧
(↑s014 : Int) = (0 : Int) ∧
fMade p = fMade p ∧
fWants (netOf (fMade p)) y7 = fWants (netOf (fMade p)) y7 ∧
fWants (netOf (fMade p)) y8 = fWants (netOf (fMade p)) y8 ∧
keepP p (keepP y7 (keepP y8 (True)))) ∧
∀ (s14 : Nat),
lett (decide ((↑s14 : Int) < (↑y10 : Int))) fun (y15 : Bool) =>
lett ((fWants (netOf (fMade p)) y7).getD (↑s14 : Int).toNat ((0 : Int), (0 : Int))) fun (y16 : Int × Int) =>
s14 ≤ y9 ∧ True →
(y15 = true →
(∃ (s017 : Nat),
(s017 ≤ y11 ∧ True) ∧
(↑s017 : Int) = (0 : Int) ∧
fMade p = fMade p ∧
fWants (netOf (fMade p)) y7 = fWants (netOf (fMade p)) y7 ∧
fWants (netOf (fMade p)) y8 = fWants (netOf (fMade p)) y8 ∧
(↑s14 : Int) = (↑s14 : Int) ∧
keepP p (keepP y7 (keepP y8 (True)))) ∧
∀ (s17 : Nat),
lett (decide ((↑s17 : Int) < (↑y7.snd.snd.snd.fst.length : Int))) fun (y18 : Bool) =>
lett (y7.snd.snd.snd.fst.getD (↑s17 : Int).toNat ((0 : Int), (0 : Int), (0 : Int))) fun (y19 : Int × Int × Int) =>
lett ((gLine (netOf (fMade p)) y19.fst).fst == y16.fst) fun (y20 : Bool) =>
lett (bif y20 then gLead (netOf (fMade p)) y19.fst y19.snd.fst != y16.snd else false) fun (y21 : Bool) =>
s17 ≤ y11 ∧ True →
(y18 = true →
InB (↑s17 : Int) y7.snd.snd.snd.fst.length ∧
netThere (fMade p) ∧
InB (↑s14 : Int) y10 ∧
(y20 = true → InB (↑s17 : Int) y7.snd.snd.snd.fst.length) ∧
(y20 = true → InB (↑s17 : Int) y7.snd.snd.snd.fst.length) ∧
(y20 = true → netThere (fMade p)) ∧
(y20 = true → InB (↑s14 : Int) y10) ∧
(y21 = true → false = true ∧ True) ∧
(y21 = false →
InR IntKind.i64 ((↑s17 : Int) + (1 : Int)) ∧
∃ (s'22 : Nat),
(s'22 ≤ y11 ∧ True) ∧
y11 - s'22 < y11 - s17 ∧
(↑s'22 : Int) = (↑s17 : Int) + (1 : Int) ∧
fMade p = fMade p ∧
fWants (netOf (fMade p)) y7 = fWants (netOf (fMade p)) y7 ∧
fWants (netOf (fMade p)) y8 = fWants (netOf (fMade p)) y8 ∧
(↑s14 : Int) = (↑s14 : Int) ∧
keepP p (keepP y7 (keepP y8 (True))))) ∧
(y18 = false →
(∃ (s022 : Nat),
(s022 ≤ y12 ∧ True) ∧
(↑s022 : Int) = (0 : Int) ∧
fMade p = fMade p ∧
fWants (netOf (fMade p)) y7 = fWants (netOf (fMade p)) y7 ∧
fWants (netOf (fMade p)) y8 = fWants (netOf (fMade p)) y8 ∧
(↑s14 : Int) = (↑s14 : Int) ∧
keepP p (keepP y7 (keepP y8 (True)))) ∧
∀ (s22 : Nat),
lett (decide ((↑s22 : Int) < (↑y13 : Int))) fun (y23 : Bool) =>
lett ((fWants (netOf (fMade p)) y8).getD (↑s22 : Int).toNat ((0 : Int), (0 : Int))) fun (y24 : Int × Int) =>
lett (bif y16.fst == y24.fst then y16.snd != y24.snd else false) fun (y25 : Bool) =>
lett (bif y25 then fWhy p y7 y8 == (0 : Int) else false) fun (y26 : Bool) =>
s22 ≤ y12 ∧ True →
(y23 = true →
InB (↑s14 : Int) y10 ∧
InB (↑s22 : Int) y13 ∧
((y16.fst == y24.fst) = true → InB (↑s14 : Int) y10) ∧
((y16.fst == y24.fst) = true → InB (↑s22 : Int) y13) ∧
(y25 = true → (fCheck p = (0 : Int) ∧ shortLines p) ∧ roadSmall y7 ∧ roadSmall y8) ∧
(y26 = true → false = true ∧ True) ∧
(y26 = false →
InR IntKind.i64 ((↑s22 : Int) + (1 : Int)) ∧
∃ (s'27 : Nat),
(s'27 ≤ y12 ∧ True) ∧
y12 - s'27 < y12 - s22 ∧
(↑s'27 : Int) = (↑s22 : Int) + (1 : Int) ∧
fMade p = fMade p ∧
fWants (netOf (fMade p)) y7 = fWants (netOf (fMade p)) y7 ∧
fWants (netOf (fMade p)) y8 = fWants (netOf (fMade p)) y8 ∧
(↑s14 : Int) = (↑s14 : Int) ∧
keepP p (keepP y7 (keepP y8 (True))))) ∧
(y23 = false →
InR IntKind.i64 ((↑s14 : Int) + (1 : Int)) ∧
∃ (s'27 : Nat),
(s'27 ≤ y9 ∧ True) ∧
y9 - s'27 < y9 - s14 ∧
(↑s'27 : Int) = (↑s14 : Int) + (1 : Int) ∧
fMade p = fMade p ∧
fWants (netOf (fMade p)) y7 = fWants (netOf (fMade p)) y7 ∧
fWants (netOf (fMade p)) y8 = fWants (netOf (fMade p)) y8 ∧
keepP p (keepP y7 (keepP y8 (True)))))) ∧
(y15 = false → true = true ∧ True))))) := by kernel_rfl

theorem rem_in {i : Int} {n : Nat} (hi : 0 ≤ i) (hn : n ≠ 0) : 0 ≤ i.tmod (n : Int) ∧ i.tmod (n : Int) < n := by
  rw [Int.tmod_eq_emod_of_nonneg hi]
  exact ⟨Int.emod_nonneg _ (by omega), Int.emod_lt_of_pos _ (by omega)⟩

theorem b4 (p : PlanD) (i k : Int) (hi : 0 ≤ i ∧ i ≤ 255) (hk : 0 ≤ k ∧ k ≤ 255) : bodyVC (ctxOf tab [(6, c6), (7, c7), (8, c8), (9, c9p), (11, c11p), (12, c12p), (13, c13)]) Tryz.f4 c4 (a4 (p, i, k, ())) (p, i, k, ()) := by
  rw [v4]
  refine lett.mk fun y3 e3 => lett.mk fun y4 e4 => lett.mk fun y5 e5 => lett.mk fun y6 e6 => lett.mk fun y7 e7 => lett.mk fun y8 e8 => lett.mk fun y9 e9 => lett.mk fun y10 e10 => lett.mk fun y11 e11 => lett.mk fun y12 e12 => lett.mk fun y13 e13 => ?_
  refine ⟨trivial, fun h => Bool.noConfusion h, fun _ => ⟨trivial, fun _ => ⟨rfl, trivial⟩, fun h2 => ?_⟩⟩
  rw [e3] at h2
  obtain ⟨h2, hne⟩ := bif_or h2
  have hR := roads_ok (p := p) (by simpa using h2)
  rw [eqN' _ 0 0 rfl] at hne
  have hne := of_decide_eq_false hne
  have h4 := rem_in hi.1 hne
  have h5 := rem_in hk.1 hne
  rw [← e4] at h4
  rw [← e5] at h5
  have e7 : y7 = (fRoads p).1.getD y4.toNat zR := by rw [e7, e6]; rfl
  have e8 : y8 = (fRoads p).1.getD y5.toNat zR := by rw [e8, e6]; rfl
  have m7 : y7 ∈ (fRoads p).1 := by rw [e7]; exact mem_getD zR (by omega)
  have m8 : y8 ∈ (fRoads p).1 := by rw [e8]; exact mem_getD zR (by omega)
  have l7 := (road_len hR m7).1
  have l8 := (road_len hR m8).1
  have hn : netOf (fMade p) = fNet p := by rw [hR.made]; rfl
  have hL := (check_zero hR.check).2.2.2.2
  have w7 : fWants (netOf (fMade p)) y7 = fWantsR p y7 := by rw [hn]; exact wants_eq hR.check y7
  have w8 : fWants (netOf (fMade p)) y8 = fWantsR p y8 := by rw [hn]; exact wants_eq hR.check y8
  have s7 := fwants_len (made_lined hR) y7
  have s8 := fwants_len (made_lined hR) y8
  have hml := made_lined hR
  have hth : netThere (fMade p) := ⟨_, hR.made⟩
  have e11 : y11 = y7.2.2.2.1.length := by rw [e11, e7, e4]; unfold rAt; rfl
  rw [w7] at e9 e10 s7 ⊢
  rw [w8] at e12 e13 s8 ⊢
  rw [← e9] at e10 s7
  rw [← e12] at e13 s8
  rw [hn]
  simp only [line_eq hL, lead_eq hL, keepP_eq, true_and, and_true, eq_self]
  refine ⟨fun h => by rw [hR.made] at h; exact Bool.noConfusion h, fun _ => ⟨by omega, ⟨h4.1, h4.2⟩, by omega, ⟨h5.1, h5.2⟩, ⟨hml, by omega⟩, ⟨hml, by omega⟩, ⟨0, by omega, by omega⟩, fun s => lett.mk fun y15 e15 => lett.mk fun y16 e16 => fun hs => ⟨fun h15 => ?_, fun _ => trivial⟩⟩⟩
  have hs' := lt_of_y e15 h15
  rw [Int.toNat_natCast] at e16
  have t16 : y16 ∈ fWantsR p y7 := by rw [e16]; exact mem_getD zT (by omega)
  refine ⟨⟨0, by omega, by omega⟩, fun t => lett.mk fun y18 e18 => lett.mk fun y19 e19 => lett.mk fun y20 e20 => lett.mk fun y21 e21 => fun ht => ⟨fun h18 => ?_, fun h18 => ?_⟩⟩
  · have ht' := lt_of_y e18 h18
    rw [Int.toNat_natCast] at e19
    have e19 : y19 = y7.2.2.2.1.getD t zSt := e19
    have h21 : y21 = false := by
      rw [e21]
      cases h20 : y20 with
      | false => rfl
      | true =>
        rw [e20] at h20
        have := wants_one hR m7 t16 ht' (by rw [← e19]; exact eq_of_beq h20)
        rw [e19, this]
        simp
    exact ⟨⟨by omega, by omega⟩, hth, ⟨by omega, by omega⟩, fun _ => ⟨by omega, by omega⟩, fun _ => ⟨by omega, by omega⟩, fun _ => hth, fun _ => ⟨by omega, by omega⟩, fun h => by rw [h21] at h; exact Bool.noConfusion h, fun _ => ⟨inR64 (by omega) (by omega), t + 1, by omega, by omega, by omega⟩⟩
  · refine ⟨⟨0, by omega, by omega⟩, fun u => lett.mk fun y23 e23 => lett.mk fun y24 e24 => lett.mk fun y25 e25 => lett.mk fun y26 e26 => fun hu => ⟨fun h23 => ?_, fun h23 => ⟨inR64 (by omega) (by omega), s + 1, by omega, by omega, by omega⟩⟩⟩
    have hu' := lt_of_y e23 h23
    rw [Int.toNat_natCast] at e24
    have t24 : y24 ∈ fWantsR p y8 := by rw [e24]; exact mem_getD zT (by omega)
    have h26 : y26 = false := by
      rw [e26]
      cases h25 : y25 with
      | false => rfl
      | true =>
        rw [e25] at h25
        have key : ∀ a b : Bool, (bif a then b else false) = true → a = true ∧ b = true := by decide
        obtain ⟨k1, k2⟩ := key _ _ h25
        have := wants_shut hR t16 t24 (eq_of_beq k1) (by simpa using k2)
        rw [cond_true]
        exact beq_false_of_ne this
    exact ⟨⟨by omega, by omega⟩, ⟨by omega, by omega⟩, fun _ => ⟨by omega, by omega⟩, fun _ => ⟨by omega, by omega⟩, fun _ => ⟨⟨hR.check, hR.short⟩, road_small hR m7, road_small hR m8⟩, fun h => by rw [h26] at h; exact Bool.noConfusion h, fun _ => ⟨inR64 (by omega) (by omega), u + 1, by omega, by omega, by omega⟩⟩

theorem ok4 : DOk Tryz.prog 4 c4 :=
  DOk.of' (l := [(6, c6), (7, c7), (8, c8), (9, c9p), (11, c11p), (12, c12p), (13, c13)]) (A := a4) tabOk ⟨ok6, ok7, ok8, ok9p, ok11p, ok12p, ok13, trivial⟩ Tryz.func4 (by kernel_rfl) (by kernel_rfl) fun x hw hp => b4 x.1 x.2.1 x.2.2.1 (inR_u8 hw.2.1) (inR_u8 hw.2.2.1)

end YtpnnfimacblhgaaGreat
end Go.Proofs
end

section
set_option maxRecDepth 100000
set_option linter.unusedVariables false
namespace Go.Proofs.YtpnnfimacblhgaaGreat
open Go Go.Vc
open Go.ChangeShapes Go.WideShapes Go.ChangeAt Go.RowKit
open Go.ChangeMaps (open_string shut_string)

theorem own : ownKnob Tryz.prog.godebug = none := by kernel_rfl
theorem laidOut : laidOutB Tryz.prog = true := by kernel_rfl

theorem law_calls {P : Program} {f : Nat} {ts : List Ty} (h : DOk P f (lawCon ts)) {W : World} {x : Tup ts} {vs : List Value} (hv : VReps (memOf W) ts x vs) :
    Calls P f vs.toArray W fun e w' => e = .returned (.bool true) ∧ Below W.heap.size W w' := by
  refine (h.calls (memOf W) W x vs (fun b o h => h) hv trivial).mono fun e w' => ?_
  rintro ⟨v, F', rfl, _, _, _, hk, hout⟩
  have hout : [v] = [Value.bool true] := hout
  simp only [List.cons.injEq, and_true] at hout
  exact ⟨by rw [hout], ⟨hk.os, hk.tape, hk.output, hk.size, fun k hk' => hk.block k hk' (fun h => h)⟩⟩

end Go.Proofs.YtpnnfimacblhgaaGreat
end
