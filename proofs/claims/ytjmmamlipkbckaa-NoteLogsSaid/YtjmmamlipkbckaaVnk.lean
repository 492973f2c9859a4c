/-
  Which notes may be, and equalities: written out and proved.
-/
import Derived.Test.YtjmmamlipkbckaaVne
import Derived.Test.YtjmmamlipkbckaaVng
set_option maxRecDepth 100000
set_option linter.unusedVariables false
set_option linter.unusedSimpArgs false
set_option maxHeartbeats 1000000
namespace Go.Proofs
open Go Go.Vc
namespace Ytjmmamlipkbckaa

theorem v21 (b : Int × List (Int × Int) × Int × Int × Int) : bodyVC (ctxOf tab [(18, c18)]) Try.f21 c21 (a21 (b, ())) (b, ()) = (
lett ((List.replicate (1 : Nat) (0 : Int)).set (0 : Nat) b.fst) fun (y1 : List Int) =>
lett (decide ((↑b.snd.fst.length : Int) ≤ (5000 : Int))) fun (y2 : Bool) =>
lett (((List.replicate (2 : Nat) (0 : Int)).set (0 : Nat) b.snd.snd.fst).set (1 : Nat) b.snd.snd.snd.fst) fun (y3 : List Int) =>
lett ((List.replicate (1 : Nat) (0 : Int)).set (0 : Nat) b.snd.snd.snd.snd) fun (y4 : List Int) =>
(∃ (s05 : Nat),
(s05 ≤ b.snd.fst.length ∧ (List.take s05 b.snd.fst).all fPort = true) ∧
(↑s05 : Int) = (0 : Int) ∧
b.snd.fst = b.snd.fst ∧
(↑b.snd.fst.length : Int) = (↑b.snd.fst.length : Int) ∧
b.fst = b.fst ∧ b.snd.fst = b.snd.fst ∧ b.snd.snd.fst = b.snd.snd.fst ∧ b.snd.snd.snd.fst = b.snd.snd.snd.fst ∧ b.snd.snd.snd.snd = b.snd.snd.snd.snd ∧ True) ∧
∀ (s5 : Nat),
lett (decide ((↑s5 : Int) < (↑b.snd.fst.length : Int))) fun (y6 : Bool) =>
lett (b.snd.fst.getD (↑s5 : Int).toNat ((0 : Int), (0 : Int))) fun (y7 : Int × Int) =>
lett ((List.replicate (1 : Nat) (0 : Int)).set (0 : Nat) y7.fst) fun (y8 : List Int) =>
lett (!y8.all (fIn (0 : Int) (39 : Int))) fun (y9 : Bool) =>
lett ((List.replicate (1 : Nat) (0 : Int)).set (0 : Nat) y7.snd) fun (y10 : List Int) =>
lett (!y10.all (fIn (0 : Int) (3 : Int))) fun (y11 : Bool) =>
s5 ≤ b.snd.fst.length ∧ (List.take s5 b.snd.fst).all fPort = true →
(y6 = true →
InB (↑s5 : Int) b.snd.fst.length ∧
short y8 ∧
(y9 = false →
short y10 ∧
(y11 = true → false = fBody b ∧ True) ∧
(y11 = false →
InR IntKind.i64 ((↑s5 : Int) + (1 : Int)) ∧
∃ (s'12 : Nat),
(s'12 ≤ b.snd.fst.length ∧ (List.take s'12 b.snd.fst).all fPort = true) ∧
b.snd.fst.length - s'12 < b.snd.fst.length - s5 ∧
(↑s'12 : Int) = (↑s5 : Int) + (1 : Int) ∧
b.snd.fst = b.snd.fst ∧
(↑b.snd.fst.length : Int) = (↑b.snd.fst.length : Int) ∧
b.fst = b.fst ∧
b.snd.fst = b.snd.fst ∧
b.snd.snd.fst = b.snd.snd.fst ∧ b.snd.snd.snd.fst = b.snd.snd.snd.fst ∧ b.snd.snd.snd.snd = b.snd.snd.snd.snd ∧ True)) ∧
(y9 = !false →
(true = true → false = fBody b ∧ True) ∧
(true = false →
InR IntKind.i64 ((↑s5 : Int) + (1 : Int)) ∧
∃ (s'12 : Nat),
(s'12 ≤ b.snd.fst.length ∧ (List.take s'12 b.snd.fst).all fPort = true) ∧
b.snd.fst.length - s'12 < b.snd.fst.length - s5 ∧
(↑s'12 : Int) = (↑s5 : Int) + (1 : Int) ∧
b.snd.fst = b.snd.fst ∧
(↑b.snd.fst.length : Int) = (↑b.snd.fst.length : Int) ∧
b.fst = b.fst ∧
b.snd.fst = b.snd.fst ∧
b.snd.snd.fst = b.snd.snd.fst ∧ b.snd.snd.snd.fst = b.snd.snd.snd.fst ∧ b.snd.snd.snd.snd = b.snd.snd.snd.snd ∧ True))) ∧
(y6 = false →
(decide (b.fst ≥ (1 : Int)) = true →
short y1 ∧
(y1.all (fIn (0 : Int) (4 : Int)) = true →
(y2 = true →
short y3 ∧
(y3.all (fIn (0 : Int) (4000 : Int)) = true → short y4 ∧ y4.all (fIn (0 : Int) (60 : Int)) = fBody b ∧ True) ∧
(y3.all (fIn (0 : Int) (4000 : Int)) = !true → false = fBody b ∧ True)) ∧
(y2 = !true → false = fBody b ∧ True)) ∧
(y1.all (fIn (0 : Int) (4 : Int)) = !true → false = fBody b ∧ True)) ∧
(decide (b.fst ≥ (1 : Int)) = !true → false = fBody b ∧ True))) := by kernel_rfl

theorem all1 (p : Int → Bool) (x : Int) : ((List.replicate (1 : Nat) (0 : Int)).set (0 : Nat) x).all p = p x := by
  show (p x && true) = p x
  rw [Bool.and_true]

theorem all2 (p : Int → Bool) (x y : Int) : (((List.replicate (2 : Nat) (0 : Int)).set (0 : Nat) x).set (1 : Nat) y).all p = (p x && p y) := by
  show (p x && (p y && true)) = _
  rw [Bool.and_true]

theorem fIn_split (lo hi n : Int) : fIn lo hi n = (decide (lo ≤ n) && decide (n ≤ hi)) := rfl

theorem mode_in (n : Int) : fIn 1 4 n = (decide (n ≥ 1) && fIn 0 4 n) := by
  unfold fIn
  by_cases h1 : 1 ≤ n
  · have : (0 : Int) ≤ n := by omega
    simp [h1, this]
  · have h1' : ¬ (n ≥ 1) := h1
    simp [h1, h1']

theorem body_split (b : BodyD) : fBody b = (decide (b.1 ≥ 1) && (fIn 0 4 b.1 && (decide ((b.2.1.length : Int) ≤ 5000) && ((fIn 0 4000 b.2.2.1 && fIn 0 4000 b.2.2.2.1) && (fIn 0 60 b.2.2.2.2 && b.2.1.all fPort))))) := by
  have h : decide ((b.2.1.length : Int) ≤ 5000) = decide (b.2.1.length ≤ 5000) := by
    by_cases h : b.2.1.length ≤ 5000
    · rw [decide_eq_true h, decide_eq_true (by omega)]
    · rw [decide_eq_false h, decide_eq_false (by omega)]
  rw [h]
  unfold fBody
  rw [mode_in]
  have key : ∀ a b c d e f g : Bool, (a && ((b && c) && (d && (e && (f && g))))) = (b && (c && (a && ((d && e) && (f && g))))) := by decide
  exact key _ _ _ _ _ _ _

theorem body_ports {b : BodyD} (h : b.2.1.all fPort = false) : false = fBody b := by
  rw [body_split, h]
  simp only [Bool.and_false]

theorem b21 (b : BodyD) (hp : b.2.1.length ≤ 1000000) : bodyVC (ctxOf tab [(18, c18)]) Try.f21 c21 (a21 (b, ())) (b, ()) := by
  rw [v21]
  refine lett.mk fun y1 e1 => lett.mk fun y2 e2 => lett.mk fun y3 e3 => lett.mk fun y4 e4 => ?_
  simp only [true_and, and_true]
  refine ⟨⟨0, ⟨by omega, by simp⟩, rfl⟩, fun s => lett.mk fun y6 e6 => lett.mk fun y7 e7 => lett.mk fun y8 e8 => lett.mk fun y9 e9 => lett.mk fun y10 e10 => lett.mk fun y11 e11 => ?_⟩
  rintro ⟨h1, h2⟩
  rw [Int.toNat_natCast] at e7
  have s8 : short y8 := by rw [e8]; show (1 : Nat) ≤ 1000000; decide
  have s10 : short y10 := by rw [e10]; show (1 : Nat) ≤ 1000000; decide
  have s1 : short y1 := by rw [e1]; show (1 : Nat) ≤ 1000000; decide
  have s3 : short y3 := by rw [e3]; show (2 : Nat) ≤ 1000000; decide
  have s4 : short y4 := by rw [e4]; show (1 : Nat) ≤ 1000000; decide
  have a9 : y9 = !fIn 0 39 y7.1 := by rw [e9, e8, all1]
  have a11 : y11 = !fIn 0 3 y7.2 := by rw [e11, e10, all1]
  refine ⟨fun hs => ?_, fun hs => ?_⟩
  · have hs := lt_of_y e6 hs
    refine ⟨⟨by omega, by omega⟩, s8, fun h9 => ⟨s10, fun h11 => ?_, fun h11 => ⟨inR64 (by omega) (by omega), s + 1, ⟨by omega, ?_⟩, by omega, by omega⟩⟩, fun h9 => ⟨fun _ => ?_, fun hh => by cases hh⟩⟩
    · refine body_ports (all_no ((0 : Int), (0 : Int)) hs ?_)
      rw [← e7]; unfold fPort; rw [a11] at h11; simp only [Bool.not_eq_true'] at h11; rw [h11, Bool.and_false]
    · refine all_succ ((0 : Int), (0 : Int)) hs h2 ?_
      rw [← e7]; unfold fPort; rw [a11] at h11; rw [a9] at h9; simp only [Bool.not_eq_false'] at h11 h9; rw [h11, h9]; rfl
    · refine body_ports (all_no ((0 : Int), (0 : Int)) hs ?_)
      rw [← e7]; unfold fPort; rw [a9] at h9; simp only [Bool.not_false, Bool.not_eq_true'] at h9; rw [h9]; rfl
  · have hf := all_full (le_of_y e6 hs) h2
    rw [body_split, hf, e1, e2, e3, e4, all1, all1, all2]
    rw [e1] at s1
    rw [e3] at s3
    rw [e4] at s4
    refine ⟨fun g1 => ⟨s1, fun g2 => ⟨fun g3 => ⟨s3, fun g4 => ⟨s4, ?_⟩, fun g4 => ?_⟩, fun g3 => ?_⟩, fun g2 => ?_⟩, fun g1 => ?_⟩
    · rw [g1, g2, g3, g4, Bool.and_true]; rfl
    · rw [g1, g2, g3, g4]; rfl
    · rw [g1, g2, g3]; rfl
    · rw [g1, g2]; rfl
    · rw [g1]; rfl

theorem ok21 : DOk Try.prog 21 c21 :=
  DOk.of' (l := [(18, c18)]) (A := a21) tabOk ⟨ok18, trivial⟩ Try.func21 (by kernel_rfl) (by kernel_rfl) fun x _ hp => b21 x.1 hp

theorem v20 (b : Int × List (Int × Int) × Int × Int × Int) : bodyVC (ctxOf tab [(21, c21)]) Try.f20 c20 noAnn (b, ()) = (
short b.snd.fst ∧ (!fBody b) = !fBody b ∧ True) := by kernel_rfl

theorem ok20 : DOk Try.prog 20 c20 :=
  DOk.of' (l := [(21, c21)]) (A := fun _ => noAnn) tabOk ⟨ok21, trivial⟩ Try.func20 (by kernel_rfl) (by kernel_rfl) fun x _ hp => by
    obtain ⟨b, ⟨⟩⟩ := x
    rw [v20]
    exact ⟨hp, rfl, trivial⟩

theorem v210037 (xs : List (Int × List (Int × Int) × Int × Int × Int)) (f : Unit) : bodyVC (ctxOf tab [(20, c20)]) Try.f37 c210037 (a210037 (xs, f, ())) (xs, f, ()) = (
lett (fFind (fun (n : BodyD) => !fBody n) xs) fun (y2 : Int) =>
(∃ (s03 : Nat), (s03 ≤ xs.length ∧ ((List.take s03 xs).any fun (n : BodyD) => !fBody n) = false) ∧ (↑s03 : Int) = (0 : Int) ∧ xs = xs ∧ f = f ∧ (↑xs.length : Int) = (↑xs.length : Int) ∧ True) ∧
∀ (s3 : Nat),
lett (decide ((↑s3 : Int) < (↑xs.length : Int))) fun (y4 : Bool) =>
lett (xs.getD (↑s3 : Int).toNat ((0 : Int), [], (0 : Int), (0 : Int), (0 : Int))) fun (y5 : Int × List (Int × Int) × Int × Int × Int) =>
s3 ≤ xs.length ∧ ((List.take s3 xs).any fun (n : BodyD) => !fBody n) = false →
(y4 = true →
InB (↑s3 : Int) xs.length ∧
short y5.snd.fst ∧
((!fBody y5) = true → (↑s3 : Int) = y2 ∧ True) ∧
((!fBody y5) = false →
InR IntKind.i64 ((↑s3 : Int) + (1 : Int)) ∧
∃ (s'6 : Nat),
(s'6 ≤ xs.length ∧ ((List.take s'6 xs).any fun (n : BodyD) => !fBody n) = false) ∧
xs.length - s'6 < xs.length - s3 ∧ (↑s'6 : Int) = (↑s3 : Int) + (1 : Int) ∧ xs = xs ∧ f = f ∧ (↑xs.length : Int) = (↑xs.length : Int) ∧ True)) ∧
(y4 = false → (-1 : Int) = y2 ∧ True)) := by kernel_rfl

def zeroB : BodyD := ((0 : Int), [], (0 : Int), (0 : Int), (0 : Int))

theorem b210037 (xs : List BodyD) (f : Unit) (hp : shortBs xs) : bodyVC (ctxOf tab [(20, c20)]) Try.f37 c210037 (a210037 (xs, f, ())) (xs, f, ()) := by
  obtain ⟨hp, hq⟩ := hp
  have hp : xs.length ≤ 1000000 := hp
  rw [v210037]
  refine lett.mk fun y2 e2 => ?_
  simp only [true_and, and_true]
  refine ⟨⟨0, ⟨by omega, by simp⟩, rfl⟩, fun s => lett.mk fun y4 e4 => lett.mk fun y5 e5 => ?_⟩
  rintro ⟨h1, h2⟩
  rw [Int.toNat_natCast] at e5
  refine ⟨fun hs => ?_, fun hs => ?_⟩
  · have hs := lt_of_y e4 hs
    refine ⟨⟨by omega, by omega⟩, hq _ (by rw [e5]; exact mem_getD _ hs), fun e => ?_, fun e => ⟨inR64 (by omega) (by omega), s + 1, ⟨by omega, ?_⟩, by omega, by omega⟩⟩
    · rw [e2]
      exact fFind_at zeroB hs h2 (by rw [e5] at e; exact e)
    · exact any_succ zeroB hs h2 (by rw [e5] at e; exact e)
  · rw [e2]
    exact fFind_none (s := s) (le_of_y e4 hs) h2

theorem ok210037 : DOk Try.prog 37 c210037 :=
  DOk.of' (l := [(20, c20)]) (A := a210037) tabOk ⟨ok20, trivial⟩ Try.func37 (by kernel_rfl) (by kernel_rfl) fun x _ hp => b210037 x.1 x.2.1 hp

theorem v210019 (xs : List (Int × List (Int × Int) × Int × Int × Int)) (f : Unit) : bodyVC (ctxOf tab [(210037, c210037)]) Try.f19 c210019 noAnn (xs, f, ()) = (
lett (fFind (fun (n : BodyD) => !fBody n) xs) fun (y2 : Int) => shortBs xs ∧ (decide (y2 ≥ (0 : Int)) = xs.any fun (n : BodyD) => !fBody n) ∧ True) := by kernel_rfl

theorem ok210019 : DOk Try.prog 19 c210019 :=
  DOk.of' (l := [(210037, c210037)]) (A := fun _ => noAnn) tabOk ⟨ok210037, trivial⟩ Try.func19 (by kernel_rfl) (by kernel_rfl) fun x _ hp => by
    obtain ⟨xs, f, ⟨⟩⟩ := x
    rw [v210019]
    refine lett.mk fun y2 e2 => ⟨hp, ?_, trivial⟩
    rw [e2]
    exact fFind_any

/-! ### Notes that may be -/

theorem may_long {l : List NoteD} (h : (l.length : Int) > 2001) : fMay l = false := by
  unfold fMay
  rw [decide_eq_false (by omega), Bool.false_and]

theorem may_eq {l : List NoteD} (h : ¬ (l.length : Int) > 2001) : fMay l = l.all (fNote (l.getD 0 zeroN)) := by
  unfold fMay
  rw [decide_eq_true (by omega), Bool.true_and]

theorem ne_cast (a b : Nat) : ((a : Int) != (b : Int)) = !decide (a = b) := by
  by_cases h : a = b
  · subst h; simp
  · have : (a : Int) ≠ (b : Int) := by omega
    simp [h, this]

theorem gt_cast (a k : Nat) : decide ((a : Int) > (k : Int)) = !decide (a ≤ k) := by
  by_cases h : a ≤ k
  · have : ¬ (a : Int) > (k : Int) := by omega
    simp [h, this]
  · have : (a : Int) > (k : Int) := by omega
    simp [h, this]

theorem gtN (a : Nat) (n : Int) (k : Nat) (e : n = (k : Int)) : decide ((a : Int) > n) = !decide (a ≤ k) := by rw [e]; exact gt_cast a k

theorem v10 (l : List (List Int × List Int × List (Int × List (Int × Int) × Int × Int × Int))) : bodyVC (ctxOf tab [(18, c18), (210019, c210019)] [] [(20, .unit)]) Try.f10 c10 (a10 (l, ())) (l, ()) = (
lett (decide ((↑l.length : Int) > (2001 : Int))) fun (y1 : Bool) =>
lett (l.getD (Int.toNat (0 : Int)) ([], [], [])) fun (y2 : List Int × List Int × List (Int × List (Int × Int) × Int × Int × Int)) =>
(y1 = true → false = fMay l ∧ True) ∧
(y1 = false →
(∃ (s03 : Nat), (s03 ≤ l.length ∧ (List.take s03 l).all (fNote (l.getD (0 : Nat) zeroN)) = true) ∧ (↑s03 : Int) = (0 : Int) ∧ l = l ∧ l = l ∧ (↑l.length : Int) = (↑l.length : Int) ∧ True) ∧
∀ (s3 : Nat),
lett (decide ((↑s3 : Int) < (↑l.length : Int))) fun (y4 : Bool) =>
lett (l.getD (↑s3 : Int).toNat ([], [], [])) fun (y5 : List Int × List Int × List (Int × List (Int × Int) × Int × Int × Int)) =>
lett ((↑y5.fst.length : Int) != (↑y2.fst.length : Int)) fun (y6 : Bool) =>
lett (bif y6 then true else (↑y5.snd.fst.length : Int) != (↑y2.snd.fst.length : Int)) fun (y7 : Bool) =>
lett (bif y7 then true else (↑y5.snd.snd.length : Int) != (↑y2.snd.snd.length : Int)) fun (y8 : Bool) =>
lett
(bif bif decide ((↑y5.fst.length : Int) > (40 : Int)) then true else decide ((↑y5.snd.fst.length : Int) > (24 : Int)) then true
else decide ((↑y5.snd.snd.length : Int) > (8 : Int)))
fun (y9 : Bool) =>
lett (bif y9 then true else !y5.fst.all (fIn (0 : Int) (2 : Int))) fun (y10 : Bool) =>
lett (bif y10 then true else !y5.snd.fst.all (fIn (0 : Int) (2 : Int))) fun (y11 : Bool) =>
lett (y5.snd.snd.any fun (n : BodyD) => !fBody n) fun (y12 : Bool) =>
s3 ≤ l.length ∧ (List.take s3 l).all (fNote (l.getD (0 : Nat) zeroN)) = true →
(y4 = true →
InB (↑s3 : Int) l.length ∧
InB (0 : Int) l.length ∧
(y6 = false → InB (0 : Int) l.length) ∧
(y7 = false → InB (0 : Int) l.length) ∧
(y8 = true → false = fMay l ∧ True) ∧
(y8 = false →
(y9 = false → short y5.fst) ∧
(y10 = false → short y5.snd.fst) ∧
(y11 = true → false = fMay l ∧ True) ∧
(y11 = false →
shortBs y5.snd.snd ∧
(y12 = true → false = fMay l ∧ True) ∧
(y12 = false →
InR IntKind.i64 ((↑s3 : Int) + (1 : Int)) ∧
∃ (s'13 : Nat),
(s'13 ≤ l.length ∧ (List.take s'13 l).all (fNote (l.getD (0 : Nat) zeroN)) = true) ∧
l.length - s'13 < l.length - s3 ∧
(↑s'13 : Int) = (↑s3 : Int) + (1 : Int) ∧ l = l ∧ l = l ∧ (↑l.length : Int) = (↑l.length : Int) ∧ True)))) ∧
(y4 = false → true = fMay l ∧ True))) := by kernel_rfl

theorem key10 : ∀ a b c d e f p q r : Bool,
    (a && (b && (c && (d && (e && (f && (p && (q && r)))))))) =
    ((!(bif (bif !a then true else !b) then true else !c)) && ((!(bif (bif (bif (bif !d then true else !e) then true else !f) then true else !p) then true else !q)) && r)) := by decide

theorem b10 (l : List NoteD) (hp : shortL l) : bodyVC (ctxOf tab [(18, c18), (210019, c210019)] [] [(20, .unit)]) Try.f10 c10 (a10 (l, ())) (l, ()) := by
  obtain ⟨hp, hq⟩ := hp
  have hp : l.length ≤ 1000000 := hp
  rw [v10]
  refine lett.mk fun y1 e1 => lett.mk fun y2 e2 => ?_
  have e2 : y2 = l.getD 0 zeroN := e2
  simp only [true_and, and_true]
  refine ⟨fun h => by rw [e1] at h; exact (may_long (of_decide_eq_true h)).symm, fun hl => ?_⟩
  rw [e1] at hl
  have hm := may_eq (of_decide_eq_false hl)
  rw [hm]
  refine ⟨⟨0, ⟨by omega, by simp⟩, rfl⟩, fun s => lett.mk fun y4 e4 => lett.mk fun y5 e5 => lett.mk fun y6 e6 => lett.mk fun y7 e7 => lett.mk fun y8 e8 => lett.mk fun y9 e9 => lett.mk fun y10 e10 => lett.mk fun y11 e11 => lett.mk fun y12 e12 => ?_⟩
  rintro ⟨h1, h2⟩
  rw [Int.toNat_natCast] at e5
  have e5 : y5 = l.getD s zeroN := e5
  rw [ne_cast] at e6 e7 e8
  rw [gtN _ 40 40 rfl, gtN _ 24 24 rfl, gtN _ 8 8 rfl] at e9
  have hany : y12 = !y5.2.2.all fBody := by
    rw [e12, ← all_not, Bool.not_not]
  have hN : fNote (l.getD 0 zeroN) y5 = (!y8 && (!y11 && !y12)) := by
    rw [← e2, hany, e11, e10, e9, e8, e7, e6, Bool.not_not]
    unfold fNote
    exact key10 _ _ _ _ _ _ _ _ _
  refine ⟨fun hs => ?_, fun hs => ?_⟩
  · have hs := lt_of_y e4 hs
    have hl0 : 0 < l.length := by omega
    obtain ⟨q1, q2, q3⟩ := hq y5 (by rw [e5]; exact mem_getD _ hs)
    refine ⟨⟨by omega, by omega⟩, ⟨by omega, by omega⟩, fun _ => ⟨by omega, by omega⟩, fun _ => ⟨by omega, by omega⟩, fun h8 => ?_, fun h8 => ⟨fun _ => q1, fun _ => q2, fun h11 => ?_, fun h11 => ⟨q3, fun h12 => ?_, fun h12 => ⟨inR64 (by omega) (by omega), s + 1, ⟨by omega, ?_⟩, by omega, by omega⟩⟩⟩⟩
    · exact (all_no zeroN hs (by rw [← e5, hN, h8]; rfl)).symm
    · exact (all_no zeroN hs (by rw [← e5, hN, h8, h11]; rfl)).symm
    · exact (all_no zeroN hs (by rw [← e5, hN, h8, h11, h12]; rfl)).symm
    · exact all_succ zeroN hs h2 (by rw [← e5, hN, h8, h11, h12]; rfl)
  · exact (all_full (le_of_y e4 hs) h2).symm

theorem ok10 : DOk Try.prog 10 c10 :=
  DOk.of' (l := [(18, c18), (210019, c210019)]) (clos := [(20, .unit)]) (A := a10) tabOk ⟨ok18, ok210019, trivial⟩ Try.func10 (by kernel_rfl) (by kernel_rfl) fun x _ hp => b10 x.1 hp

theorem v11 (l : List (List Int × List Int × List (Int × List (Int × Int) × Int × Int × Int))) : bodyVC (ctxOf tab [(22, c22), (23, c23)]) Try.f11 c11 (a11' (l, ())) (l, ()) = (
lett (decide ((↑l.length : Int) > (2001 : Int))) fun (y1 : Bool) =>
lett (l.getD (Int.toNat (0 : Int)) ([], [], [])) fun (y2 : List Int × List Int × List (Int × List (Int × Int) × Int × Int × Int)) =>
(y1 = true → false = fMay l ∧ True) ∧
(y1 = false →
(∃ (s03 : Nat), (s03 ≤ l.length ∧ (List.take s03 l).all (fNote (l.getD (0 : Nat) zeroN)) = true) ∧ (↑s03 : Int) = (0 : Int) ∧ l = l ∧ l = l ∧ (↑l.length : Int) = (↑l.length : Int) ∧ True) ∧
∀ (s3 : Nat),
lett (decide ((↑s3 : Int) < (↑l.length : Int))) fun (y4 : Bool) =>
lett (l.getD (↑s3 : Int).toNat ([], [], [])) fun (y5 : List Int × List Int × List (Int × List (Int × Int) × Int × Int × Int)) =>
lett ((↑y5.fst.length : Int) != (↑y2.fst.length : Int)) fun (y6 : Bool) =>
lett (bif y6 then true else (↑y5.snd.fst.length : Int) != (↑y2.snd.fst.length : Int)) fun (y7 : Bool) =>
lett
(bif
bif bif bif y7 then true else (↑y5.snd.snd.length : Int) != (↑y2.snd.snd.length : Int) then true else decide ((↑y5.fst.length : Int) > (40 : Int)) then true
else decide ((↑y5.snd.fst.length : Int) > (24 : Int)) then
true
else decide ((↑y5.snd.snd.length : Int) > (8 : Int)))
fun (y8 : Bool) =>
lett (bif y8 then true else !y5.fst.all (fIn (0 : Int) (2 : Int))) fun (y9 : Bool) =>
lett (bif y9 then true else !y5.snd.fst.all (fIn (0 : Int) (2 : Int))) fun (y10 : Bool) =>
lett (l.getD (↑s3 : Int).toNat zeroN).snd.snd fun (y11 : List BodyD) =>
s3 ≤ l.length ∧ (List.take s3 l).all (fNote (l.getD (0 : Nat) zeroN)) = true →
(y4 = true →
InB (↑s3 : Int) l.length ∧
InB (0 : Int) l.length ∧
(y6 = false → InB (0 : Int) l.length) ∧
(y7 = false → InB (0 : Int) l.length) ∧
(y8 = false → short y5.fst) ∧
(y9 = false → short y5.snd.fst) ∧
(y10 = true → false = fMay l ∧ True) ∧
(y10 = false →
(∃ (s012 : Nat),
(s012 ≤ y11.length ∧ (List.take s012 y11).all fBody = true) ∧
(↑s012 : Int) = (0 : Int) ∧
l = l ∧
l = l ∧
(↑l.length : Int) = (↑l.length : Int) ∧
(↑s3 : Int) = (↑s3 : Int) ∧ y5.snd.snd = y5.snd.snd ∧ (↑y5.snd.snd.length : Int) = (↑y5.snd.snd.length : Int) ∧ True) ∧
∀ (s12 : Nat),
lett (decide ((↑s12 : Int) < (↑y5.snd.snd.length : Int))) fun (y13 : Bool) =>
lett (!fBody (y5.snd.snd.getD (↑s12 : Int).toNat ((0 : Int), [], (0 : Int), (0 : Int), (0 : Int)))) fun (y14 : Bool) =>
s12 ≤ y11.length ∧ (List.take s12 y11).all fBody = true →
(y13 = true →
InB (↑s12 : Int) y5.snd.snd.length ∧
True ∧
(y14 = true → false = fMay l ∧ True) ∧
(y14 = false →
InR IntKind.i64 ((↑s12 : Int) + (1 : Int)) ∧
∃ (s'15 : Nat),
(s'15 ≤ y11.length ∧ (List.take s'15 y11).all fBody = true) ∧
y11.length - s'15 < y11.length - s12 ∧
(↑s'15 : Int) = (↑s12 : Int) + (1 : Int) ∧
l = l ∧
l = l ∧
(↑l.length : Int) = (↑l.length : Int) ∧
(↑s3 : Int) = (↑s3 : Int) ∧
y5.snd.snd = y5.snd.snd ∧ (↑y5.snd.snd.length : Int) = (↑y5.snd.snd.length : Int) ∧ True)) ∧
(y13 = false →
InR IntKind.i64 ((↑s3 : Int) + (1 : Int)) ∧
∃ (s'15 : Nat),
(s'15 ≤ l.length ∧ (List.take s'15 l).all (fNote (l.getD (0 : Nat) zeroN)) = true) ∧
l.length - s'15 < l.length - s3 ∧
(↑s'15 : Int) = (↑s3 : Int) + (1 : Int) ∧ l = l ∧ l = l ∧ (↑l.length : Int) = (↑l.length : Int) ∧ True))) ∧
(y4 = false → true = fMay l ∧ True))) := by kernel_rfl

theorem key11 : ∀ a b c d e f p q r : Bool,
    (a && (b && (c && (d && (e && (f && (p && (q && r)))))))) =
    ((!(bif (bif (bif (bif (bif (bif (bif !a then true else !b) then true else !c) then true else !d) then true else !e) then true else !f) then true else !p) then true else !q)) && r) := by decide

theorem b11 (l : List NoteD) (hp : shortL l) : bodyVC (ctxOf tab [(22, c22), (23, c23)]) Try.f11 c11 (a11' (l, ())) (l, ()) := by
  obtain ⟨hp, hq⟩ := hp
  have hp : l.length ≤ 1000000 := hp
  rw [v11]
  refine lett.mk fun y1 e1 => lett.mk fun y2 e2 => ?_
  have e2 : y2 = l.getD 0 zeroN := e2
  simp only [true_and, and_true]
  refine ⟨fun h => by rw [e1] at h; exact (may_long (of_decide_eq_true h)).symm, fun hl => ?_⟩
  rw [e1] at hl
  have hm := may_eq (of_decide_eq_false hl)
  rw [hm]
  refine ⟨⟨0, ⟨by omega, by simp⟩, rfl⟩, fun s => lett.mk fun y4 e4 => lett.mk fun y5 e5 => lett.mk fun y6 e6 => lett.mk fun y7 e7 => lett.mk fun y8 e8 => lett.mk fun y9 e9 => lett.mk fun y10 e10 => lett.mk fun y11 e11 => ?_⟩
  rintro ⟨h1, h2⟩
  rw [Int.toNat_natCast] at e5 e11
  have e5 : y5 = l.getD s zeroN := e5
  have e11 : y11 = y5.2.2 := by rw [e11, e5]
  subst e11
  rw [ne_cast] at e6 e7
  rw [ne_cast, gtN _ 40 40 rfl, gtN _ 24 24 rfl, gtN _ 8 8 rfl] at e8
  have hN : fNote (l.getD 0 zeroN) y5 = (!y10 && y5.2.2.all fBody) := by
    rw [← e2, e10, e9, e8, e7, e6]
    unfold fNote
    exact key11 _ _ _ _ _ _ _ _ _
  refine ⟨fun hs => ?_, fun hs => ?_⟩
  · have hs := lt_of_y e4 hs
    have hl0 : 0 < l.length := by omega
    obtain ⟨q1, q2, q3⟩ := hq y5 (by rw [e5]; exact mem_getD _ hs)
    have q3 : y5.2.2.length ≤ 1000000 := q3.1
    refine ⟨⟨by omega, by omega⟩, ⟨by omega, by omega⟩, fun _ => ⟨by omega, by omega⟩, fun _ => ⟨by omega, by omega⟩, fun _ => q1, fun _ => q2, fun h10 => ?_, fun h10 => ⟨⟨0, ⟨by omega, by simp⟩, rfl⟩, fun t => lett.mk fun y13 e13 => lett.mk fun y14 e14 => ?_⟩⟩
    · exact (all_no zeroN hs (by rw [← e5, hN, h10]; rfl)).symm
    rintro ⟨g1, g2⟩
    rw [Int.toNat_natCast] at e14
    refine ⟨fun ht => ?_, fun ht => ?_⟩
    · have ht := lt_of_y e13 ht
      refine ⟨⟨by omega, by omega⟩, fun h14 => ?_, fun h14 => ⟨inR64 (by omega) (by omega), t + 1, ⟨by omega, ?_⟩, by omega, by omega⟩⟩
      · refine (all_no zeroN hs ?_).symm
        rw [← e5, hN, h10, all_no _ ht (by rw [e14] at h14; simpa using h14)]
        rfl
      · exact all_succ _ ht g2 (by rw [e14] at h14; simpa using h14)
    · refine ⟨inR64 (by omega) (by omega), s + 1, ⟨by omega, ?_⟩, by omega, by omega⟩
      exact all_succ zeroN hs h2 (by rw [← e5, hN, h10, all_full (le_of_y e13 ht) g2]; rfl)
  · exact (all_full (le_of_y e4 hs) h2).symm

theorem ok11 : DOk Try.prog 11 c11 :=
  DOk.of' (l := [(22, c22), (23, c23)]) (A := a11') tabOk ⟨ok22, ok23, trivial⟩ Try.func11 (by kernel_rfl) (by kernel_rfl) fun x _ hp => b11 x.1 hp

/-! ### Equality -/

theorem neq_of {α : Type} [BEq α] [LawfulBEq α] {xs ys : List α} {y : Bool} (e : y = ((xs.length : Int) != (ys.length : Int))) (h : y = true) : false = (xs == ys) := by
  rw [e] at h
  symm
  rw [beq_eq_false_iff_ne]
  rintro rfl
  simp at h

theorem eqlen_of {α : Type} {xs ys : List α} {y : Bool} (e : y = ((xs.length : Int) != (ys.length : Int))) (h : y = false) : xs.length = ys.length := by
  rw [e] at h
  have : (xs.length : Int) = ys.length := by simpa using h
  omega

theorem ne_of_beq {α : Type} [BEq α] [LawfulBEq α] {a b : α} {y : Bool} (e : y = (!a == b)) (h : y = true) : a ≠ b := by
  rw [e] at h
  rintro rfl
  simp at h

theorem eq_of_beq' {α : Type} [BEq α] [LawfulBEq α] {a b : α} {y : Bool} (e : y = (!a == b)) (h : y = false) : a = b := by
  rw [e] at h
  simpa using h

theorem v34 (xs : List (Int × List (Int × Int) × Int × Int × Int)) (ys : List (Int × List (Int × Int) × Int × Int × Int)) : bodyVC (ctxOf tab [(42, c42)]) Try.f34 c34 (a34 (xs, ys, ())) (xs, ys, ()) = (
lett ((↑xs.length : Int) != (↑ys.length : Int)) fun (y2 : Bool) =>
lett ((0 : Int), [], (0 : Int), (0 : Int), (0 : Int)) fun (y3 : Int × List (Int × Int) × Int × Int × Int) =>
(y2 = true → false = (xs == ys) ∧ True) ∧
(y2 = false →
(∃ (s04 : Nat), (s04 ≤ xs.length ∧ sameUp xs ys s04) ∧ (↑s04 : Int) = (0 : Int) ∧ xs = xs ∧ ys = ys ∧ (↑xs.length : Int) = (↑xs.length : Int) ∧ True) ∧
∀ (s4 : Nat),
lett (decide ((↑s4 : Int) < (↑xs.length : Int))) fun (y5 : Bool) =>
lett (xs.getD (↑s4 : Int).toNat y3) fun (y6 : Int × List (Int × Int) × Int × Int × Int) =>
lett (!y6 == ys.getD (↑s4 : Int).toNat y3) fun (y7 : Bool) =>
s4 ≤ xs.length ∧ sameUp xs ys s4 →
(y5 = true →
InB (↑s4 : Int) xs.length ∧
InB (↑s4 : Int) ys.length ∧
short y6.snd.fst ∧
(y7 = true → false = (xs == ys) ∧ True) ∧
(y7 = false →
InR IntKind.i64 ((↑s4 : Int) + (1 : Int)) ∧
∃ (s'8 : Nat),
(s'8 ≤ xs.length ∧ sameUp xs ys s'8) ∧
xs.length - s'8 < xs.length - s4 ∧ (↑s'8 : Int) = (↑s4 : Int) + (1 : Int) ∧ xs = xs ∧ ys = ys ∧ (↑xs.length : Int) = (↑xs.length : Int) ∧ True)) ∧
(y5 = false → true = (xs == ys) ∧ True))) := by kernel_rfl

theorem b34 (xs : List BodyD) (ys : List BodyD) (hp : shortBs xs) : bodyVC (ctxOf tab [(42, c42)]) Try.f34 c34 (a34 (xs, ys, ())) (xs, ys, ()) := by
  obtain ⟨hp, hq⟩ := hp
  have hp : xs.length ≤ 1000000 := hp
  rw [v34]
  refine lett.mk fun y2 e2 => lett.mk fun y3 e3 => ?_
  simp only [true_and, and_true]
  refine ⟨neq_of e2, fun h => ?_⟩
  have h := eqlen_of e2 h
  refine ⟨⟨0, ⟨by omega, h, rfl⟩, rfl⟩, fun s => lett.mk fun y5 e5 => lett.mk fun y6 e6 => lett.mk fun y7 e7 => ?_⟩
  rintro ⟨h1, h2, h3⟩
  rw [Int.toNat_natCast] at e6 e7
  refine ⟨fun hs => ?_, fun hs => ?_⟩
  · have hs := lt_of_y e5 hs
    refine ⟨⟨by omega, by omega⟩, ⟨by omega, by omega⟩, hq _ (by rw [e6]; exact mem_getD _ hs), fun e => ?_, fun e => ⟨inR64 (by omega) (by omega), s + 1, ⟨by omega, h, ?_⟩, by omega, by omega⟩⟩
    · have := ne_of_beq e7 e
      rw [e6] at this
      exact sameUp_not (s := s) y3 this
    · have := eq_of_beq' e7 e
      rw [e6] at this
      exact sameUp_succ y3 h h3 hs this
  · exact sameUp_full h h3 (le_of_y e5 hs)

theorem ok34 : DOk Try.prog 34 c34 :=
  DOk.of' (l := [(42, c42)]) (A := a34) tabOk ⟨ok42, trivial⟩ Try.func34 (by kernel_rfl) (by kernel_rfl) fun x _ hp => b34 x.1 x.2.1 hp

theorem v310029 (xs : List (Int × List (Int × Int) × Int × Int × Int)) (ys : List (Int × List (Int × Int) × Int × Int × Int)) (f : Unit) : bodyVC (ctxOf tab [(30, c30)]) Try.f29 c310029 (a310029 (xs, ys, f, ())) (xs, ys, f, ()) = (
lett ((↑xs.length : Int) != (↑ys.length : Int)) fun (y3 : Bool) =>
lett ((0 : Int), [], (0 : Int), (0 : Int), (0 : Int)) fun (y4 : Int × List (Int × Int) × Int × Int × Int) =>
(y3 = true → false = (xs == ys) ∧ True) ∧
(y3 = false →
(∃ (s05 : Nat), (s05 ≤ xs.length ∧ sameUp xs ys s05) ∧ (↑s05 : Int) = (0 : Int) ∧ ys = ys ∧ f = f ∧ xs = xs ∧ (↑xs.length : Int) = (↑xs.length : Int) ∧ True) ∧
∀ (s5 : Nat),
lett (decide ((↑s5 : Int) < (↑xs.length : Int))) fun (y6 : Bool) =>
lett (xs.getD (↑s5 : Int).toNat y4) fun (y7 : Int × List (Int × Int) × Int × Int × Int) =>
lett (!y7 == ys.getD (↑s5 : Int).toNat y4) fun (y8 : Bool) =>
s5 ≤ xs.length ∧ sameUp xs ys s5 →
(y6 = true →
InB (↑s5 : Int) xs.length ∧
InB (↑s5 : Int) ys.length ∧
short y7.snd.fst ∧
(y8 = true → false = (xs == ys) ∧ True) ∧
(y8 = false →
InR IntKind.i64 ((↑s5 : Int) + (1 : Int)) ∧
∃ (s'9 : Nat),
(s'9 ≤ xs.length ∧ sameUp xs ys s'9) ∧
xs.length - s'9 < xs.length - s5 ∧ (↑s'9 : Int) = (↑s5 : Int) + (1 : Int) ∧ ys = ys ∧ f = f ∧ xs = xs ∧ (↑xs.length : Int) = (↑xs.length : Int) ∧ True)) ∧
(y6 = false → true = (xs == ys) ∧ True))) := by kernel_rfl

theorem b310029 (xs : List BodyD) (ys : List BodyD) (f : Unit) (hp : shortBs xs) : bodyVC (ctxOf tab [(30, c30)]) Try.f29 c310029 (a310029 (xs, ys, f, ())) (xs, ys, f, ()) := by
  obtain ⟨hp, hq⟩ := hp
  have hp : xs.length ≤ 1000000 := hp
  rw [v310029]
  refine lett.mk fun y2 e2 => lett.mk fun y3 e3 => ?_
  simp only [true_and, and_true]
  refine ⟨neq_of e2, fun h => ?_⟩
  have h := eqlen_of e2 h
  refine ⟨⟨0, ⟨by omega, h, rfl⟩, rfl⟩, fun s => lett.mk fun y5 e5 => lett.mk fun y6 e6 => lett.mk fun y7 e7 => ?_⟩
  rintro ⟨h1, h2, h3⟩
  rw [Int.toNat_natCast] at e6 e7
  refine ⟨fun hs => ?_, fun hs => ?_⟩
  · have hs := lt_of_y e5 hs
    refine ⟨⟨by omega, by omega⟩, ⟨by omega, by omega⟩, hq _ (by rw [e6]; exact mem_getD _ hs), fun e => ?_, fun e => ⟨inR64 (by omega) (by omega), s + 1, ⟨by omega, h, ?_⟩, by omega, by omega⟩⟩
    · have := ne_of_beq e7 e
      rw [e6] at this
      exact sameUp_not (s := s) y3 this
    · have := eq_of_beq' e7 e
      rw [e6] at this
      exact sameUp_succ y3 h h3 hs this
  · exact sameUp_full h h3 (le_of_y e5 hs)

theorem ok310029 : DOk Try.prog 29 c310029 :=
  DOk.of' (l := [(30, c30)]) (A := a310029) tabOk ⟨ok30, trivial⟩ Try.func29 (by kernel_rfl) (by kernel_rfl) fun x _ hp => b310029 x.1 x.2.1 x.2.2.1 hp

theorem v27 (x : List Int × List Int × List (Int × List (Int × Int) × Int × Int × Int)) (y : List Int × List Int × List (Int × List (Int × Int) × Int × Int × Int)) : bodyVC (ctxOf tab [(28, c28), (310029, c310029)] [] [(30, .unit)]) Try.f27 c27 noAnn (x, y, ()) = (
lett (bif x.fst == y.fst then x.snd.fst == y.snd.fst else false) fun (y2 : Bool) =>
short x.fst ∧ ((x.fst == y.fst) = true → short x.snd.fst) ∧ (y2 = true → shortBs x.snd.snd) ∧ (bif y2 then x.snd.snd == y.snd.snd else false) = (x == y) ∧ True) := by kernel_rfl

theorem ok27 : DOk Try.prog 27 c27 :=
  DOk.of' (l := [(28, c28), (310029, c310029)]) (clos := [(30, .unit)]) (A := fun _ => noAnn) tabOk ⟨ok28, ok310029, trivial⟩ Try.func27 (by kernel_rfl) (by kernel_rfl) fun x _ hp => by
    obtain ⟨⟨d1, d2, d3⟩, ⟨e1, e2, e3⟩, ⟨⟩⟩ := x
    obtain ⟨p1, p2, p3⟩ := hp
    rw [v27]
    refine lett.mk fun y2 h2 => ⟨p1, fun _ => p2, fun _ => p3, ?_, trivial⟩
    rw [h2]
    have key : ∀ a b c : Bool, (bif (bif a then b else false) then c else false) = (a && (b && c)) := by decide
    exact key (d1 == e1) (d2 == e2) (d3 == e3)

theorem v15 (xs : List (List Int × List Int × List (Int × List (Int × Int) × Int × Int × Int))) (ys : List (List Int × List Int × List (Int × List (Int × Int) × Int × Int × Int))) : bodyVC (ctxOf tab [(33, c33), (34, c34)]) Try.f15 c15 (a15 (xs, ys, ())) (xs, ys, ()) = (
lett ((↑xs.length : Int) != (↑ys.length : Int)) fun (y2 : Bool) =>
(y2 = true → false = (xs == ys) ∧ True) ∧
(y2 = false →
(∃ (s03 : Nat), (s03 ≤ xs.length ∧ sameUp xs ys s03) ∧ (↑s03 : Int) = (0 : Int) ∧ xs = xs ∧ ys = ys ∧ (↑xs.length : Int) = (↑xs.length : Int) ∧ True) ∧
∀ (s3 : Nat),
lett (decide ((↑s3 : Int) < (↑xs.length : Int))) fun (y4 : Bool) =>
lett (xs.getD (↑s3 : Int).toNat ([], [], [])) fun (y5 : List Int × List Int × List (Int × List (Int × Int) × Int × Int × Int)) =>
lett (ys.getD (↑s3 : Int).toNat ([], [], [])) fun (y6 : List Int × List Int × List (Int × List (Int × Int) × Int × Int × Int)) =>
lett (!y5.fst == y6.fst) fun (y7 : Bool) =>
lett (bif y7 then true else !y5.snd.fst == y6.snd.fst) fun (y8 : Bool) =>
lett (bif y8 then true else !y5.snd.snd == y6.snd.snd) fun (y9 : Bool) =>
s3 ≤ xs.length ∧ sameUp xs ys s3 →
(y4 = true →
InB (↑s3 : Int) xs.length ∧
InB (↑s3 : Int) ys.length ∧
short y5.fst ∧
(y7 = false → InB (↑s3 : Int) xs.length) ∧
(y7 = false → InB (↑s3 : Int) ys.length) ∧
(y7 = false → short y5.snd.fst) ∧
(y8 = false → InB (↑s3 : Int) xs.length) ∧
(y8 = false → InB (↑s3 : Int) ys.length) ∧
(y8 = false → shortBs y5.snd.snd) ∧
(y9 = true → false = (xs == ys) ∧ True) ∧
(y9 = false →
InR IntKind.i64 ((↑s3 : Int) + (1 : Int)) ∧
∃ (s'10 : Nat),
(s'10 ≤ xs.length ∧ sameUp xs ys s'10) ∧
xs.length - s'10 < xs.length - s3 ∧
(↑s'10 : Int) = (↑s3 : Int) + (1 : Int) ∧ xs = xs ∧ ys = ys ∧ (↑xs.length : Int) = (↑xs.length : Int) ∧ True)) ∧
(y4 = false → true = (xs == ys) ∧ True))) := by kernel_rfl

theorem b15 (xs : List NoteD) (ys : List NoteD) (hp : shortL xs) : bodyVC (ctxOf tab [(33, c33), (34, c34)]) Try.f15 c15 (a15 (xs, ys, ())) (xs, ys, ()) := by
  obtain ⟨hp, hq⟩ := hp
  have hp : xs.length ≤ 1000000 := hp
  rw [v15]
  refine lett.mk fun y2 e2 => ?_
  simp only [true_and, and_true]
  refine ⟨neq_of e2, fun h => ?_⟩
  have h := eqlen_of e2 h
  refine ⟨⟨0, ⟨by omega, h, rfl⟩, rfl⟩, fun s => lett.mk fun y4 e4 => lett.mk fun y5 e5 => lett.mk fun y6 e6 => lett.mk fun y7 e7 => lett.mk fun y8 e8 => lett.mk fun y9 e9 => ?_⟩
  rintro ⟨h1, h2, h3⟩
  rw [Int.toNat_natCast] at e5 e6
  have e5 : y5 = xs.getD s zeroN := e5
  have e6 : y6 = ys.getD s zeroN := e6
  have hy : y9 = !(y5 == y6) := by
    rw [e9, e8, e7]
    have key : ∀ a b c : Bool, (bif (bif !a then true else !b) then true else !c) = !(a && (b && c)) := by decide
    exact key (y5.1 == y6.1) (y5.2.1 == y6.2.1) (y5.2.2 == y6.2.2)
  refine ⟨fun hs => ?_, fun hs => ?_⟩
  · have hs := lt_of_y e4 hs
    obtain ⟨q1, q2, q3⟩ := hq y5 (by rw [e5]; exact mem_getD _ hs)
    refine ⟨⟨by omega, by omega⟩, ⟨by omega, by omega⟩, q1, fun _ => ⟨by omega, by omega⟩, fun _ => ⟨by omega, by omega⟩, fun _ => q2, fun _ => ⟨by omega, by omega⟩, fun _ => ⟨by omega, by omega⟩, fun _ => q3, fun e => ?_, fun e => ⟨inR64 (by omega) (by omega), s + 1, ⟨by omega, h, ?_⟩, by omega, by omega⟩⟩
    · have := ne_of_beq hy e
      rw [e5, e6] at this
      exact sameUp_not (s := s) zeroN this
    · have := eq_of_beq' hy e
      rw [e5, e6] at this
      exact sameUp_succ zeroN h h3 hs this
  · exact sameUp_full h h3 (le_of_y e4 hs)

theorem ok15 : DOk Try.prog 15 c15 :=
  DOk.of' (l := [(33, c33), (34, c34)]) (A := a15) tabOk ⟨ok33, ok34, trivial⟩ Try.func15 (by kernel_rfl) (by kernel_rfl) fun x _ hp => b15 x.1 x.2.1 hp

theorem v280026 (xs : List (List Int × List Int × List (Int × List (Int × Int) × Int × Int × Int))) (ys : List (List Int × List Int × List (Int × List (Int × Int) × Int × Int × Int))) (f : Unit) : bodyVC (ctxOf tab [(27, c27)]) Try.f26 c280026 (a280026 (xs, ys, f, ())) (xs, ys, f, ()) = (
lett ((↑xs.length : Int) != (↑ys.length : Int)) fun (y3 : Bool) =>
(y3 = true → false = (xs == ys) ∧ True) ∧
(y3 = false →
(∃ (s04 : Nat), (s04 ≤ xs.length ∧ sameUp xs ys s04) ∧ (↑s04 : Int) = (0 : Int) ∧ ys = ys ∧ f = f ∧ xs = xs ∧ (↑xs.length : Int) = (↑xs.length : Int) ∧ True) ∧
∀ (s4 : Nat),
lett (decide ((↑s4 : Int) < (↑xs.length : Int))) fun (y5 : Bool) =>
lett (xs.getD (↑s4 : Int).toNat ([], [], [])) fun (y6 : List Int × List Int × List (Int × List (Int × Int) × Int × Int × Int)) =>
lett (!y6 == ys.getD (↑s4 : Int).toNat ([], [], [])) fun (y7 : Bool) =>
s4 ≤ xs.length ∧ sameUp xs ys s4 →
(y5 = true →
InB (↑s4 : Int) xs.length ∧
InB (↑s4 : Int) ys.length ∧
shortN y6 ∧
(y7 = true → false = (xs == ys) ∧ True) ∧
(y7 = false →
InR IntKind.i64 ((↑s4 : Int) + (1 : Int)) ∧
∃ (s'8 : Nat),
(s'8 ≤ xs.length ∧ sameUp xs ys s'8) ∧
xs.length - s'8 < xs.length - s4 ∧ (↑s'8 : Int) = (↑s4 : Int) + (1 : Int) ∧ ys = ys ∧ f = f ∧ xs = xs ∧ (↑xs.length : Int) = (↑xs.length : Int) ∧ True)) ∧
(y5 = false → true = (xs == ys) ∧ True))) := by kernel_rfl

theorem b280026 (xs : List NoteD) (ys : List NoteD) (f : Unit) (hp : shortL xs) : bodyVC (ctxOf tab [(27, c27)]) Try.f26 c280026 (a280026 (xs, ys, f, ())) (xs, ys, f, ()) := by
  obtain ⟨hp, hq⟩ := hp
  have hp : xs.length ≤ 1000000 := hp
  rw [v280026]
  refine lett.mk fun y2 e2 => ?_
  simp only [true_and, and_true]
  refine ⟨neq_of e2, fun h => ?_⟩
  have h := eqlen_of e2 h
  refine ⟨⟨0, ⟨by omega, h, rfl⟩, rfl⟩, fun s => lett.mk fun y5 e5 => lett.mk fun y6 e6 => lett.mk fun y7 e7 => ?_⟩
  rintro ⟨h1, h2, h3⟩
  rw [Int.toNat_natCast] at e6 e7
  refine ⟨fun hs => ?_, fun hs => ?_⟩
  · have hs := lt_of_y e5 hs
    refine ⟨⟨by omega, by omega⟩, ⟨by omega, by omega⟩, hq _ (by rw [e6]; exact mem_getD _ hs), fun e => ?_, fun e => ⟨inR64 (by omega) (by omega), s + 1, ⟨by omega, h, ?_⟩, by omega, by omega⟩⟩
    · have := ne_of_beq e7 e
      rw [e6] at this
      exact sameUp_not (s := s) zeroN this
    · have := eq_of_beq' e7 e
      rw [e6] at this
      exact sameUp_succ zeroN h h3 hs this
  · exact sameUp_full h h3 (le_of_y e5 hs)

theorem ok280026 : DOk Try.prog 26 c280026 :=
  DOk.of' (l := [(27, c27)]) (A := a280026) tabOk ⟨ok27, trivial⟩ Try.func26 (by kernel_rfl) (by kernel_rfl) fun x _ hp => b280026 x.1 x.2.1 x.2.2.1 hp

theorem v13 (xs : List (List Int × List Int × List (Int × List (Int × Int) × Int × Int × Int))) (ys : List (List Int × List Int × List (Int × List (Int × Int) × Int × Int × Int))) : bodyVC (ctxOf tab [(280026, c280026)] [] [(27, .unit)]) Try.f13 c13 noAnn (xs, ys, ()) = (
shortL xs ∧ (xs == ys) = (xs == ys) ∧ True) := by kernel_rfl

theorem ok13 : DOk Try.prog 13 c13 :=
  DOk.of' (l := [(280026, c280026)]) (clos := [(27, .unit)]) (A := fun _ => noAnn) tabOk ⟨ok280026, trivial⟩ Try.func13 (by kernel_rfl) (by kernel_rfl) fun x _ hp => by
    obtain ⟨xs, ys, ⟨⟩⟩ := x
    rw [v13]
    exact ⟨hp, rfl, trivial⟩

theorem v8 (l : List (List Int × List Int × List (Int × List (Int × Int) × Int × Int × Int))) : bodyVC (ctxOf tab []) Try.f8 c8 (a8' (l, ())) (l, ()) = (
lett (decide ((↑l.length : Int) > (40 : Int))) fun (y1 : Bool) =>
lett
(decide (l.length ≤ (40 : Nat)) &&
l.all fun (n : NoteD) =>
decide (n.fst.length ≤ (100 : Nat)) &&
(decide (n.snd.fst.length ≤ (100 : Nat)) && (decide (n.snd.snd.length ≤ (20 : Nat)) && n.snd.snd.all fun (b : BodyD) => decide (b.snd.fst.length ≤ (200 : Nat)))))
fun (y2 : Bool) =>
(y1 = true → false = y2 ∧ True) ∧
(y1 = false →
(∃ (s03 : Nat), (s03 ≤ l.length ∧ (List.take s03 l).all fFewN = true) ∧ (↑s03 : Int) = (0 : Int) ∧ l = l ∧ (↑l.length : Int) = (↑l.length : Int) ∧ True) ∧
∀ (s3 : Nat),
lett (decide ((↑s3 : Int) < (↑l.length : Int))) fun (y4 : Bool) =>
lett (l.getD (↑s3 : Int).toNat ([], [], [])) fun (y5 : List Int × List Int × List (Int × List (Int × Int) × Int × Int × Int)) =>
lett
(bif bif decide ((↑y5.fst.length : Int) > (100 : Int)) then true else decide ((↑y5.snd.fst.length : Int) > (100 : Int)) then true
else decide ((↑y5.snd.snd.length : Int) > (20 : Int)))
fun (y6 : Bool) =>
lett (l.getD (↑s3 : Int).toNat zeroN).snd.snd fun (y7 : List BodyD) =>
s3 ≤ l.length ∧ (List.take s3 l).all fFewN = true →
(y4 = true →
InB (↑s3 : Int) l.length ∧
(y6 = true → false = y2 ∧ True) ∧
(y6 = false →
(∃ (s08 : Nat),
(s08 ≤ y7.length ∧ ((List.take s08 y7).all fun (b : BodyD) => decide (b.snd.fst.length ≤ (200 : Nat))) = true) ∧
(↑s08 : Int) = (0 : Int) ∧
l = l ∧
(↑l.length : Int) = (↑l.length : Int) ∧
(↑s3 : Int) = (↑s3 : Int) ∧ y5.snd.snd = y5.snd.snd ∧ (↑y5.snd.snd.length : Int) = (↑y5.snd.snd.length : Int) ∧ True) ∧
∀ (s8 : Nat),
lett (decide ((↑s8 : Int) < (↑y5.snd.snd.length : Int))) fun (y9 : Bool) =>
lett (decide ((↑(y5.snd.snd.getD (↑s8 : Int).toNat ((0 : Int), [], (0 : Int), (0 : Int), (0 : Int))).snd.fst.length : Int) > (200 : Int))) fun (y10 : Bool) =>
s8 ≤ y7.length ∧ ((List.take s8 y7).all fun (b : BodyD) => decide (b.snd.fst.length ≤ (200 : Nat))) = true →
(y9 = true →
InB (↑s8 : Int) y5.snd.snd.length ∧
(y10 = true → false = y2 ∧ True) ∧
(y10 = false →
InR IntKind.i64 ((↑s8 : Int) + (1 : Int)) ∧
∃ (s'11 : Nat),
(s'11 ≤ y7.length ∧ ((List.take s'11 y7).all fun (b : BodyD) => decide (b.snd.fst.length ≤ (200 : Nat))) = true) ∧
y7.length - s'11 < y7.length - s8 ∧
(↑s'11 : Int) = (↑s8 : Int) + (1 : Int) ∧
l = l ∧
(↑l.length : Int) = (↑l.length : Int) ∧
(↑s3 : Int) = (↑s3 : Int) ∧ y5.snd.snd = y5.snd.snd ∧ (↑y5.snd.snd.length : Int) = (↑y5.snd.snd.length : Int) ∧ True)) ∧
(y9 = false →
InR IntKind.i64 ((↑s3 : Int) + (1 : Int)) ∧
∃ (s'11 : Nat),
(s'11 ≤ l.length ∧ (List.take s'11 l).all fFewN = true) ∧
l.length - s'11 < l.length - s3 ∧ (↑s'11 : Int) = (↑s3 : Int) + (1 : Int) ∧ l = l ∧ (↑l.length : Int) = (↑l.length : Int) ∧ True))) ∧
(y4 = false → true = y2 ∧ True))) := by kernel_rfl

theorem b8 (l : List NoteD) : bodyVC (ctxOf tab []) Try.f8 c8 (a8' (l, ())) (l, ()) := by
  rw [v8]
  refine lett.mk fun y1 e1 => lett.mk fun y2 e2 => ?_
  have e2 : y2 = (decide (l.length ≤ 40) && l.all fFewN) := e2
  rw [gtN _ 40 40 rfl] at e1
  simp only [true_and, and_true]
  refine ⟨fun h => ?_, fun hl => ?_⟩
  · rw [e1] at h
    simp only [Bool.not_eq_true'] at h
    rw [e2, h]; rfl
  rw [e1] at hl
  simp only [Bool.not_eq_false'] at hl
  rw [hl, Bool.true_and] at e2
  have hl := of_decide_eq_true hl
  rw [e2]
  refine ⟨⟨0, ⟨by omega, by simp⟩, rfl⟩, fun s => lett.mk fun y4 e4 => lett.mk fun y5 e5 => lett.mk fun y6 e6 => lett.mk fun y7 e7 => ?_⟩
  rintro ⟨h1, h2⟩
  rw [Int.toNat_natCast] at e5 e7
  have e5 : y5 = l.getD s zeroN := e5
  have e7 : y7 = y5.2.2 := by rw [e7, e5]
  subst e7
  rw [gtN _ 100 100 rfl, gtN _ 100 100 rfl, gtN _ 20 20 rfl] at e6
  have hN : fFewN y5 = (!y6 && y5.2.2.all fun b => decide (b.2.1.length ≤ 200)) := by
    rw [e6]
    unfold fFewN
    have key : ∀ a b c d : Bool, (a && (b && (c && d))) = ((!(bif (bif !a then true else !b) then true else !c)) && d) := by decide
    exact key _ _ _ _
  refine ⟨fun hs => ?_, fun hs => ?_⟩
  · have hs := lt_of_y e4 hs
    refine ⟨⟨by omega, by omega⟩, fun h6 => ?_, fun h6 => ⟨⟨0, ⟨by omega, by simp⟩, rfl⟩, fun t => lett.mk fun y9 e9 => lett.mk fun y10 e10 => ?_⟩⟩
    · exact (all_no zeroN hs (by rw [← e5, hN, h6]; rfl)).symm
    have hl20 : y5.2.2.length ≤ 20 := by
      rw [e6] at h6
      have key : ∀ a b c : Bool, (bif (bif !a then true else !b) then true else !c) = false → c = true := by decide
      exact of_decide_eq_true (key _ _ _ h6)
    rintro ⟨g1, g2⟩
    rw [Int.toNat_natCast, gtN _ 200 200 rfl] at e10
    refine ⟨fun ht => ?_, fun ht => ?_⟩
    · have ht := lt_of_y e9 ht
      refine ⟨⟨by omega, by omega⟩, fun h14 => ?_, fun h14 => ⟨inR64 (by omega) (by omega), t + 1, ⟨by omega, ?_⟩, by omega, by omega⟩⟩
      · refine (all_no zeroN hs ?_).symm
        rw [← e5, hN, h6, all_no zeroB ht (by rw [e10] at h14; simp only [Bool.not_eq_true'] at h14; exact h14)]
        rfl
      · exact all_succ zeroB ht g2 (by rw [e10] at h14; simp only [Bool.not_eq_false'] at h14; exact h14)
    · refine ⟨inR64 (by omega) (by omega), s + 1, ⟨by omega, ?_⟩, by omega, by omega⟩
      exact all_succ zeroN hs h2 (by rw [← e5, hN, h6, all_full (le_of_y e9 ht) g2]; rfl)
  · exact (all_full (le_of_y e4 hs) h2).symm

theorem ok8 : DOk Try.prog 8 c8 :=
  DOk.of' (l := []) (A := a8') tabOk trivial Try.func8 (by kernel_rfl) (by kernel_rfl) fun x _ hp => b8 x.1

end Ytjmmamlipkbckaa
end Go.Proofs
