/-
  The diary's small functions: written out and proved.
-/
import Derived.Test.YtjmmamlipkbckaaVnb
import Derived.IntWalk
set_option maxRecDepth 100000
set_option linter.unusedVariables false
set_option linter.unusedSimpArgs false
set_option maxHeartbeats 1000000
namespace Go.Proofs
open Go Go.Vc
namespace Ytjmmamlipkbckaa

theorem inR64 {n : Int} (h1 : -1000000000000 ≤ n) (h2 : n ≤ 1000000000000) : InR .i64 n := by
  show IntKind.min .i64 ≤ n ∧ n ≤ IntKind.max .i64
  have e1 : IntKind.min .i64 = -9223372036854775808 := by decide
  have e2 : IntKind.max .i64 = 9223372036854775807 := by decide
  omega

theorem inR_u8 {n : Int} (h : InR .u8 n) : 0 ≤ n ∧ n ≤ 255 := by
  have h : IntKind.min .u8 ≤ n ∧ n ≤ IntKind.max .u8 := h
  have e1 : IntKind.min .u8 = 0 := by decide
  have e2 : IntKind.max .u8 = 255 := by decide
  omega

theorem inR_i64 {n : Int} (h : InR .i64 n) : -9223372036854775808 ≤ n ∧ n ≤ 9223372036854775807 := by
  have h : IntKind.min .i64 ≤ n ∧ n ≤ IntKind.max .i64 := h
  have e1 : IntKind.min .i64 = -9223372036854775808 := by decide
  have e2 : IntKind.max .i64 = 9223372036854775807 := by decide
  omega

theorem room {n b : Nat} (h : n ≤ 2000000) (hb : b ≤ 1000) : roomFor n b := by
  unfold roomFor
  have : n * (b + 1) ≤ 2000000 * 1001 := Nat.mul_le_mul h (by omega)
  omega

/-! ### Lists -/

theorem getD_at {α : Type} {xs : List α} {s : Nat} (d : α) (h : s < xs.length) : xs.getD s d = xs[s] := by simp [List.getD_eq_getElem?_getD, h]

theorem take_succ' {α : Type} {xs : List α} {s : Nat} (d : α) (h : s < xs.length) : xs.take (s + 1) = xs.take s ++ [xs.getD s d] := by
  rw [List.take_succ_eq_append_getElem h, getD_at d h]

theorem fFind_any {α : Type} {p : α → Bool} {xs : List α} : decide (fFind p xs ≥ 0) = xs.any p := by
  unfold fFind
  cases h : xs.any p <;> simp

theorem fFind_at {α : Type} {p : α → Bool} {xs : List α} {s : Nat} (d : α) (h : s < xs.length) (h0 : (xs.take s).any p = false) (h1 : p (xs.getD s d) = true) : (s : Int) = fFind p xs := by
  rw [getD_at d h] at h1
  have ha : xs.any p = true := List.any_eq_true.2 ⟨xs[s], List.getElem_mem h, h1⟩
  have hi : xs.findIdx p = s := by
    rw [List.findIdx_eq h]
    refine ⟨h1, fun j hj => ?_⟩
    have := List.any_eq_false.1 h0 xs[j] (by rw [List.mem_take_iff_getElem]; exact ⟨j, by omega, rfl⟩)
    simpa using this
  unfold fFind
  rw [if_pos ha, hi]

theorem fFind_none {α : Type} {p : α → Bool} {xs : List α} {s : Nat} (h : xs.length ≤ s) (h0 : (xs.take s).any p = false) : -1 = fFind p xs := by
  rw [List.take_of_length_le h] at h0
  unfold fFind
  rw [h0]
  rfl

theorem any_succ {α : Type} {p : α → Bool} {xs : List α} {s : Nat} (d : α) (h : s < xs.length) (h0 : (xs.take s).any p = false) (h1 : p (xs.getD s d) = false) : (xs.take (s + 1)).any p = false := by
  rw [take_succ' d h, List.any_append, h0]
  simp only [List.any_cons, List.any_nil, Bool.or_false, Bool.false_or]
  exact h1

theorem sameUp_succ {α : Type} {xs ys : List α} {s : Nat} (d : α) (hl : xs.length = ys.length) (h : xs.take s = ys.take s) (hs : s < xs.length) (e : xs.getD s d = ys.getD s d) : xs.take (s + 1) = ys.take (s + 1) := by
  rw [take_succ' d hs, take_succ' d (hl ▸ hs), h, e]

theorem sameUp_full {α : Type} [BEq α] [LawfulBEq α] {xs ys : List α} {s : Nat} (hl : xs.length = ys.length) (h : xs.take s = ys.take s) (hs : xs.length ≤ s) : true = (xs == ys) := by
  rw [List.take_of_length_le hs, List.take_of_length_le (hl ▸ hs)] at h
  simp [h]

theorem sameUp_not {α : Type} [BEq α] [LawfulBEq α] {xs ys : List α} {s : Nat} (d : α) (e : xs.getD s d ≠ ys.getD s d) : false = (xs == ys) := by
  symm
  rw [beq_eq_false_iff_ne]
  rintro rfl
  exact e rfl

theorem all_not {α : Type} (p : α → Bool) (l : List α) : (!l.any fun n => !p n) = l.all p := by
  induction l with
  | nil => rfl
  | cons x l ih => simp only [List.any_cons, List.all_cons, Bool.not_or, Bool.not_not, ih]

theorem all_succ {α : Type} {p : α → Bool} {l : List α} {s : Nat} (d : α) (h : s < l.length) (h0 : (l.take s).all p = true) (h1 : p (l.getD s d) = true) : (l.take (s + 1)).all p = true := by
  rw [take_succ' d h, List.all_append, h0]
  simpa using h1

theorem all_no {α : Type} {p : α → Bool} {l : List α} {s : Nat} (d : α) (h : s < l.length) (h1 : p (l.getD s d) = false) : l.all p = false := by
  cases hc : l.all p with
  | false => rfl
  | true =>
    have := List.all_eq_true.1 hc (l.getD s d) (by rw [getD_at d h]; exact List.getElem_mem h)
    rw [this] at h1
    cases h1

theorem all_full {α : Type} {p : α → Bool} {l : List α} {s : Nat} (h : l.length ≤ s) (h0 : (l.take s).all p = true) : l.all p = true := by
  rw [List.take_of_length_le h] at h0
  exact h0

theorem mem_getD {α : Type} {l : List α} {s : Nat} (d : α) (h : s < l.length) : l.getD s d ∈ l := by rw [getD_at d h]; exact List.getElem_mem h

theorem lt_of_y {a b : Nat} {y : Bool} (e : y = decide ((a : Int) < (b : Int))) (h : y = true) : a < b := by
  rw [e] at h
  have := of_decide_eq_true h
  omega

theorem le_of_y {a b : Nat} {y : Bool} (e : y = decide ((a : Int) < (b : Int))) (h : y = false) : b ≤ a := by
  rw [e] at h
  have := of_decide_eq_false h
  omega

theorem v38 (n : Int) (lo : Int) (hi : Int) : bodyVC (ctxOf tab []) Try.f38 c38 noAnn (n, lo, hi, ()) = (
(bif decide (n ≥ lo) then decide (n ≤ hi) else false) = fIn lo hi n ∧ True) := by kernel_rfl

theorem ok38 : DOk Try.prog 38 c38 :=
  DOk.of' (l := []) (A := fun _ => noAnn) tabOk trivial Try.func38 (by kernel_rfl) (by kernel_rfl) fun x _ hp => by
    obtain ⟨n, lo, hi, ⟨⟩⟩ := x
    rw [v38]
    refine ⟨?_, trivial⟩
    unfold fIn
    cases decide (lo ≤ n) <;> simp_all

theorem v36 (n : Int) (most : Int) : bodyVC (ctxOf tab []) Try.f36 c36 noAnn (n, most, ()) = (
(bif decide (n < (0 : Int)) then true else decide (n > most)) = !fIn (0 : Int) most n ∧ True) := by kernel_rfl

theorem ok36 : DOk Try.prog 36 c36 :=
  DOk.of' (l := []) (A := fun _ => noAnn) tabOk trivial Try.func36 (by kernel_rfl) (by kernel_rfl) fun x _ hp => by
    obtain ⟨n, most, ⟨⟩⟩ := x
    rw [v36]
    refine ⟨?_, trivial⟩
    have key : ∀ n most : Int, (bif decide (n < 0) then true else decide (n > most)) = !fIn 0 most n := fun n most => by
      unfold fIn
      by_cases h1 : n < 0
      · have : ¬ (0 : Int) ≤ n := by omega
        simp [h1, this]
      · have : (0 : Int) ≤ n := by omega
        by_cases h2 : n ≤ most
        · have : ¬ most < n := by omega
          simp [*]
        · have : most < n := by omega
          simp [*]
    exact key n most

theorem v370043 (xs : List Int) (f : Int × Unit) : bodyVC (ctxOf tab [(36, c36)]) Try.f43 c370043 (a370043 (xs, f, ())) (xs, f, ()) = (
lett (fFind (fun (n : Int) => !fIn (0 : Int) f.fst n) xs) fun (y2 : Int) =>
(∃ (s03 : Nat),
(s03 ≤ xs.length ∧ ((List.take s03 xs).any fun (n : Int) => !fIn (0 : Int) f.fst n) = false) ∧ (↑s03 : Int) = (0 : Int) ∧ xs = xs ∧ f = f ∧ (↑xs.length : Int) = (↑xs.length : Int) ∧ True) ∧
∀ (s3 : Nat),
lett (decide ((↑s3 : Int) < (↑xs.length : Int))) fun (y4 : Bool) =>
lett (!fIn (0 : Int) f.fst (xs.getD (↑s3 : Int).toNat (0 : Int))) fun (y5 : Bool) =>
s3 ≤ xs.length ∧ ((List.take s3 xs).any fun (n : Int) => !fIn (0 : Int) f.fst n) = false →
(y4 = true →
InB (↑s3 : Int) xs.length ∧
True ∧
(y5 = true → (↑s3 : Int) = y2 ∧ True) ∧
(y5 = false →
InR IntKind.i64 ((↑s3 : Int) + (1 : Int)) ∧
∃ (s'6 : Nat),
(s'6 ≤ xs.length ∧ ((List.take s'6 xs).any fun (n : Int) => !fIn (0 : Int) f.fst n) = false) ∧
xs.length - s'6 < xs.length - s3 ∧ (↑s'6 : Int) = (↑s3 : Int) + (1 : Int) ∧ xs = xs ∧ f = f ∧ (↑xs.length : Int) = (↑xs.length : Int) ∧ True)) ∧
(y4 = false → (-1 : Int) = y2 ∧ True)) := by kernel_rfl

theorem ok370043 : DOk Try.prog 43 c370043 :=
  DOk.of' (l := [(36, c36)]) (A := a370043) tabOk ⟨ok36, trivial⟩ Try.func43 (by kernel_rfl) (by kernel_rfl) fun x _ hp => by
    obtain ⟨xs, f, ⟨⟩⟩ := x
    have hp : xs.length ≤ 1000000 := hp
    rw [v370043]
    refine lett.mk fun y2 e2 => ?_
    simp only [true_and, and_true]
    refine ⟨⟨0, ⟨by omega, by simp⟩, rfl⟩, fun s => lett.mk fun y4 e4 => lett.mk fun y5 e5 => ?_⟩
    rintro ⟨h1, h2⟩
    rw [Int.toNat_natCast] at e5
    refine ⟨fun hs => ?_, fun hs => ?_⟩
    · rw [e4] at hs
      have hs : s < xs.length := by simpa using hs
      refine ⟨⟨by omega, by omega⟩, fun e => ?_, fun e => ⟨inR64 (by omega) (by omega), s + 1, ⟨by omega, ?_⟩, by omega, by omega⟩⟩
      · rw [e2]
        exact fFind_at (0 : Int) hs h2 (by rw [← e5]; exact e)
      · exact any_succ (0 : Int) hs h2 (by rw [← e5]; exact e)
    · rw [e4] at hs
      rw [e2]
      exact fFind_none (s := s) (by simpa using hs) h2

theorem v370035 (xs : List Int) (f : Int × Unit) : bodyVC (ctxOf tab [(370043, c370043)]) Try.f35 c370035 noAnn (xs, f, ()) = (
lett (fFind (fun (n : Int) => !fIn (0 : Int) f.fst n) xs) fun (y2 : Int) => short xs ∧ (decide (y2 ≥ (0 : Int)) = xs.any fun (n : Int) => !fIn (0 : Int) f.fst n) ∧ True) := by kernel_rfl

theorem ok370035 : DOk Try.prog 35 c370035 :=
  DOk.of' (l := [(370043, c370043)]) (A := fun _ => noAnn) tabOk ⟨ok370043, trivial⟩ Try.func35 (by kernel_rfl) (by kernel_rfl) fun x _ hp => by
    obtain ⟨xs, f, ⟨⟩⟩ := x
    rw [v370035]
    refine lett.mk fun y2 e2 => ⟨hp, ?_, trivial⟩
    rw [e2]
    exact fFind_any

theorem v18 (m : Int) (l : List Int) : bodyVC (ctxOf tab [(370035, c370035)] [] [(36, .pair (.ref I) .unit)]) Try.f18 c18 noAnn (m, l, ()) = (
short l ∧ (!l.any fun (n : Int) => !fIn (0 : Int) m n) = l.all (fIn (0 : Int) m) ∧ True) := by kernel_rfl

theorem ok18 : DOk Try.prog 18 c18 :=
  DOk.of' (l := [(370035, c370035)]) (clos := [(36, .pair (.ref I) .unit)]) (A := fun _ => noAnn) tabOk ⟨ok370035, trivial⟩ Try.func18 (by kernel_rfl) (by kernel_rfl) fun x _ hp => by
    obtain ⟨m, l, ⟨⟩⟩ := x
    rw [v18]
    exact ⟨hp, all_not _ l, trivial⟩

theorem v22 (l : List Int) (lo : Int) (hi : Int) : bodyVC (ctxOf tab [(38, c38)]) Try.f22 c22 (a22 (l, lo, hi, ())) (l, lo, hi, ()) = (
(∃ (s03 : Nat), (s03 ≤ l.length ∧ (List.take s03 l).all (fIn lo hi) = true) ∧ (↑s03 : Int) = (0 : Int) ∧ lo = lo ∧ hi = hi ∧ l = l ∧ (↑l.length : Int) = (↑l.length : Int) ∧ True) ∧
∀ (s3 : Nat),
lett (decide ((↑s3 : Int) < (↑l.length : Int))) fun (y4 : Bool) =>
lett (!fIn lo hi (l.getD (↑s3 : Int).toNat (0 : Int))) fun (y5 : Bool) =>
s3 ≤ l.length ∧ (List.take s3 l).all (fIn lo hi) = true →
(y4 = true →
InB (↑s3 : Int) l.length ∧
True ∧
(y5 = true → false = l.all (fIn lo hi) ∧ True) ∧
(y5 = false →
InR IntKind.i64 ((↑s3 : Int) + (1 : Int)) ∧
∃ (s'6 : Nat),
(s'6 ≤ l.length ∧ (List.take s'6 l).all (fIn lo hi) = true) ∧
l.length - s'6 < l.length - s3 ∧ (↑s'6 : Int) = (↑s3 : Int) + (1 : Int) ∧ lo = lo ∧ hi = hi ∧ l = l ∧ (↑l.length : Int) = (↑l.length : Int) ∧ True)) ∧
(y4 = false → true = l.all (fIn lo hi) ∧ True)) := by kernel_rfl

theorem ok22 : DOk Try.prog 22 c22 :=
  DOk.of' (l := [(38, c38)]) (A := a22) tabOk ⟨ok38, trivial⟩ Try.func22 (by kernel_rfl) (by kernel_rfl) fun x _ hp => by
    obtain ⟨l, lo, hi, ⟨⟩⟩ := x
    have hp : l.length ≤ 1000000 := hp
    rw [v22]
    simp only [true_and, and_true]
    refine ⟨⟨0, ⟨by omega, by simp⟩, rfl⟩, fun s => lett.mk fun y4 e4 => lett.mk fun y5 e5 => ?_⟩
    rw [Int.toNat_natCast] at e5
    rintro ⟨h1, h2⟩
    refine ⟨fun hs => ?_, fun hs => ?_⟩
    · have hs := lt_of_y e4 hs
      refine ⟨⟨by omega, by omega⟩, fun e => ?_, fun e => ⟨inR64 (by omega) (by omega), s + 1, ⟨by omega, ?_⟩, by omega, by omega⟩⟩
      · exact (all_no (0 : Int) hs (by rw [e] at e5; simpa using e5.symm)).symm
      · exact all_succ (0 : Int) hs h2 (by rw [e] at e5; simpa using e5.symm)
    · exact (all_full (le_of_y e4 hs) h2).symm

end Ytjmmamlipkbckaa
end Go.Proofs
