/-
  The diary's small functions: written out and proved.
-/
import Derived.Test.YtmaafccepogakaaVdb
import Derived.IntWalk
set_option maxRecDepth 100000
set_option linter.unusedVariables false
set_option linter.unusedSimpArgs false
set_option maxHeartbeats 1000000
namespace Go.Proofs
open Go Go.Vc
namespace Ytmaafccepogakaa

theorem inR64 {n : Int} (h1 : -1000000000000 ≤ n) (h2 : n ≤ 1000000000000) : InR .i64 n := by
  show IntKind.min .i64 ≤ n ∧ n ≤ IntKind.max .i64
  have e1 : IntKind.min .i64 = -9223372036854775808 := by decide
  have e2 : IntKind.max .i64 = 9223372036854775807 := by decide
  omega

theorem inR_u8 {n : Int} (h : InR .u8 n) : 0 ≤ n ∧ n ≤ 255 := by
  have h : IntKind.min .u8 ≤ n ∧ n ≤ IntKind.max .u8 := h
  have e1 : IntKind.min .u8 = 0 := by decide
  have e2 : IntKind.max .u8 = 255 := by decide
  omega

theorem inR_i64 {n : Int} (h : InR .i64 n) : -9223372036854775808 ≤ n ∧ n ≤ 9223372036854775807 := by
  have h : IntKind.min .i64 ≤ n ∧ n ≤ IntKind.max .i64 := h
  have e1 : IntKind.min .i64 = -9223372036854775808 := by decide
  have e2 : IntKind.max .i64 = 9223372036854775807 := by decide
  omega

theorem room {n b : Nat} (h : n ≤ 2000000) (hb : b ≤ 1000) : roomFor n b := by
  unfold roomFor
  have : n * (b + 1) ≤ 2000000 * 1001 := Nat.mul_le_mul h (by omega)
  omega

/-! ### Lists -/

theorem getD_at {α : Type} {xs : List α} {s : Nat} (d : α) (h : s < xs.length) : xs.getD s d = xs[s] := by simp [List.getD_eq_getElem?_getD, h]

theorem take_succ' {α : Type} {xs : List α} {s : Nat} (d : α) (h : s < xs.length) : xs.take (s + 1) = xs.take s ++ [xs.getD s d] := by
  rw [List.take_succ_eq_append_getElem h, getD_at d h]

theorem fFind_any {α : Type} {p : α → Bool} {xs : List α} : decide (fFind p xs ≥ 0) = xs.any p := by
  unfold fFind
  cases h : xs.any p <;> simp

theorem fFind_at {α : Type} {p : α → Bool} {xs : List α} {s : Nat} (d : α) (h : s < xs.length) (h0 : (xs.take s).any p = false) (h1 : p (xs.getD s d) = true) : (s : Int) = fFind p xs := by
  rw [getD_at d h] at h1
  have ha : xs.any p = true := List.any_eq_true.2 ⟨xs[s], List.getElem_mem h, h1⟩
  have hi : xs.findIdx p = s := by
    rw [List.findIdx_eq h]
    refine ⟨h1, fun j hj => ?_⟩
    have := List.any_eq_false.1 h0 xs[j] (by rw [List.mem_take_iff_getElem]; exact ⟨j, by omega, rfl⟩)
    simpa using this
  unfold fFind
  rw [if_pos ha, hi]

theorem fFind_none {α : Type} {p : α → Bool} {xs : List α} {s : Nat} (h : xs.length ≤ s) (h0 : (xs.take s).any p = false) : -1 = fFind p xs := by
  rw [List.take_of_length_le h] at h0
  unfold fFind
  rw [h0]
  rfl

theorem any_succ {α : Type} {p : α → Bool} {xs : List α} {s : Nat} (d : α) (h : s < xs.length) (h0 : (xs.take s).any p = false) (h1 : p (xs.getD s d) = false) : (xs.take (s + 1)).any p = false := by
  rw [take_succ' d h, List.any_append, h0]
  simp only [List.any_cons, List.any_nil, Bool.or_false, Bool.false_or]
  exact h1

theorem sameUp_succ {α : Type} {xs ys : List α} {s : Nat} (d : α) (hl : xs.length = ys.length) (h : xs.take s = ys.take s) (hs : s < xs.length) (e : xs.getD s d = ys.getD s d) : xs.take (s + 1) = ys.take (s + 1) := by
  rw [take_succ' d hs, take_succ' d (hl ▸ hs), h, e]

theorem sameUp_full {α : Type} [BEq α] [LawfulBEq α] {xs ys : List α} {s : Nat} (hl : xs.length = ys.length) (h : xs.take s = ys.take s) (hs : xs.length ≤ s) : true = (xs == ys) := by
  rw [List.take_of_length_le hs, List.take_of_length_le (hl ▸ hs)] at h
  simp [h]

theorem sameUp_not {α : Type} [BEq α] [LawfulBEq α] {xs ys : List α} {s : Nat} (d : α) (e : xs.getD s d ≠ ys.getD s d) : false = (xs == ys) := by
  symm
  rw [beq_eq_false_iff_ne]
  rintro rfl
  exact e rfl

theorem all_not {α : Type} (p : α → Bool) (l : List α) : (!l.any fun n => !p n) = l.all p := by
  induction l with
  | nil => rfl
  | cons x l ih => simp only [List.any_cons, List.all_cons, Bool.not_or, Bool.not_not, ih]

theorem v21 (n : Int) (lo : Int) (hi : Int) : bodyVC (ctxOf tab []) Try.f21 c21 noAnn (n, lo, hi, ()) = (
(bif decide (n ≥ lo) then decide (n ≤ hi) else false) = fIn lo hi n ∧ True) := by kernel_rfl

theorem ok21 : DOk Try.prog 21 c21 :=
  DOk.of' (l := []) (A := fun _ => noAnn) tabOk trivial Try.func21 (by kernel_rfl) (by kernel_rfl) fun x _ hp => by
    obtain ⟨n, lo, hi, ⟨⟩⟩ := x
    rw [v21]
    refine ⟨?_, trivial⟩
    unfold fIn
    cases decide (lo ≤ n) <;> simp_all

theorem v36 (n : Int) (most : Int) : bodyVC (ctxOf tab []) Try.f36 c36 noAnn (n, most, ()) = (
(bif decide (n < (0 : Int)) then true else decide (n > most)) = !fIn (0 : Int) most n ∧ True) := by kernel_rfl

theorem ok36 : DOk Try.prog 36 c36 :=
  DOk.of' (l := []) (A := fun _ => noAnn) tabOk trivial Try.func36 (by kernel_rfl) (by kernel_rfl) fun x _ hp => by
    obtain ⟨n, most, ⟨⟩⟩ := x
    rw [v36]
    refine ⟨?_, trivial⟩
    have key : ∀ n most : Int, (bif decide (n < 0) then true else decide (n > most)) = !fIn 0 most n := fun n most => by
      unfold fIn
      by_cases h1 : n < 0
      · have : ¬ (0 : Int) ≤ n := by omega
        simp [h1, this]
      · have : (0 : Int) ≤ n := by omega
        by_cases h2 : n ≤ most
        · have : ¬ most < n := by omega
          simp [*]
        · have : most < n := by omega
          simp [*]
    exact key n most

theorem v370039 (xs : List Int) (f : Int × Unit) : bodyVC (ctxOf tab [(36, c36)]) Try.f39 c370039 (a370039 (xs, f, ())) (xs, f, ()) = (
lett (fFind (fun (n : Int) => !fIn (0 : Int) f.fst n) xs) fun (y2 : Int) =>
(∃ (s03 : Nat),
(s03 ≤ xs.length ∧ ((List.take s03 xs).any fun (n : Int) => !fIn (0 : Int) f.fst n) = false) ∧ (↑s03 : Int) = (0 : Int) ∧ xs = xs ∧ f = f ∧ (↑xs.length : Int) = (↑xs.length : Int) ∧ True) ∧
∀ (s3 : Nat),
lett (decide ((↑s3 : Int) < (↑xs.length : Int))) fun (y4 : Bool) =>
lett (!fIn (0 : Int) f.fst (xs.getD (↑s3 : Int).toNat (0 : Int))) fun (y5 : Bool) =>
s3 ≤ xs.length ∧ ((List.take s3 xs).any fun (n : Int) => !fIn (0 : Int) f.fst n) = false →
(y4 = true →
InB (↑s3 : Int) xs.length ∧
True ∧
(y5 = true → (↑s3 : Int) = y2 ∧ True) ∧
(y5 = false →
InR IntKind.i64 ((↑s3 : Int) + (1 : Int)) ∧
∃ (s'6 : Nat),
(s'6 ≤ xs.length ∧ ((List.take s'6 xs).any fun (n : Int) => !fIn (0 : Int) f.fst n) = false) ∧
xs.length - s'6 < xs.length - s3 ∧ (↑s'6 : Int) = (↑s3 : Int) + (1 : Int) ∧ xs = xs ∧ f = f ∧ (↑xs.length : Int) = (↑xs.length : Int) ∧ True)) ∧
(y4 = false → (-1 : Int) = y2 ∧ True)) := by kernel_rfl

theorem ok370039 : DOk Try.prog 39 c370039 :=
  DOk.of' (l := [(36, c36)]) (A := a370039) tabOk ⟨ok36, trivial⟩ Try.func39 (by kernel_rfl) (by kernel_rfl) fun x _ hp => by
    obtain ⟨xs, f, ⟨⟩⟩ := x
    have hp : xs.length ≤ 1000000 := hp
    rw [v370039]
    refine lett.mk fun y2 e2 => ?_
    simp only [true_and, and_true]
    refine ⟨⟨0, ⟨by omega, by simp⟩, rfl⟩, fun s => lett.mk fun y4 e4 => lett.mk fun y5 e5 => ?_⟩
    rintro ⟨h1, h2⟩
    rw [Int.toNat_natCast] at e5
    refine ⟨fun hs => ?_, fun hs => ?_⟩
    · rw [e4] at hs
      have hs : s < xs.length := by simpa using hs
      refine ⟨⟨by omega, by omega⟩, fun e => ?_, fun e => ⟨inR64 (by omega) (by omega), s + 1, ⟨by omega, ?_⟩, by omega, by omega⟩⟩
      · rw [e2]
        exact fFind_at (0 : Int) hs h2 (by rw [← e5]; exact e)
      · exact any_succ (0 : Int) hs h2 (by rw [← e5]; exact e)
    · rw [e4] at hs
      rw [e2]
      exact fFind_none (s := s) (by simpa using hs) h2

theorem v370035 (xs : List Int) (f : Int × Unit) : bodyVC (ctxOf tab [(370039, c370039)]) Try.f35 c370035 noAnn (xs, f, ()) = (
lett (fFind (fun (n : Int) => !fIn (0 : Int) f.fst n) xs) fun (y2 : Int) => short xs ∧ (decide (y2 ≥ (0 : Int)) = xs.any fun (n : Int) => !fIn (0 : Int) f.fst n) ∧ True) := by kernel_rfl

theorem ok370035 : DOk Try.prog 35 c370035 :=
  DOk.of' (l := [(370039, c370039)]) (A := fun _ => noAnn) tabOk ⟨ok370039, trivial⟩ Try.func35 (by kernel_rfl) (by kernel_rfl) fun x _ hp => by
    obtain ⟨xs, f, ⟨⟩⟩ := x
    rw [v370035]
    refine lett.mk fun y2 e2 => ⟨hp, ?_, trivial⟩
    rw [e2]
    exact fFind_any

theorem v20 (m : Int) (l : List Int) : bodyVC (ctxOf tab [(370035, c370035)] [] [(36, .pair (.ref I) .unit)]) Try.f20 c20 noAnn (m, l, ()) = (
short l ∧ (!l.any fun (n : Int) => !fIn (0 : Int) m n) = l.all (fIn (0 : Int) m) ∧ True) := by kernel_rfl

theorem ok20 : DOk Try.prog 20 c20 :=
  DOk.of' (l := [(370035, c370035)]) (clos := [(36, .pair (.ref I) .unit)]) (A := fun _ => noAnn) tabOk ⟨ok370035, trivial⟩ Try.func20 (by kernel_rfl) (by kernel_rfl) fun x _ hp => by
    obtain ⟨m, l, ⟨⟩⟩ := x
    rw [v20]
    exact ⟨hp, all_not _ l, trivial⟩

theorem v37 (b : Bool) (n : Int) : bodyVC (ctxOf tab []) Try.f37 c37 noAnn (b, n, ()) = (
(b = true → (n = bif b then n else (0 : Int)) ∧ True) ∧ (b = false → ((0 : Int) = bif b then n else (0 : Int)) ∧ True)) := by kernel_rfl

theorem ok37 : DOk Try.prog 37 c37 :=
  DOk.of' (l := []) (A := fun _ => noAnn) tabOk trivial Try.func37 (by kernel_rfl) (by kernel_rfl) fun x _ hp => by
    obtain ⟨b, n, ⟨⟩⟩ := x
    rw [v37]
    exact ⟨fun h => ⟨by rw [h]; rfl, trivial⟩, fun h => ⟨by rw [h]; rfl, trivial⟩⟩

theorem v27 (b : Bool) (n : Int) : bodyVC (ctxOf tab []) Try.f27 c27 noAnn (b, n, ()) = (
(b = true → (n = bif b then n else (0 : Int)) ∧ True) ∧ (b = false → ((0 : Int) = bif b then n else (0 : Int)) ∧ True)) := by kernel_rfl

theorem ok27 : DOk Try.prog 27 c27 :=
  DOk.of' (l := []) (A := fun _ => noAnn) tabOk trivial Try.func27 (by kernel_rfl) (by kernel_rfl) fun x _ hp => by
    obtain ⟨b, n, ⟨⟩⟩ := x
    rw [v27]
    exact ⟨fun h => ⟨by rw [h]; rfl, trivial⟩, fun h => ⟨by rw [h]; rfl, trivial⟩⟩

theorem v24 (n : Int) : bodyVC (ctxOf tab []) Try.f24 c24 noAnn (n, ()) = (
(0 : Int) ≤ (8 : Int) ∧
((List.replicate (2 : Nat) (0 : Int)).set (0 : Nat) (IntKind.u8.wrap (n.fdiv ((2 : Int) ^ min (Int.toNat (8 : Int)) IntKind.i64.bits)))).set (1 : Nat) (IntKind.u8.wrap n) = fTwo n ∧ True) := by kernel_rfl

theorem ok24 : DOk Try.prog 24 c24 :=
  DOk.of' (l := []) (A := fun _ => noAnn) tabOk trivial Try.func24 (by kernel_rfl) (by kernel_rfl) fun x _ hp => by
    obtain ⟨n, ⟨⟩⟩ := x
    have hp : 0 ≤ n := hp
    rw [v24]
    refine ⟨by decide, ?_, trivial⟩
    have e : ((2 : Int) ^ min (Int.toNat (8 : Int)) IntKind.i64.bits) = 256 := by decide
    rw [e, IntKind.wrap_u8, IntKind.wrap_u8, Int.fdiv_eq_ediv_of_nonneg _ (by omega)]
    rfl

theorem v26 (b : List Int) (n : Int) : obodyVC (ctxOf tab []) Try.f26 c26 noAnn (b, n, ()) = (
lett (((List.replicate (2 : Nat) (0 : Int)).set (0 : Nat) (IntKind.u8.wrap (IntKind.i64.wrap (n.tdiv (256 : Int))))).set (1 : Nat) (IntKind.u8.wrap (n.tmod (256 : Int)))) fun (y2 : List Int) =>
(256 : Int) ≠ (0 : Int) ∧ (256 : Int) ≠ (0 : Int) ∧ roomFor (b.length + y2.length) (1 : Nat) ∧ b ++ y2 = b ++ fTwo n ∧ True) := by kernel_rfl

theorem ok26 : OOk Try.prog 26 c26 :=
  OOk.of' (l := []) (A := fun _ => noAnn) tabOk trivial Try.func26 (by kernel_rfl) (by kernel_rfl) fun x hw hp => by
    obtain ⟨b, n, ⟨⟩⟩ := x
    obtain ⟨hp1, hp⟩ := hp
    have hp1 : b.length ≤ 1000000 := hp1
    have hp : 0 ≤ n := hp
    have hn : InR .i64 n := hw.2.1
    have hn := inR_i64 hn
    rw [v26]
    refine lett.mk fun y2 e2 => ⟨by decide, by decide, room (by rw [e2]; simp; omega) (by omega), ?_, trivial⟩
    have e : y2 = fTwo n := by
      rw [e2, Int.tdiv_eq_ediv_of_nonneg hp, Int.tmod_eq_emod_of_nonneg hp, IntWalk.i64_in _ (by omega), IntKind.wrap_u8, IntKind.wrap_u8]
      show [n / 256 % 256, n % 256 % 256] = [n / 256 % 256, n % 256]
      rw [Int.emod_emod]
    rw [e]

theorem v22 (l : List Int) (lo : Int) (hi : Int) : bodyVC (ctxOf tab [(21, c21)]) Try.f22 c22 (a22 (l, lo, hi, ())) (l, lo, hi, ()) = (
(∃ (s03 : Nat),
(s03 ≤ l.length ∧ ((List.take s03 l).any fun (n : Int) => !fIn lo hi n) = false) ∧ (↑s03 : Int) = (0 : Int) ∧ lo = lo ∧ hi = hi ∧ l = l ∧ (↑l.length : Int) = (↑l.length : Int) ∧ True) ∧
∀ (s3 : Nat),
lett (decide ((↑s3 : Int) < (↑l.length : Int))) fun (y4 : Bool) =>
lett (!fIn lo hi (l.getD (↑s3 : Int).toNat (0 : Int))) fun (y5 : Bool) =>
s3 ≤ l.length ∧ ((List.take s3 l).any fun (n : Int) => !fIn lo hi n) = false →
(y4 = true →
InB (↑s3 : Int) l.length ∧
True ∧
(y5 = true → false = l.all (fIn lo hi) ∧ True) ∧
(y5 = false →
InR IntKind.i64 ((↑s3 : Int) + (1 : Int)) ∧
∃ (s'6 : Nat),
(s'6 ≤ l.length ∧ ((List.take s'6 l).any fun (n : Int) => !fIn lo hi n) = false) ∧
l.length - s'6 < l.length - s3 ∧ (↑s'6 : Int) = (↑s3 : Int) + (1 : Int) ∧ lo = lo ∧ hi = hi ∧ l = l ∧ (↑l.length : Int) = (↑l.length : Int) ∧ True)) ∧
(y4 = false → true = l.all (fIn lo hi) ∧ True)) := by kernel_rfl

theorem ok22 : DOk Try.prog 22 c22 :=
  DOk.of' (l := [(21, c21)]) (A := a22) tabOk ⟨ok21, trivial⟩ Try.func22 (by kernel_rfl) (by kernel_rfl) fun x _ hp => by
    obtain ⟨l, lo, hi, ⟨⟩⟩ := x
    have hp : l.length ≤ 1000000 := hp
    rw [v22]
    simp only [true_and, and_true]
    refine ⟨⟨0, ⟨by omega, by simp⟩, rfl⟩, fun s => lett.mk fun y4 e4 => lett.mk fun y5 e5 => ?_⟩
    rw [Int.toNat_natCast] at e5
    have hall : l.all (fIn lo hi) = !l.any fun n => !fIn lo hi n := (all_not _ l).symm
    rintro ⟨h1, h2⟩
    refine ⟨fun hs => ?_, fun hs => ?_⟩
    · rw [e4] at hs
      have hs : s < l.length := by simpa using hs
      refine ⟨⟨by omega, by omega⟩, fun e => ?_, fun e => ⟨inR64 (by omega) (by omega), s + 1, ⟨by omega, ?_⟩, by omega, by omega⟩⟩
      · rw [hall]
        have : (l.any fun n => !fIn lo hi n) = true := List.any_eq_true.2 ⟨l.getD s 0, by rw [getD_at 0 hs]; exact List.getElem_mem hs, by rw [← e5]; exact e⟩
        rw [this]
        rfl
      · exact any_succ (0 : Int) hs h2 (by rw [← e5]; exact e)
    · rw [e4] at hs
      have hs : ¬ s < l.length := by simpa using hs
      rw [List.take_of_length_le (by omega)] at h2
      rw [hall, h2]
      rfl

theorem v28 (xs : List Bool) (ys : List Bool) : bodyVC (ctxOf tab []) Try.f28 c28 (a28 (xs, ys, ())) (xs, ys, ()) = (
lett ((↑xs.length : Int) != (↑ys.length : Int)) fun (y2 : Bool) =>
(y2 = true → false = (xs == ys) ∧ True) ∧
(y2 = false →
(∃ (s03 : Nat), (s03 ≤ xs.length ∧ sameUp xs ys s03) ∧ (↑s03 : Int) = (0 : Int) ∧ xs = xs ∧ ys = ys ∧ (↑xs.length : Int) = (↑xs.length : Int) ∧ True) ∧
∀ (s3 : Nat),
lett (decide ((↑s3 : Int) < (↑xs.length : Int))) fun (y4 : Bool) =>
lett (!xs.getD (↑s3 : Int).toNat false == ys.getD (↑s3 : Int).toNat false) fun (y5 : Bool) =>
s3 ≤ xs.length ∧ sameUp xs ys s3 →
(y4 = true →
InB (↑s3 : Int) xs.length ∧
InB (↑s3 : Int) ys.length ∧
(y5 = true → false = (xs == ys) ∧ True) ∧
(y5 = false →
InR IntKind.i64 ((↑s3 : Int) + (1 : Int)) ∧
∃ (s'6 : Nat),
(s'6 ≤ xs.length ∧ sameUp xs ys s'6) ∧
xs.length - s'6 < xs.length - s3 ∧ (↑s'6 : Int) = (↑s3 : Int) + (1 : Int) ∧ xs = xs ∧ ys = ys ∧ (↑xs.length : Int) = (↑xs.length : Int) ∧ True)) ∧
(y4 = false → true = (xs == ys) ∧ True))) := by kernel_rfl

theorem b28 (xs : List Bool) (ys : List Bool) (hp : xs.length ≤ 1000000) : bodyVC (ctxOf tab []) Try.f28 c28 (a28 (xs, ys, ())) (xs, ys, ()) := by
  rw [v28]
  refine lett.mk fun y2 e2 => ?_
  simp only [true_and, and_true]
  refine ⟨fun h => ?_, fun h => ?_⟩
  · rw [e2] at h
    symm
    rw [beq_eq_false_iff_ne]
    rintro rfl
    simp at h
  · have h : xs.length = ys.length := by
      rw [e2] at h
      have : (xs.length : Int) = ys.length := by simpa using h
      omega
    refine ⟨⟨0, ⟨by omega, h, rfl⟩, rfl⟩, fun s => lett.mk fun y4 e4 => lett.mk fun y5 e5 => ?_⟩
    rintro ⟨h1, h2, h3⟩
    rw [Int.toNat_natCast] at e5
    refine ⟨fun hs => ?_, fun hs => ?_⟩
    · rw [e4] at hs
      have hs : s < xs.length := by simpa using hs
      refine ⟨⟨by omega, by omega⟩, ⟨by omega, by omega⟩, fun e => ?_, fun e => ⟨inR64 (by omega) (by omega), s + 1, ⟨by omega, h, ?_⟩, by omega, by omega⟩⟩
      · exact sameUp_not (s := s) false (by rw [e5] at e; simpa using e)
      · exact sameUp_succ false h h3 hs (by rw [e5] at e; simpa using e)
    · exact sameUp_full h h3 (by rw [e4] at hs; simpa using hs)

theorem ok28 : DOk Try.prog 28 c28 :=
  DOk.of' (l := []) (A := a28) tabOk trivial Try.func28 (by kernel_rfl) (by kernel_rfl) fun x _ hp => b28 x.1 x.2.1 hp

theorem v29 (xs : List Int) (ys : List Int) : bodyVC (ctxOf tab []) Try.f29 c29 (a29 (xs, ys, ())) (xs, ys, ()) = (
lett ((↑xs.length : Int) != (↑ys.length : Int)) fun (y2 : Bool) =>
(y2 = true → false = (xs == ys) ∧ True) ∧
(y2 = false →
(∃ (s03 : Nat), (s03 ≤ xs.length ∧ sameUp xs ys s03) ∧ (↑s03 : Int) = (0 : Int) ∧ xs = xs ∧ ys = ys ∧ (↑xs.length : Int) = (↑xs.length : Int) ∧ True) ∧
∀ (s3 : Nat),
lett (decide ((↑s3 : Int) < (↑xs.length : Int))) fun (y4 : Bool) =>
lett (xs.getD (↑s3 : Int).toNat (0 : Int) != ys.getD (↑s3 : Int).toNat (0 : Int)) fun (y5 : Bool) =>
s3 ≤ xs.length ∧ sameUp xs ys s3 →
(y4 = true →
InB (↑s3 : Int) xs.length ∧
InB (↑s3 : Int) ys.length ∧
(y5 = true → false = (xs == ys) ∧ True) ∧
(y5 = false →
InR IntKind.i64 ((↑s3 : Int) + (1 : Int)) ∧
∃ (s'6 : Nat),
(s'6 ≤ xs.length ∧ sameUp xs ys s'6) ∧
xs.length - s'6 < xs.length - s3 ∧ (↑s'6 : Int) = (↑s3 : Int) + (1 : Int) ∧ xs = xs ∧ ys = ys ∧ (↑xs.length : Int) = (↑xs.length : Int) ∧ True)) ∧
(y4 = false → true = (xs == ys) ∧ True))) := by kernel_rfl

theorem b29 (xs : List Int) (ys : List Int) (hp : xs.length ≤ 1000000) : bodyVC (ctxOf tab []) Try.f29 c29 (a29 (xs, ys, ())) (xs, ys, ()) := by
  rw [v29]
  refine lett.mk fun y2 e2 => ?_
  simp only [true_and, and_true]
  refine ⟨fun h => ?_, fun h => ?_⟩
  · rw [e2] at h
    symm
    rw [beq_eq_false_iff_ne]
    rintro rfl
    simp at h
  · have h : xs.length = ys.length := by
      rw [e2] at h
      have : (xs.length : Int) = ys.length := by simpa using h
      omega
    refine ⟨⟨0, ⟨by omega, h, rfl⟩, rfl⟩, fun s => lett.mk fun y4 e4 => lett.mk fun y5 e5 => ?_⟩
    rintro ⟨h1, h2, h3⟩
    rw [Int.toNat_natCast] at e5
    refine ⟨fun hs => ?_, fun hs => ?_⟩
    · rw [e4] at hs
      have hs : s < xs.length := by simpa using hs
      refine ⟨⟨by omega, by omega⟩, ⟨by omega, by omega⟩, fun e => ?_, fun e => ⟨inR64 (by omega) (by omega), s + 1, ⟨by omega, h, ?_⟩, by omega, by omega⟩⟩
      · exact sameUp_not (s := s) 0 (by rw [e5] at e; simpa using e)
      · exact sameUp_succ 0 h h3 hs (by rw [e5] at e; simpa using e)
    · exact sameUp_full h h3 (by rw [e4] at hs; simpa using hs)

theorem ok29 : DOk Try.prog 29 c29 :=
  DOk.of' (l := []) (A := a29) tabOk trivial Try.func29 (by kernel_rfl) (by kernel_rfl) fun x _ hp => b29 x.1 x.2.1 hp

theorem v31 (xs : List Int) (ys : List Int) : bodyVC (ctxOf tab []) Try.f31 c31 (a31 (xs, ys, ())) (xs, ys, ()) = (
lett ((↑xs.length : Int) != (↑ys.length : Int)) fun (y2 : Bool) =>
(y2 = true → false = (xs == ys) ∧ True) ∧
(y2 = false →
(∃ (s03 : Nat), (s03 ≤ xs.length ∧ sameUp xs ys s03) ∧ (↑s03 : Int) = (0 : Int) ∧ xs = xs ∧ ys = ys ∧ (↑xs.length : Int) = (↑xs.length : Int) ∧ True) ∧
∀ (s3 : Nat),
lett (decide ((↑s3 : Int) < (↑xs.length : Int))) fun (y4 : Bool) =>
lett (xs.getD (↑s3 : Int).toNat (0 : Int) != ys.getD (↑s3 : Int).toNat (0 : Int)) fun (y5 : Bool) =>
s3 ≤ xs.length ∧ sameUp xs ys s3 →
(y4 = true →
InB (↑s3 : Int) xs.length ∧
InB (↑s3 : Int) ys.length ∧
(y5 = true → false = (xs == ys) ∧ True) ∧
(y5 = false →
InR IntKind.i64 ((↑s3 : Int) + (1 : Int)) ∧
∃ (s'6 : Nat),
(s'6 ≤ xs.length ∧ sameUp xs ys s'6) ∧
xs.length - s'6 < xs.length - s3 ∧ (↑s'6 : Int) = (↑s3 : Int) + (1 : Int) ∧ xs = xs ∧ ys = ys ∧ (↑xs.length : Int) = (↑xs.length : Int) ∧ True)) ∧
(y4 = false → true = (xs == ys) ∧ True))) := by kernel_rfl

theorem b31 (xs : List Int) (ys : List Int) (hp : xs.length ≤ 1000000) : bodyVC (ctxOf tab []) Try.f31 c31 (a31 (xs, ys, ())) (xs, ys, ()) := by
  rw [v31]
  refine lett.mk fun y2 e2 => ?_
  simp only [true_and, and_true]
  refine ⟨fun h => ?_, fun h => ?_⟩
  · rw [e2] at h
    symm
    rw [beq_eq_false_iff_ne]
    rintro rfl
    simp at h
  · have h : xs.length = ys.length := by
      rw [e2] at h
      have : (xs.length : Int) = ys.length := by simpa using h
      omega
    refine ⟨⟨0, ⟨by omega, h, rfl⟩, rfl⟩, fun s => lett.mk fun y4 e4 => lett.mk fun y5 e5 => ?_⟩
    rintro ⟨h1, h2, h3⟩
    rw [Int.toNat_natCast] at e5
    refine ⟨fun hs => ?_, fun hs => ?_⟩
    · rw [e4] at hs
      have hs : s < xs.length := by simpa using hs
      refine ⟨⟨by omega, by omega⟩, ⟨by omega, by omega⟩, fun e => ?_, fun e => ⟨inR64 (by omega) (by omega), s + 1, ⟨by omega, h, ?_⟩, by omega, by omega⟩⟩
      · exact sameUp_not (s := s) 0 (by rw [e5] at e; simpa using e)
      · exact sameUp_succ 0 h h3 hs (by rw [e5] at e; simpa using e)
    · exact sameUp_full h h3 (by rw [e4] at hs; simpa using hs)

theorem ok31 : DOk Try.prog 31 c31 :=
  DOk.of' (l := []) (A := a31) tabOk trivial Try.func31 (by kernel_rfl) (by kernel_rfl) fun x _ hp => b31 x.1 x.2.1 hp

theorem v33 (xs : List Bool) (ys : List Bool) : bodyVC (ctxOf tab []) Try.f33 c33 (a33 (xs, ys, ())) (xs, ys, ()) = (
lett ((↑xs.length : Int) != (↑ys.length : Int)) fun (y2 : Bool) =>
(y2 = true → false = (xs == ys) ∧ True) ∧
(y2 = false →
(∃ (s03 : Nat), (s03 ≤ xs.length ∧ sameUp xs ys s03) ∧ (↑s03 : Int) = (0 : Int) ∧ xs = xs ∧ ys = ys ∧ True) ∧
∀ (s3 : Nat),
lett (decide ((↑s3 : Int) < (↑xs.length : Int))) fun (y4 : Bool) =>
lett (!xs.getD (↑s3 : Int).toNat false == ys.getD (↑s3 : Int).toNat false) fun (y5 : Bool) =>
s3 ≤ xs.length ∧ sameUp xs ys s3 →
(y4 = true →
InB (↑s3 : Int) xs.length ∧
InB (↑s3 : Int) ys.length ∧
(y5 = true → false = (xs == ys) ∧ True) ∧
(y5 = false →
InR IntKind.i64 ((↑s3 : Int) + (1 : Int)) ∧
∃ (s'6 : Nat), (s'6 ≤ xs.length ∧ sameUp xs ys s'6) ∧ xs.length - s'6 < xs.length - s3 ∧ (↑s'6 : Int) = (↑s3 : Int) + (1 : Int) ∧ xs = xs ∧ ys = ys ∧ True)) ∧
(y4 = false → true = (xs == ys) ∧ True))) := by kernel_rfl

theorem b33 (xs : List Bool) (ys : List Bool) (hp : xs.length ≤ 1000000) : bodyVC (ctxOf tab []) Try.f33 c33 (a33 (xs, ys, ())) (xs, ys, ()) := by
  rw [v33]
  refine lett.mk fun y2 e2 => ?_
  simp only [true_and, and_true]
  refine ⟨fun h => ?_, fun h => ?_⟩
  · rw [e2] at h
    symm
    rw [beq_eq_false_iff_ne]
    rintro rfl
    simp at h
  · have h : xs.length = ys.length := by
      rw [e2] at h
      have : (xs.length : Int) = ys.length := by simpa using h
      omega
    refine ⟨⟨0, ⟨by omega, h, rfl⟩, rfl⟩, fun s => lett.mk fun y4 e4 => lett.mk fun y5 e5 => ?_⟩
    rintro ⟨h1, h2, h3⟩
    rw [Int.toNat_natCast] at e5
    refine ⟨fun hs => ?_, fun hs => ?_⟩
    · rw [e4] at hs
      have hs : s < xs.length := by simpa using hs
      refine ⟨⟨by omega, by omega⟩, ⟨by omega, by omega⟩, fun e => ?_, fun e => ⟨inR64 (by omega) (by omega), s + 1, ⟨by omega, h, ?_⟩, by omega, by omega⟩⟩
      · exact sameUp_not (s := s) false (by rw [e5] at e; simpa using e)
      · exact sameUp_succ false h h3 hs (by rw [e5] at e; simpa using e)
    · exact sameUp_full h h3 (by rw [e4] at hs; simpa using hs)

theorem ok33 : DOk Try.prog 33 c33 :=
  DOk.of' (l := []) (A := a33) tabOk trivial Try.func33 (by kernel_rfl) (by kernel_rfl) fun x _ hp => b33 x.1 x.2.1 hp

theorem v34 (xs : List Int) (ys : List Int) : bodyVC (ctxOf tab []) Try.f34 c34 (a34 (xs, ys, ())) (xs, ys, ()) = (
lett ((↑xs.length : Int) != (↑ys.length : Int)) fun (y2 : Bool) =>
(y2 = true → false = (xs == ys) ∧ True) ∧
(y2 = false →
(∃ (s03 : Nat), (s03 ≤ xs.length ∧ sameUp xs ys s03) ∧ (↑s03 : Int) = (0 : Int) ∧ xs = xs ∧ ys = ys ∧ True) ∧
∀ (s3 : Nat),
lett (decide ((↑s3 : Int) < (↑xs.length : Int))) fun (y4 : Bool) =>
lett (xs.getD (↑s3 : Int).toNat (0 : Int) != ys.getD (↑s3 : Int).toNat (0 : Int)) fun (y5 : Bool) =>
s3 ≤ xs.length ∧ sameUp xs ys s3 →
(y4 = true →
InB (↑s3 : Int) xs.length ∧
InB (↑s3 : Int) ys.length ∧
(y5 = true → false = (xs == ys) ∧ True) ∧
(y5 = false →
InR IntKind.i64 ((↑s3 : Int) + (1 : Int)) ∧
∃ (s'6 : Nat), (s'6 ≤ xs.length ∧ sameUp xs ys s'6) ∧ xs.length - s'6 < xs.length - s3 ∧ (↑s'6 : Int) = (↑s3 : Int) + (1 : Int) ∧ xs = xs ∧ ys = ys ∧ True)) ∧
(y4 = false → true = (xs == ys) ∧ True))) := by kernel_rfl

theorem b34 (xs : List Int) (ys : List Int) (hp : xs.length ≤ 1000000) : bodyVC (ctxOf tab []) Try.f34 c34 (a34 (xs, ys, ())) (xs, ys, ()) := by
  rw [v34]
  refine lett.mk fun y2 e2 => ?_
  simp only [true_and, and_true]
  refine ⟨fun h => ?_, fun h => ?_⟩
  · rw [e2] at h
    symm
    rw [beq_eq_false_iff_ne]
    rintro rfl
    simp at h
  · have h : xs.length = ys.length := by
      rw [e2] at h
      have : (xs.length : Int) = ys.length := by simpa using h
      omega
    refine ⟨⟨0, ⟨by omega, h, rfl⟩, rfl⟩, fun s => lett.mk fun y4 e4 => lett.mk fun y5 e5 => ?_⟩
    rintro ⟨h1, h2, h3⟩
    rw [Int.toNat_natCast] at e5
    refine ⟨fun hs => ?_, fun hs => ?_⟩
    · rw [e4] at hs
      have hs : s < xs.length := by simpa using hs
      refine ⟨⟨by omega, by omega⟩, ⟨by omega, by omega⟩, fun e => ?_, fun e => ⟨inR64 (by omega) (by omega), s + 1, ⟨by omega, h, ?_⟩, by omega, by omega⟩⟩
      · exact sameUp_not (s := s) 0 (by rw [e5] at e; simpa using e)
      · exact sameUp_succ 0 h h3 hs (by rw [e5] at e; simpa using e)
    · exact sameUp_full h h3 (by rw [e4] at hs; simpa using hs)

theorem ok34 : DOk Try.prog 34 c34 :=
  DOk.of' (l := []) (A := a34) tabOk trivial Try.func34 (by kernel_rfl) (by kernel_rfl) fun x _ hp => b34 x.1 x.2.1 hp

theorem v10 (m : Int) (n : Int) (e : (List Bool × List Int × List Bool × List Bool) × List Int × List Int) : bodyVC (ctxOf tab [(20, c20)]) Try.f10 c10 noAnn (m, n, e, ()) = (
lett ((List.replicate (1 : Nat) (0 : Int)).set (0 : Nat) m) fun (y3 : List Int) =>
lett (!y3.all (fIn (0 : Int) (40 : Int))) fun (y4 : Bool) =>
lett ((List.replicate (1 : Nat) (0 : Int)).set (0 : Nat) n) fun (y5 : List Int) =>
lett (!y5.all (fIn (0 : Int) (24 : Int))) fun (y6 : Bool) =>
lett
(bif bif bif (↑e.fst.fst.length : Int) != m then true else (↑e.fst.snd.fst.length : Int) != m then true else (↑e.fst.snd.snd.fst.length : Int) != n then true
else (↑e.fst.snd.snd.snd.length : Int) != n)
fun (y7 : Bool) =>
lett (bif bif e.fst.snd.fst.all (fIn (0 : Int) (2 : Int)) then decide ((↑e.snd.fst.length : Int) ≤ (200 : Int)) else false then decide ((↑e.snd.snd.length : Int) ≤ (200 : Int)) else false)
fun (y8 : Bool) =>
lett (bif y8 then e.snd.fst.all (fIn (0 : Int) (255 : Int)) else false) fun (y9 : Bool) =>
short y3 ∧
(y4 = false →
short y5 ∧
(y6 = true → false = fMay m n e ∧ True) ∧
(y6 = false →
(y7 = true → false = fMay m n e ∧ True) ∧
(y7 = false →
short e.fst.snd.fst ∧
(y8 = true → short e.snd.fst) ∧ (y9 = true → short e.snd.snd) ∧ (bif y9 then e.snd.snd.all (fIn (0 : Int) (255 : Int)) else false) = fMay m n e ∧ True))) ∧
(y4 = !false →
(true = true → false = fMay m n e ∧ True) ∧
(true = false →
(y7 = true → false = fMay m n e ∧ True) ∧
(y7 = false →
short e.fst.snd.fst ∧
(y8 = true → short e.snd.fst) ∧ (y9 = true → short e.snd.snd) ∧ (bif y9 then e.snd.snd.all (fIn (0 : Int) (255 : Int)) else false) = fMay m n e ∧ True)))) := by kernel_rfl

theorem one_all (m : Int) (p : Int → Bool) : ((List.replicate (1 : Nat) (0 : Int)).set (0 : Nat) m).all p = p m := by simp

theorem ok10 : DOk Try.prog 10 c10 :=
  DOk.of' (l := [(20, c20)]) (A := fun _ => noAnn) tabOk ⟨ok20, trivial⟩ Try.func10 (by kernel_rfl) (by kernel_rfl) fun x _ hp => by
    obtain ⟨m, n, e, ⟨⟩⟩ := x
    obtain ⟨p1, p2, p3, p4, p5, p6⟩ := hp
    rw [v10]
    refine lett.mk fun y3 e3 => lett.mk fun y4 e4 => lett.mk fun y5 e5 => lett.mk fun y6 e6 => lett.mk fun y7 e7 => lett.mk fun y8 e8 => lett.mk fun y9 e9 => ?_
    rw [e3, one_all] at e4
    rw [e5, one_all] at e6
    have hM : fMay m n e = (!y4 && (!y6 && (!y7 && (bif y9 then e.snd.snd.all (fIn (0 : Int) (255 : Int)) else false)))) := by
      rw [e4, e6, e7, e9, e8]
      unfold fMay
      have q : ∀ (a : Nat) (b : Int), ((a : Int) != b) = !((a : Int) == b) := fun _ _ => rfl
      have d : ∀ a : Nat, decide ((a : Int) ≤ 200) = decide (a ≤ 200) := fun a => by rw [decide_eq_decide]; omega
      simp only [q, d]
      cases fIn 0 40 m <;> cases fIn 0 24 n <;> cases ((e.1.1.length : Int) == m) <;> cases ((e.1.2.1.length : Int) == m) <;> cases ((e.1.2.2.1.length : Int) == n) <;> cases ((e.1.2.2.2.length : Int) == n) <;> try simp
    have s1 : ∀ m : Int, short ((List.replicate (1 : Nat) (0 : Int)).set (0 : Nat) m) := fun m => by unfold short; simp
    rw [hM]
    refine ⟨by rw [e3]; exact s1 m, fun h4 => ⟨by rw [e5]; exact s1 n, fun h6 => ⟨by rw [h6]; simp, trivial⟩, fun h6 => ⟨fun h7 => ⟨by rw [h7]; simp, trivial⟩, fun h7 => ⟨p2, fun _ => p5, fun _ => p6, by rw [h4, h6, h7]; simp, trivial⟩⟩⟩, fun h4 => ⟨fun _ => ⟨by rw [h4]; simp, trivial⟩, fun h => by cases h⟩⟩

theorem v11 (m : Int) (n : Int) (e : (List Bool × List Int × List Bool × List Bool) × List Int × List Int) : bodyVC (ctxOf tab [(21, c21), (22, c22)]) Try.f11 c11 noAnn (m, n, e, ()) = (
lett
(bif
bif bif bif bif fIn (0 : Int) (40 : Int) m then fIn (0 : Int) (24 : Int) n else false then (↑e.fst.fst.length : Int) == m else false then (↑e.fst.snd.fst.length : Int) == m else false then
(↑e.fst.snd.snd.fst.length : Int) == n
else false then
(↑e.fst.snd.snd.snd.length : Int) == n
else false)
fun (y3 : Bool) =>
lett
(bif bif bif y3 then e.fst.snd.fst.all (fIn (0 : Int) (2 : Int)) else false then decide ((↑e.snd.fst.length : Int) ≤ (200 : Int)) else false then decide ((↑e.snd.snd.length : Int) ≤ (200 : Int))
else false)
fun (y4 : Bool) =>
lett (bif y4 then e.snd.fst.all (fIn (0 : Int) (255 : Int)) else false) fun (y5 : Bool) =>
True ∧
(fIn (0 : Int) (40 : Int) m = true → True) ∧
(y3 = true → short e.fst.snd.fst) ∧ (y4 = true → short e.snd.fst) ∧ (y5 = true → short e.snd.snd) ∧ (bif y5 then e.snd.snd.all (fIn (0 : Int) (255 : Int)) else false) = fMay m n e ∧ True) := by kernel_rfl

theorem ok11 : DOk Try.prog 11 c11 :=
  DOk.of' (l := [(21, c21), (22, c22)]) (A := fun _ => noAnn) tabOk ⟨ok21, ok22, trivial⟩ Try.func11 (by kernel_rfl) (by kernel_rfl) fun x _ hp => by
    obtain ⟨m, n, e, ⟨⟩⟩ := x
    obtain ⟨p1, p2, p3, p4, p5, p6⟩ := hp
    rw [v11]
    refine lett.mk fun y3 e3 => lett.mk fun y4 e4 => lett.mk fun y5 e5 => ⟨trivial, fun _ => trivial, fun _ => p2, fun _ => p5, fun _ => p6, ?_, trivial⟩
    rw [e5, e4, e3]
    unfold fMay
    have d : ∀ a : Nat, decide ((a : Int) ≤ 200) = decide (a ≤ 200) := fun a => by rw [decide_eq_decide]; omega
    simp only [d]
    cases fIn 0 40 m <;> cases fIn 0 24 n <;> cases ((e.1.1.length : Int) == m) <;> cases ((e.1.2.1.length : Int) == m) <;> cases ((e.1.2.2.1.length : Int) == n) <;> cases ((e.1.2.2.2.length : Int) == n) <;> simp

theorem fCheck_bd (b : List Int) : 0 ≤ fCheck b ∧ fCheck b ≤ 65520 := by
  unfold fCheck
  rcases List.eq_nil_or_concat b with rfl | ⟨l, x, rfl⟩
  · decide
  · simp only [List.concat_eq_append, List.foldl_append, List.foldl_cons, List.foldl_nil]
    omega

theorem fCheck_succ {b : List Int} {s : Nat} (h : s < b.length) : fCheck (b.take (s + 1)) = (257 * fCheck (b.take s) + b.getD s 0 + 1) % 65521 := by
  rw [take_succ' 0 h]
  unfold fCheck
  rw [List.foldl_append]
  rfl

theorem v25 (b : List Int) : bodyVC (ctxOf tab []) Try.f25 c25 (a25 (b, ())) (b, ()) = (
(∃ (s01 : Nat), s01 ≤ b.length ∧ fCheck (List.take s01 b) = (1 : Int) ∧ (↑s01 : Int) = (0 : Int) ∧ b = b ∧ (↑b.length : Int) = (↑b.length : Int) ∧ True) ∧
∀ (s1 : Nat),
lett (decide ((↑s1 : Int) < (↑b.length : Int))) fun (y2 : Bool) =>
lett ((257 : Int) * fCheck (List.take s1 b)) fun (y3 : Int) =>
lett (y3 + b.getD (↑s1 : Int).toNat (0 : Int)) fun (y4 : Int) =>
s1 ≤ b.length →
(y2 = true →
InB (↑s1 : Int) b.length ∧
InR IntKind.i64 y3 ∧
InR IntKind.i64 y4 ∧
InR IntKind.i64 (y4 + (1 : Int)) ∧
(65521 : Int) ≠ (0 : Int) ∧
InR IntKind.i64 ((↑s1 : Int) + (1 : Int)) ∧
∃ (s'5 : Nat),
s'5 ≤ b.length ∧
b.length - s'5 < b.length - s1 ∧
fCheck (List.take s'5 b) = (y4 + (1 : Int)).tmod (65521 : Int) ∧ (↑s'5 : Int) = (↑s1 : Int) + (1 : Int) ∧ b = b ∧ (↑b.length : Int) = (↑b.length : Int) ∧ True) ∧
(y2 = false → fCheck (List.take s1 b) = fCheck b ∧ True)) := by kernel_rfl

theorem ok25 : DOk Try.prog 25 c25 :=
  DOk.of' (l := []) (A := a25) tabOk trivial Try.func25 (by kernel_rfl) (by kernel_rfl) fun x hw hp => by
    obtain ⟨b, ⟨⟩⟩ := x
    have hp : b.length ≤ 1000000 := hp
    rw [v25]
    simp only [true_and, and_true]
    refine ⟨⟨0, by omega, by simp [fCheck], rfl⟩, fun s => lett.mk fun y2 e2 => lett.mk fun y3 e3 => lett.mk fun y4 e4 => ?_⟩
    intro hs
    have hc := fCheck_bd (b.take s)
    rw [Int.toNat_natCast] at e4
    refine ⟨fun h => ?_, fun h => ?_⟩
    · rw [e2] at h
      have h : s < b.length := by simpa using h
      have hb : InR .u8 (b.getD s 0) := hw.1.2 _ (by rw [getD_at 0 h]; exact List.getElem_mem h)
      have hb := inR_u8 hb
      refine ⟨⟨by omega, by omega⟩, inR64 (by omega) (by omega), inR64 (by omega) (by omega), inR64 (by omega) (by omega), by decide, inR64 (by omega) (by omega), s + 1, by omega, by omega, ?_, by omega⟩
      rw [fCheck_succ h, Int.tmod_eq_emod_of_nonneg (by omega), e4, e3]
    · rw [e2] at h
      rw [List.take_of_length_le (by simpa using h)]

theorem v14 (d : (List Bool × List Int × List Bool × List Bool) × List Int × List Int) (e : (List Bool × List Int × List Bool × List Bool) × List Int × List Int) : bodyVC (ctxOf tab [(28, c28), (29, c29)]) Try.f14 c14 noAnn (d, e, ()) = (
lett (d.fst.fst == e.fst.fst) fun (y2 : Bool) =>
lett (bif y2 then d.fst.snd.fst == e.fst.snd.fst else false) fun (y3 : Bool) =>
lett (bif y3 then d.fst.snd.snd.fst == e.fst.snd.snd.fst else false) fun (y4 : Bool) =>
lett (bif y4 then d.fst.snd.snd.snd == e.fst.snd.snd.snd else false) fun (y5 : Bool) =>
lett (bif y5 then d.snd.fst == e.snd.fst else false) fun (y6 : Bool) =>
short d.fst.fst ∧
(y2 = true → short d.fst.snd.fst) ∧
(y3 = true → short d.fst.snd.snd.fst) ∧
(y4 = true → short d.fst.snd.snd.snd) ∧ (y5 = true → short d.snd.fst) ∧ (y6 = true → short d.snd.snd) ∧ (bif y6 then d.snd.snd == e.snd.snd else false) = fSame d e ∧ True) := by kernel_rfl

theorem ok14 : DOk Try.prog 14 c14 :=
  DOk.of' (l := [(28, c28), (29, c29)]) (A := fun _ => noAnn) tabOk ⟨ok28, ok29, trivial⟩ Try.func14 (by kernel_rfl) (by kernel_rfl) fun x _ hp => by
    obtain ⟨d, e, ⟨⟩⟩ := x
    obtain ⟨p1, p2, p3, p4, p5, p6⟩ := hp
    rw [v14]
    refine lett.mk fun y2 e2 => lett.mk fun y3 e3 => lett.mk fun y4 e4 => lett.mk fun y5 e5 => lett.mk fun y6 e6 => ⟨p1, fun _ => p2, fun _ => p3, fun _ => p4, fun _ => p5, fun _ => p6, ?_, trivial⟩
    rw [e6, e5, e4, e3, e2]
    unfold fSame
    cases d.1.1 == e.1.1 <;> cases d.1.2.1 == e.1.2.1 <;> cases d.1.2.2.1 == e.1.2.2.1 <;> cases d.1.2.2.2 == e.1.2.2.2 <;> cases d.2.1 == e.2.1 <;> simp

theorem v17 (d : (List Bool × List Int × List Bool × List Bool) × List Int × List Int) (e : (List Bool × List Int × List Bool × List Bool) × List Int × List Int) : bodyVC (ctxOf tab [(33, c33), (34, c34)]) Try.f17 c17 noAnn (d, e, ()) = (
lett (d.fst.fst == e.fst.fst) fun (y2 : Bool) =>
lett (bif y2 then d.fst.snd.fst == e.fst.snd.fst else false) fun (y3 : Bool) =>
lett (bif y3 then d.fst.snd.snd.fst == e.fst.snd.snd.fst else false) fun (y4 : Bool) =>
lett (bif y4 then d.fst.snd.snd.snd == e.fst.snd.snd.snd else false) fun (y5 : Bool) =>
lett (bif y5 then d.snd.fst == e.snd.fst else false) fun (y6 : Bool) =>
short d.fst.fst ∧
(y2 = true → short d.fst.snd.fst) ∧
(y3 = true → short d.fst.snd.snd.fst) ∧
(y4 = true → short d.fst.snd.snd.snd) ∧ (y5 = true → short d.snd.fst) ∧ (y6 = true → short d.snd.snd) ∧ (bif y6 then d.snd.snd == e.snd.snd else false) = fSame d e ∧ True) := by kernel_rfl

theorem ok17 : DOk Try.prog 17 c17 :=
  DOk.of' (l := [(33, c33), (34, c34)]) (A := fun _ => noAnn) tabOk ⟨ok33, ok34, trivial⟩ Try.func17 (by kernel_rfl) (by kernel_rfl) fun x _ hp => by
    obtain ⟨d, e, ⟨⟩⟩ := x
    obtain ⟨p1, p2, p3, p4, p5, p6⟩ := hp
    rw [v17]
    refine lett.mk fun y2 e2 => lett.mk fun y3 e3 => lett.mk fun y4 e4 => lett.mk fun y5 e5 => lett.mk fun y6 e6 => ⟨p1, fun _ => p2, fun _ => p3, fun _ => p4, fun _ => p5, fun _ => p6, ?_, trivial⟩
    rw [e6, e5, e4, e3, e2]
    unfold fSame
    cases d.1.1 == e.1.1 <;> cases d.1.2.1 == e.1.2.1 <;> cases d.1.2.2.1 == e.1.2.2.1 <;> cases d.1.2.2.2 == e.1.2.2.2 <;> cases d.2.1 == e.2.1 <;> simp

theorem v38 (b : List Int) : bodyVC (ctxOf tab []) Try.f38 c38 (a38 (b, ())) (b, ()) = (
lett ((1 : Int) + b.getD (Int.toNat (0 : Int)) (0 : Int)) fun (y1 : Int) =>
lett (bif (↑b.length : Int) == (0 : Int) then true else decide ((↑b.length : Int) < y1)) fun (y2 : Bool) =>
lett (List.drop (Int.toNat (1 : Int)) (List.take y1.toNat b)) fun (y3 : List Int) =>
(((↑b.length : Int) == (0 : Int)) = false → InB (0 : Int) b.length) ∧
(((↑b.length : Int) == (0 : Int)) = false → InR IntKind.i64 y1) ∧
(y2 = true → [] = (fTake b).fst ∧ [] = (fTake b).snd.fst ∧ false = (fTake b).snd.snd ∧ True) ∧
(y2 = false →
InB (0 : Int) b.length ∧
InR IntKind.i64 y1 ∧
((0 : Int) ≤ (1 : Int) ∧ (1 : Int) ≤ y1) ∧
y1 ≤ (↑b.length : Int) ∧
(∃ (s04 : Nat), s04 ≤ (fTake b).fst.length ∧ (↑s04 : Int) = (0 : Int) ∧ b = b ∧ y3 = y3 ∧ (↑y3.length : Int) = (↑y3.length : Int) ∧ List.take s04 (fTake b).fst = [] ∧ True) ∧
∀ (s4 : Nat),
lett (decide ((↑s4 : Int) < (↑y3.length : Int))) fun (y5 : Bool) =>
lett ((List.replicate (1 : Nat) (0 : Int)).set (0 : Nat) (y3.getD (↑s4 : Int).toNat (0 : Int))) fun (y6 : List Int) =>
s4 ≤ (fTake b).fst.length →
(y5 = true →
InB (↑s4 : Int) y3.length ∧
roomFor ((List.take s4 (fTake b).fst).length + y6.length) (8 : Nat) ∧
InR IntKind.i64 ((↑s4 : Int) + (1 : Int)) ∧
∃ (s'7 : Nat),
s'7 ≤ (fTake b).fst.length ∧
(fTake b).fst.length - s'7 < (fTake b).fst.length - s4 ∧
(↑s'7 : Int) = (↑s4 : Int) + (1 : Int) ∧
b = b ∧ y3 = y3 ∧ (↑y3.length : Int) = (↑y3.length : Int) ∧ List.take s'7 (fTake b).fst = List.take s4 (fTake b).fst ++ y6 ∧ True) ∧
(y5 = false →
InB (0 : Int) b.length ∧
InR IntKind.i64 y1 ∧
((0 : Int) ≤ y1 ∧ y1 ≤ (↑b.length : Int)) ∧
List.take s4 (fTake b).fst = (fTake b).fst ∧ List.drop y1.toNat b = (fTake b).snd.fst ∧ true = (fTake b).snd.snd ∧ True))) := by kernel_rfl

theorem ok38 : DOk Try.prog 38 c38 :=
  DOk.of' (l := []) (A := a38) tabOk trivial Try.func38 (by kernel_rfl) (by kernel_rfl) fun x hw hp => by
    obtain ⟨b, ⟨⟩⟩ := x
    have hp : b.length ≤ 1000000 := hp
    rw [v38]
    refine lett.mk fun y1 e1 => lett.mk fun y2 e2 => lett.mk fun y3 e3 => ?_
    simp only [true_and, and_true]
    cases b with
    | nil => 
      have : y2 = true := by rw [e2]; rfl
      refine ⟨fun h => (by simp at h), fun h => (by simp at h), fun _ => ⟨rfl, rfl, rfl⟩, fun h => (by rw [this] at h; cases h)⟩
    | cons n l =>
      have hb : InR .u8 n := hw.1.2 n List.mem_cons_self
      have hb := inR_u8 hb
      have hl : (n :: l).length = l.length + 1 := rfl
      have e1 : y1 = 1 + n := e1
      have hin : InB 0 (n :: l).length := ⟨by omega, by omega⟩
      have hr : InR .i64 y1 := inR64 (by omega) (by omega)
      have e2 : y2 = decide ((l.length : Int) < n) := by
        rw [e2, hl]
        have : (((l.length + 1 : Nat) : Int) == 0) = false := by rw [beq_eq_false_iff_ne]; omega
        rw [this]
        simp only [cond_false, decide_eq_decide]
        omega
      refine ⟨fun _ => hin, fun _ => hr, fun h => ?_, fun h => ?_⟩
      · rw [e2] at h
        have h : (l.length : Int) < n := by simpa using h
        unfold fTake
        simp only [if_pos h]
        trivial
      · rw [e2] at h
        have h : ¬ (l.length : Int) < n := by simpa using h
        have hT : fTake (n :: l) = (l.take n.toNat, l.drop n.toNat, true) := by unfold fTake; simp only [if_neg h]
        have e3 : y3 = l.take n.toNat := by
          rw [e3, e1, show (1 + n).toNat = n.toNat + 1 by omega]
          simp
        have hlen : (l.take n.toNat).length = n.toNat := by simp; omega
        rw [hT]
        simp only
        refine ⟨hin, hr, ⟨by omega, by omega⟩, by rw [hl]; omega, ⟨0, by omega, rfl, by simp⟩, fun s => lett.mk fun y5 e5 => lett.mk fun y6 e6 => ?_⟩
        intro hs
        rw [e3] at e5 e6
        rw [Int.toNat_natCast] at e6
        refine ⟨fun h5 => ?_, fun h5 => ?_⟩
        · rw [e5] at h5
          have h5 : s < (l.take n.toNat).length := by simpa using h5
          refine ⟨by rw [e3]; exact ⟨by omega, by omega⟩, room (by rw [e6]; simp; omega) (by omega), inR64 (by omega) (by omega), s + 1, by omega, by omega, by omega, ?_⟩
          rw [take_succ' 0 h5, e6]
          rfl
        · rw [e5] at h5
          have h5 : ¬ s < (l.take n.toNat).length := by simpa using h5
          refine ⟨hin, hr, ⟨by omega, by rw [hl]; omega⟩, List.take_of_length_le (by omega), ?_⟩
          rw [e1, show (1 + n).toNat = n.toNat + 1 by omega]
          exact ⟨rfl, trivial⟩

theorem v9 (e : (List Bool × List Int × List Bool × List Bool) × List Int × List Int) : bodyVC (ctxOf tab []) Try.f9 c9 noAnn (e, ()) = (
(bif
bif
bif
bif bif decide ((↑e.fst.fst.length : Int) ≤ (100 : Int)) then decide ((↑e.fst.snd.fst.length : Int) ≤ (100 : Int)) else false then
decide ((↑e.fst.snd.snd.fst.length : Int) ≤ (100 : Int))
else false then
decide ((↑e.fst.snd.snd.snd.length : Int) ≤ (100 : Int))
else false then
decide ((↑e.snd.fst.length : Int) ≤ (300 : Int))
else false then
decide ((↑e.snd.snd.length : Int) ≤ (300 : Int))
else false) =
fFew e ∧
True) := by kernel_rfl

theorem ok9 : DOk Try.prog 9 c9 :=
  DOk.of' (l := []) (A := fun _ => noAnn) tabOk trivial Try.func9 (by kernel_rfl) (by kernel_rfl) fun x _ _ => by
    obtain ⟨e, ⟨⟩⟩ := x
    rw [v9]
    refine ⟨?_, trivial⟩
    unfold fFew
    have d : ∀ a b : Nat, decide ((a : Int) ≤ (b : Int)) = decide (a ≤ b) := fun a b => by rw [decide_eq_decide]; omega
    have d1 : ∀ a : Nat, decide ((a : Int) ≤ 100) = decide (a ≤ 100) := fun a => d a 100
    have d3 : ∀ a : Nat, decide ((a : Int) ≤ 300) = decide (a ≤ 300) := fun a => d a 300
    simp only [d1, d3]
    cases decide (e.1.1.length ≤ 100) <;> cases decide (e.1.2.1.length ≤ 100) <;> cases decide (e.1.2.2.1.length ≤ 100) <;> cases decide (e.1.2.2.2.length ≤ 100) <;> cases decide (e.2.1.length ≤ 300) <;> simp

theorem v19 : bodyVC (ctxOf tab []) Try.f19 c19 noAnn (()) = (
((((List.replicate (2 : Nat) false).set (0 : Nat) true).set (1 : Nat) false, ((List.replicate (2 : Nat) (0 : Int)).set (0 : Nat) (0 : Int)).set (1 : Nat) (2 : Int),
(List.replicate (1 : Nat) false).set (0 : Nat) true, (List.replicate (1 : Nat) false).set (0 : Nat) false),
(List.replicate (1 : Nat) (0 : Int)).set (0 : Nat) (7 : Int), []) =
oneE ∧
True) := by kernel_rfl

theorem ok19 : DOk Try.prog 19 c19 :=
  DOk.of' (l := []) (A := fun _ => noAnn) tabOk trivial Try.func19 (by kernel_rfl) (by kernel_rfl) fun x _ _ => by
    obtain ⟨⟩ := x
    rw [v19]
    exact ⟨by decide, trivial⟩

end Ytmaafccepogakaa
end Go.Proofs
