/-
  The bank's small functions: written out and proved.
-/
import Derived.Test.YtghpaejpccpgeaaVbb
import Derived.IntWalk
set_option maxRecDepth 100000
set_option linter.unusedVariables false
set_option linter.unusedSimpArgs false
set_option maxHeartbeats 1000000
namespace Go.Proofs
open Go Go.Vc
namespace Ytghpaejpccpgeaa

theorem inR64 {n : Int} (h1 : -1000000000000 ≤ n) (h2 : n ≤ 1000000000000) : InR .i64 n := by
  show IntKind.min .i64 ≤ n ∧ n ≤ IntKind.max .i64
  have e1 : IntKind.min .i64 = -9223372036854775808 := by decide
  have e2 : IntKind.max .i64 = 9223372036854775807 := by decide
  omega

theorem inR_u8 {n : Int} (h : InR .u8 n) : 0 ≤ n ∧ n ≤ 255 := by
  have h : IntKind.min .u8 ≤ n ∧ n ≤ IntKind.max .u8 := h
  have e1 : IntKind.min .u8 = 0 := by decide
  have e2 : IntKind.max .u8 = 255 := by decide
  omega

theorem inR_i64 {n : Int} (h : InR .i64 n) : -9223372036854775808 ≤ n ∧ n ≤ 9223372036854775807 := by
  have h : IntKind.min .i64 ≤ n ∧ n ≤ IntKind.max .i64 := h
  have e1 : IntKind.min .i64 = -9223372036854775808 := by decide
  have e2 : IntKind.max .i64 = 9223372036854775807 := by decide
  omega

theorem room {n b : Nat} (h : n ≤ 2000000) (hb : b ≤ 1000) : roomFor n b := by
  unfold roomFor
  have : n * (b + 1) ≤ 2000000 * 1001 := Nat.mul_le_mul h (by omega)
  omega

/-! ### Lists -/

theorem getD_at {α : Type} {xs : List α} {s : Nat} (d : α) (h : s < xs.length) : xs.getD s d = xs[s] := by simp [List.getD_eq_getElem?_getD, h]

theorem take_succ' {α : Type} {xs : List α} {s : Nat} (d : α) (h : s < xs.length) : xs.take (s + 1) = xs.take s ++ [xs.getD s d] := by
  rw [List.take_succ_eq_append_getElem h, getD_at d h]

theorem fFind_any {α : Type} {p : α → Bool} {xs : List α} : decide (fFind p xs ≥ 0) = xs.any p := by
  unfold fFind
  cases h : xs.any p <;> simp

theorem fFind_at {α : Type} {p : α → Bool} {xs : List α} {s : Nat} (d : α) (h : s < xs.length) (h0 : (xs.take s).any p = false) (h1 : p (xs.getD s d) = true) : (s : Int) = fFind p xs := by
  rw [getD_at d h] at h1
  have ha : xs.any p = true := List.any_eq_true.2 ⟨xs[s], List.getElem_mem h, h1⟩
  have hi : xs.findIdx p = s := by
    rw [List.findIdx_eq h]
    refine ⟨h1, fun j hj => ?_⟩
    have := List.any_eq_false.1 h0 xs[j] (by rw [List.mem_take_iff_getElem]; exact ⟨j, by omega, rfl⟩)
    simpa using this
  unfold fFind
  rw [if_pos ha, hi]

theorem fFind_none {α : Type} {p : α → Bool} {xs : List α} {s : Nat} (h : xs.length ≤ s) (h0 : (xs.take s).any p = false) : -1 = fFind p xs := by
  rw [List.take_of_length_le h] at h0
  unfold fFind
  rw [h0]
  rfl

theorem any_succ {α : Type} {p : α → Bool} {xs : List α} {s : Nat} (d : α) (h : s < xs.length) (h0 : (xs.take s).any p = false) (h1 : p (xs.getD s d) = false) : (xs.take (s + 1)).any p = false := by
  rw [take_succ' d h, List.any_append, h0]
  simp only [List.any_cons, List.any_nil, Bool.or_false, Bool.false_or]
  exact h1

theorem sameUp_succ {α : Type} {xs ys : List α} {s : Nat} (d : α) (hl : xs.length = ys.length) (h : xs.take s = ys.take s) (hs : s < xs.length) (e : xs.getD s d = ys.getD s d) : xs.take (s + 1) = ys.take (s + 1) := by
  rw [take_succ' d hs, take_succ' d (hl ▸ hs), h, e]

theorem sameUp_full {α : Type} [BEq α] [LawfulBEq α] {xs ys : List α} {s : Nat} (hl : xs.length = ys.length) (h : xs.take s = ys.take s) (hs : xs.length ≤ s) : true = (xs == ys) := by
  rw [List.take_of_length_le hs, List.take_of_length_le (hl ▸ hs)] at h
  simp [h]

theorem sameUp_not {α : Type} [BEq α] [LawfulBEq α] {xs ys : List α} {s : Nat} (d : α) (e : xs.getD s d ≠ ys.getD s d) : false = (xs == ys) := by
  symm
  rw [beq_eq_false_iff_ne]
  rintro rfl
  exact e rfl

theorem all_not {α : Type} (p : α → Bool) (l : List α) : (!l.any fun n => !p n) = l.all p := by
  induction l with
  | nil => rfl
  | cons x l ih => simp only [List.any_cons, List.all_cons, Bool.not_or, Bool.not_not, ih]


theorem all_succ {α : Type} {p : α → Bool} {l : List α} {s : Nat} (d : α) (h : s < l.length) (h0 : (l.take s).all p = true) (h1 : p (l.getD s d) = true) : (l.take (s + 1)).all p = true := by
  rw [take_succ' d h, List.all_append, h0]
  simpa using h1

theorem all_no {α : Type} {p : α → Bool} {l : List α} {s : Nat} (d : α) (h : s < l.length) (h1 : p (l.getD s d) = false) : l.all p = false := by
  cases hc : l.all p with
  | false => rfl
  | true =>
    have := List.all_eq_true.1 hc (l.getD s d) (by rw [getD_at d h]; exact List.getElem_mem h)
    rw [this] at h1
    cases h1

theorem all_full {α : Type} {p : α → Bool} {l : List α} {s : Nat} (h : l.length ≤ s) (h0 : (l.take s).all p = true) : l.all p = true := by
  rw [List.take_of_length_le h] at h0
  exact h0

theorem mem_getD {α : Type} {l : List α} {s : Nat} (d : α) (h : s < l.length) : l.getD s d ∈ l := by rw [getD_at d h]; exact List.getElem_mem h

theorem lt_of_y {a b : Nat} {y : Bool} (e : y = decide ((a : Int) < (b : Int))) (h : y = true) : a < b := by
  rw [e] at h
  have := of_decide_eq_true h
  omega

theorem le_of_y {a b : Nat} {y : Bool} (e : y = decide ((a : Int) < (b : Int))) (h : y = false) : b ≤ a := by
  rw [e] at h
  have := of_decide_eq_false h
  omega

theorem v30 (n : Int) (lo : Int) (hi : Int) : bodyVC (ctxOf tab []) Try.f30 c30 noAnn (n, lo, hi, ()) = (
(bif decide (n ≥ lo) then decide (n ≤ hi) else false) = fIn lo hi n ∧ True) := by kernel_rfl

theorem ok30 : DOk Try.prog 30 c30 :=
  DOk.of' (l := []) (A := fun _ => noAnn) tabOk trivial Try.func30 (by kernel_rfl) (by kernel_rfl) fun x _ hp => by
    obtain ⟨n, lo, hi, ⟨⟩⟩ := x
    rw [v30]
    refine ⟨?_, trivial⟩
    unfold fIn
    cases decide (lo ≤ n) <;> simp_all

theorem v29 (l : List Int) : bodyVC (ctxOf tab [(30, c30)]) Try.f29 c29 (a29 (l, ())) (l, ()) = (
(∃ (s01 : Nat), (s01 ≤ l.length ∧ (List.take s01 l).all fEl = true) ∧ (↑s01 : Int) = (0 : Int) ∧ l = l ∧ l = l ∧ (↑l.length : Int) = (↑l.length : Int) ∧ True) ∧
∀ (s1 : Nat),
lett (decide ((↑s1 : Int) < (↑l.length : Int))) fun (y2 : Bool) =>
lett (!fIn (0 : Int) (39 : Int) (l.getD (↑s1 : Int).toNat (0 : Int))) fun (y3 : Bool) =>
s1 ≤ l.length ∧ (List.take s1 l).all fEl = true →
(y2 = true →
InB (↑s1 : Int) l.length ∧
True ∧
(y3 = true → false = fEls l ∧ True) ∧
(y3 = false →
InR IntKind.i64 ((↑s1 : Int) + (1 : Int)) ∧
∃ (s'4 : Nat),
(s'4 ≤ l.length ∧ (List.take s'4 l).all fEl = true) ∧
l.length - s'4 < l.length - s1 ∧ (↑s'4 : Int) = (↑s1 : Int) + (1 : Int) ∧ l = l ∧ l = l ∧ (↑l.length : Int) = (↑l.length : Int) ∧ True)) ∧
(y2 = false → decide ((↑l.length : Int) ≤ (40 : Int)) = fEls l ∧ True)) := by kernel_rfl

theorem ok29 : DOk Try.prog 29 c29 :=
  DOk.of' (l := [(30, c30)]) (A := a29) tabOk ⟨ok30, trivial⟩ Try.func29 (by kernel_rfl) (by kernel_rfl) fun x _ hp => by
    obtain ⟨l, ⟨⟩⟩ := x
    have hp : l.length ≤ 1000000 := hp
    rw [v29]
    simp only [true_and, and_true]
    refine ⟨⟨0, ⟨by omega, by simp⟩, rfl⟩, fun s => lett.mk fun y2 e2 => lett.mk fun y3 e3 => ?_⟩
    rintro ⟨h1, h2⟩
    rw [Int.toNat_natCast] at e3
    refine ⟨fun hs => ?_, fun hs => ?_⟩
    · have hs := lt_of_y e2 hs
      refine ⟨⟨by omega, by omega⟩, fun e => ?_, fun e => ⟨inR64 (by omega) (by omega), s + 1, ⟨by omega, ?_⟩, by omega, by omega⟩⟩
      · have : fEl (l.getD s 0) = false := by rw [e3] at e; simpa [fEl] using e
        unfold fEls
        rw [all_no 0 hs this, Bool.and_false]
      · exact all_succ 0 hs h2 (by rw [e3] at e; simpa [fEl] using e)
    · have hs := le_of_y e2 hs
      unfold fEls
      rw [all_full hs h2, Bool.and_true]
      exact decide_eq_decide.2 (by omega)

theorem v43 (n : Int) : bodyVC (ctxOf tab []) Try.f43 c43 noAnn (n, ()) = (
(bif decide (n < (0 : Int)) then true else decide (n ≥ (40 : Int))) = !fEl n ∧ True) := by kernel_rfl

theorem ok43 : DOk Try.prog 43 c43 :=
  DOk.of' (l := []) (A := fun _ => noAnn) tabOk trivial Try.func43 (by kernel_rfl) (by kernel_rfl) fun x _ hp => by
    obtain ⟨n, ⟨⟩⟩ := x
    rw [v43]
    refine ⟨?_, trivial⟩
    have key : ∀ n : Int, (bif decide (n < 0) then true else decide (n ≥ 40)) = !fEl n := fun n => by
      unfold fEl fIn
      by_cases h1 : n < 0
      · have : ¬ (0 : Int) ≤ n := by omega
        simp [h1, this]
      · have : (0 : Int) ≤ n := by omega
        by_cases h2 : n ≤ 39
        · have : ¬ (40 : Int) ≤ n := by omega
          simp [*]
        · have : (40 : Int) ≤ n := by omega
          simp [*]
    exact key n

theorem v440046 (xs : List Int) (f : Unit) : bodyVC (ctxOf tab [(43, c43)]) Try.f46 c440046 (a440046 (xs, f, ())) (xs, f, ()) = (
lett (fFind (fun (n : Int) => !fEl n) xs) fun (y2 : Int) =>
(∃ (s03 : Nat), (s03 ≤ xs.length ∧ ((List.take s03 xs).any fun (n : Int) => !fEl n) = false) ∧ (↑s03 : Int) = (0 : Int) ∧ xs = xs ∧ f = f ∧ (↑xs.length : Int) = (↑xs.length : Int) ∧ True) ∧
∀ (s3 : Nat),
lett (decide ((↑s3 : Int) < (↑xs.length : Int))) fun (y4 : Bool) =>
lett (!fEl (xs.getD (↑s3 : Int).toNat (0 : Int))) fun (y5 : Bool) =>
s3 ≤ xs.length ∧ ((List.take s3 xs).any fun (n : Int) => !fEl n) = false →
(y4 = true →
InB (↑s3 : Int) xs.length ∧
True ∧
(y5 = true → (↑s3 : Int) = y2 ∧ True) ∧
(y5 = false →
InR IntKind.i64 ((↑s3 : Int) + (1 : Int)) ∧
∃ (s'6 : Nat),
(s'6 ≤ xs.length ∧ ((List.take s'6 xs).any fun (n : Int) => !fEl n) = false) ∧
xs.length - s'6 < xs.length - s3 ∧ (↑s'6 : Int) = (↑s3 : Int) + (1 : Int) ∧ xs = xs ∧ f = f ∧ (↑xs.length : Int) = (↑xs.length : Int) ∧ True)) ∧
(y4 = false → (-1 : Int) = y2 ∧ True)) := by kernel_rfl

theorem ok440046 : DOk Try.prog 46 c440046 :=
  DOk.of' (l := [(43, c43)]) (A := a440046) tabOk ⟨ok43, trivial⟩ Try.func46 (by kernel_rfl) (by kernel_rfl) fun x _ hp => by
    obtain ⟨xs, f, ⟨⟩⟩ := x
    have hp : xs.length ≤ 1000000 := hp
    rw [v440046]
    refine lett.mk fun y2 e2 => ?_
    simp only [true_and, and_true]
    refine ⟨⟨0, ⟨by omega, by simp⟩, rfl⟩, fun s => lett.mk fun y4 e4 => lett.mk fun y5 e5 => ?_⟩
    rintro ⟨h1, h2⟩
    rw [Int.toNat_natCast] at e5
    refine ⟨fun hs => ?_, fun hs => ?_⟩
    · have hs := lt_of_y e4 hs
      refine ⟨⟨by omega, by omega⟩, fun e => ?_, fun e => ⟨inR64 (by omega) (by omega), s + 1, ⟨by omega, ?_⟩, by omega, by omega⟩⟩
      · rw [e2]
        exact fFind_at (0 : Int) hs h2 (by rw [← e5]; exact e)
      · exact any_succ (0 : Int) hs h2 (by rw [← e5]; exact e)
    · rw [e2]
      exact fFind_none (s := s) (le_of_y e4 hs) h2

theorem v440042 (xs : List Int) (f : Unit) : bodyVC (ctxOf tab [(440046, c440046)]) Try.f42 c440042 noAnn (xs, f, ()) = (
lett (fFind (fun (n : Int) => !fEl n) xs) fun (y2 : Int) => short xs ∧ (decide (y2 ≥ (0 : Int)) = xs.any fun (n : Int) => !fEl n) ∧ True) := by kernel_rfl

theorem ok440042 : DOk Try.prog 42 c440042 :=
  DOk.of' (l := [(440046, c440046)]) (A := fun _ => noAnn) tabOk ⟨ok440046, trivial⟩ Try.func42 (by kernel_rfl) (by kernel_rfl) fun x _ hp => by
    obtain ⟨xs, f, ⟨⟩⟩ := x
    rw [v440042]
    refine lett.mk fun y2 e2 => ⟨hp, ?_, trivial⟩
    rw [e2]
    exact fFind_any

theorem v26 (l : List Int) : bodyVC (ctxOf tab [(440042, c440042)] [] [(43, .unit)]) Try.f26 c26 noAnn (l, ()) = (
lett (decide ((↑l.length : Int) ≤ (40 : Int))) fun (y1 : Bool) => (y1 = true → short l) ∧ (bif y1 then !l.any fun (n : Int) => !fEl n else false) = fEls l ∧ True) := by kernel_rfl

theorem ok26 : DOk Try.prog 26 c26 :=
  DOk.of' (l := [(440042, c440042)]) (clos := [(43, .unit)]) (A := fun _ => noAnn) tabOk ⟨ok440042, trivial⟩ Try.func26 (by kernel_rfl) (by kernel_rfl) fun x _ hp => by
    obtain ⟨l, ⟨⟩⟩ := x
    rw [v26]
    refine lett.mk fun y1 e1 => ⟨fun _ => hp, ?_, trivial⟩
    rw [e1, all_not]
    have : decide ((l.length : Int) ≤ 40) = decide (l.length ≤ 40) := decide_eq_decide.2 (by omega)
    rw [this]
    unfold fEls
    cases decide (l.length ≤ 40) <;> rfl

theorem v28 (w : List Int × Int) : bodyVC (ctxOf tab [(26, c26)]) Try.f28 c28 noAnn (w, ()) = (
short w.fst ∧ (bif bif !fEls w.fst then true else decide (w.snd < (-1 : Int)) then true else decide (w.snd ≥ (40 : Int))) = !fWant w ∧ True) := by kernel_rfl

theorem ok28 : DOk Try.prog 28 c28 :=
  DOk.of' (l := [(26, c26)]) (A := fun _ => noAnn) tabOk ⟨ok26, trivial⟩ Try.func28 (by kernel_rfl) (by kernel_rfl) fun x _ hp => by
    obtain ⟨w, ⟨⟩⟩ := x
    rw [v28]
    refine ⟨hp, ?_, trivial⟩
    have key : ∀ (b : Bool) (n : Int), (bif bif !b then true else decide (n < (-1 : Int)) then true else decide (n ≥ (40 : Int))) = !(b && fIn (-1) 39 n) := fun b n => by
      unfold fIn
      cases b
      · rfl
      · by_cases h1 : n < -1
        · have : ¬ (-1 : Int) ≤ n := by omega
          simp [h1, this]
        · have : (-1 : Int) ≤ n := by omega
          by_cases h2 : n ≤ 39
          · have : ¬ (40 : Int) ≤ n := by omega
            simp [*]
          · have : (40 : Int) ≤ n := by omega
            simp [*]
    exact key _ _

theorem v290044 (xs : List (List Int × Int)) (f : Unit) : bodyVC (ctxOf tab [(28, c28)]) Try.f44 c290044 (a290044 (xs, f, ())) (xs, f, ()) = (
lett (fFind (fun (n : WantD) => !fWant n) xs) fun (y2 : Int) =>
(∃ (s03 : Nat), (s03 ≤ xs.length ∧ ((List.take s03 xs).any fun (n : WantD) => !fWant n) = false) ∧ (↑s03 : Int) = (0 : Int) ∧ xs = xs ∧ f = f ∧ (↑xs.length : Int) = (↑xs.length : Int) ∧ True) ∧
∀ (s3 : Nat),
lett (decide ((↑s3 : Int) < (↑xs.length : Int))) fun (y4 : Bool) =>
lett (xs.getD (↑s3 : Int).toNat ([], (0 : Int))) fun (y5 : List Int × Int) =>
s3 ≤ xs.length ∧ ((List.take s3 xs).any fun (n : WantD) => !fWant n) = false →
(y4 = true →
InB (↑s3 : Int) xs.length ∧
short y5.fst ∧
((!fWant y5) = true → (↑s3 : Int) = y2 ∧ True) ∧
((!fWant y5) = false →
InR IntKind.i64 ((↑s3 : Int) + (1 : Int)) ∧
∃ (s'6 : Nat),
(s'6 ≤ xs.length ∧ ((List.take s'6 xs).any fun (n : WantD) => !fWant n) = false) ∧
xs.length - s'6 < xs.length - s3 ∧ (↑s'6 : Int) = (↑s3 : Int) + (1 : Int) ∧ xs = xs ∧ f = f ∧ (↑xs.length : Int) = (↑xs.length : Int) ∧ True)) ∧
(y4 = false → (-1 : Int) = y2 ∧ True)) := by kernel_rfl

theorem ok290044 : DOk Try.prog 44 c290044 :=
  DOk.of' (l := [(28, c28)]) (A := a290044) tabOk ⟨ok28, trivial⟩ Try.func44 (by kernel_rfl) (by kernel_rfl) fun x _ hp => by
    obtain ⟨xs, f, ⟨⟩⟩ := x
    obtain ⟨hp, hw⟩ := hp
    have hp : xs.length ≤ 1000000 := hp
    have hw : ∀ w ∈ xs, short w.1 := hw
    rw [v290044]
    refine lett.mk fun y2 e2 => ?_
    simp only [true_and, and_true]
    refine ⟨⟨0, ⟨by omega, by simp⟩, rfl⟩, fun s => lett.mk fun y4 e4 => lett.mk fun y5 e5 => ?_⟩
    rintro ⟨h1, h2⟩
    rw [Int.toNat_natCast] at e5
    refine ⟨fun hs => ?_, fun hs => ?_⟩
    · have hs := lt_of_y e4 hs
      refine ⟨⟨by omega, by omega⟩, ?_, fun e => ?_, fun e => ⟨inR64 (by omega) (by omega), s + 1, ⟨by omega, ?_⟩, by omega, by omega⟩⟩
      · rw [e5]; exact hw _ (mem_getD _ hs)
      · rw [e2]
        exact fFind_at (p := fun (n : WantD) => !fWant n) ([], 0) hs h2 (by rw [← e5]; exact e)
      · exact any_succ (p := fun (n : WantD) => !fWant n) ([], 0) hs h2 (by rw [← e5]; exact e)
    · rw [e2]
      exact fFind_none (s := s) (le_of_y e4 hs) h2

theorem v290027 (xs : List (List Int × Int)) (f : Unit) : bodyVC (ctxOf tab [(290044, c290044)]) Try.f27 c290027 noAnn (xs, f, ()) = (
lett (fFind (fun (n : WantD) => !fWant n) xs) fun (y2 : Int) => shortW xs ∧ (decide (y2 ≥ (0 : Int)) = xs.any fun (n : WantD) => !fWant n) ∧ True) := by kernel_rfl

theorem ok290027 : DOk Try.prog 27 c290027 :=
  DOk.of' (l := [(290044, c290044)]) (A := fun _ => noAnn) tabOk ⟨ok290044, trivial⟩ Try.func27 (by kernel_rfl) (by kernel_rfl) fun x _ hp => by
    obtain ⟨xs, f, ⟨⟩⟩ := x
    rw [v290027]
    refine lett.mk fun y2 e2 => ⟨hp, ?_, trivial⟩
    rw [e2]
    exact fFind_any

theorem may_no {l : List ClaimD} {s : Nat} (h : s < l.length) (h1 : fClaim (l.getD s zeroC) = false) : false = fMay l := by
  unfold fMay
  rw [all_no zeroC h h1, Bool.and_false]

theorem v12 (l : List (List Int × List (List Int × Int))) : bodyVC (ctxOf tab [(26, c26), (290027, c290027)] [] [(28, .unit)]) Try.f12 c12 (a12 (l, ())) (l, ()) = (
(∃ (s01 : Nat), (s01 ≤ l.length ∧ (List.take s01 l).all fClaim = true) ∧ (↑s01 : Int) = (0 : Int) ∧ l = l ∧ l = l ∧ (↑l.length : Int) = (↑l.length : Int) ∧ True) ∧
∀ (s1 : Nat),
lett (decide ((↑s1 : Int) < (↑l.length : Int))) fun (y2 : Bool) =>
lett (l.getD (↑s1 : Int).toNat ([], [])) fun (y3 : List Int × List (List Int × Int)) =>
lett (bif !fEls y3.fst then true else decide ((↑y3.snd.length : Int) > (12 : Int))) fun (y4 : Bool) =>
lett (y3.snd.any fun (n : WantD) => !fWant n) fun (y5 : Bool) =>
s1 ≤ l.length ∧ (List.take s1 l).all fClaim = true →
(y2 = true →
InB (↑s1 : Int) l.length ∧
short y3.fst ∧
(y4 = true → false = fMay l ∧ True) ∧
(y4 = false →
shortW y3.snd ∧
(y5 = true → false = fMay l ∧ True) ∧
(y5 = false →
InR IntKind.i64 ((↑s1 : Int) + (1 : Int)) ∧
∃ (s'6 : Nat),
(s'6 ≤ l.length ∧ (List.take s'6 l).all fClaim = true) ∧
l.length - s'6 < l.length - s1 ∧ (↑s'6 : Int) = (↑s1 : Int) + (1 : Int) ∧ l = l ∧ l = l ∧ (↑l.length : Int) = (↑l.length : Int) ∧ True))) ∧
(y2 = false → decide ((↑l.length : Int) ≤ (8 : Int)) = fMay l ∧ True)) := by kernel_rfl

theorem b12 (l : List ClaimD) (hp : shortL l) : bodyVC (ctxOf tab [(26, c26), (290027, c290027)] [] [(28, .unit)]) Try.f12 c12 (a12 (l, ())) (l, ()) := by
  obtain ⟨hp, hc⟩ := hp
  have hp : l.length ≤ 1000000 := hp
  rw [v12]
  simp only [true_and, and_true]
  refine ⟨⟨0, ⟨by omega, by simp⟩, rfl⟩, fun s => lett.mk fun y2 e2 => lett.mk fun y3 e3 => lett.mk fun y4 e4 => lett.mk fun y5 e5 => ?_⟩
  rintro ⟨h1, h2⟩
  rw [Int.toNat_natCast] at e3
  have e3 : y3 = l.getD s zeroC := e3
  refine ⟨fun hs => ?_, fun hs => ?_⟩
  · have hs := lt_of_y e2 hs
    obtain ⟨g1, g2, g3⟩ := hc y3 (by rw [e3]; exact mem_getD _ hs)
    have hcl : fClaim y3 = (!y4 && !y5) := by
      rw [e4, e5]
      unfold fClaim
      have : decide ((y3.2.length : Int) > 12) = !decide (y3.2.length ≤ 12) := by
        by_cases h : y3.2.length ≤ 12
        · have : ¬ (y3.2.length : Int) > 12 := by omega
          simp [h, this]
        · have : (y3.2.length : Int) > 12 := by omega
          simp [h, this]
      rw [this, ← all_not fWant y3.2]
      cases fEls y3.1 <;> cases decide (y3.2.length ≤ 12) <;> cases (y3.2.any fun n => !fWant n) <;> rfl
    refine ⟨⟨by omega, by omega⟩, g1, fun h => ?_, fun h => ⟨⟨g2, g3⟩, fun h' => ?_, fun h' => ⟨inR64 (by omega) (by omega), s + 1, ⟨by omega, ?_⟩, by omega, by omega⟩⟩⟩
    · exact may_no hs (by rw [← e3, hcl, h]; rfl)
    · exact may_no hs (by rw [← e3, hcl, h, h']; rfl)
    · exact all_succ zeroC hs h2 (by rw [← e3, hcl, h, h']; rfl)
  · unfold fMay
    rw [all_full (le_of_y e2 hs) h2, Bool.and_true]
    exact decide_eq_decide.2 (by omega)

theorem ok12 : DOk Try.prog 12 c12 :=
  DOk.of' (l := [(26, c26), (290027, c290027)]) (clos := [(28, .unit)]) (A := a12) tabOk ⟨ok26, ok290027, trivial⟩ Try.func12 (by kernel_rfl) (by kernel_rfl) fun x _ hp => b12 x.1 hp

theorem v13 (l : List (List Int × List (List Int × Int))) : bodyVC (ctxOf tab [(29, c29), (30, c30)]) Try.f13 c13 (a13 (l, ())) (l, ()) = (
lett (decide ((↑l.length : Int) > (8 : Int))) fun (y1 : Bool) =>
(y1 = true → false = fMay l ∧ True) ∧
(y1 = false →
(∃ (s02 : Nat), (s02 ≤ l.length ∧ (List.take s02 l).all fClaim = true) ∧ (↑s02 : Int) = (0 : Int) ∧ l = l ∧ (↑l.length : Int) = (↑l.length : Int) ∧ True) ∧
∀ (s2 : Nat),
lett (decide ((↑s2 : Int) < (↑l.length : Int))) fun (y3 : Bool) =>
lett (l.getD (↑s2 : Int).toNat ([], [])) fun (y4 : List Int × List (List Int × Int)) =>
lett (decide ((↑y4.snd.length : Int) > (12 : Int))) fun (y5 : Bool) =>
lett (bif y5 then true else !fEls y4.fst) fun (y6 : Bool) =>
lett (l.getD (↑s2 : Int).toNat zeroC).snd fun (y7 : List WantD) =>
s2 ≤ l.length ∧ (List.take s2 l).all fClaim = true →
(y3 = true →
InB (↑s2 : Int) l.length ∧
(y5 = false → short y4.fst) ∧
(y6 = true → false = fMay l ∧ True) ∧
(y6 = false →
(∃ (s08 : Nat),
(s08 ≤ y7.length ∧ (List.take s08 y7).all fWant = true) ∧
(↑s08 : Int) = (0 : Int) ∧
l = l ∧ (↑l.length : Int) = (↑l.length : Int) ∧ (↑s2 : Int) = (↑s2 : Int) ∧ y4.snd = y4.snd ∧ (↑y4.snd.length : Int) = (↑y4.snd.length : Int) ∧ True) ∧
∀ (s8 : Nat),
lett (decide ((↑s8 : Int) < (↑y4.snd.length : Int))) fun (y9 : Bool) =>
lett (y4.snd.getD (↑s8 : Int).toNat ([], (0 : Int))) fun (y10 : List Int × Int) =>
lett (bif !fEls y10.fst then true else !fIn (-1 : Int) (39 : Int) y10.snd) fun (y11 : Bool) =>
s8 ≤ y7.length ∧ (List.take s8 y7).all fWant = true →
(y9 = true →
InB (↑s8 : Int) y4.snd.length ∧
short y10.fst ∧
((!fEls y10.fst) = false → True) ∧
(y11 = true → false = fMay l ∧ True) ∧
(y11 = false →
InR IntKind.i64 ((↑s8 : Int) + (1 : Int)) ∧
∃ (s'12 : Nat),
(s'12 ≤ y7.length ∧ (List.take s'12 y7).all fWant = true) ∧
y7.length - s'12 < y7.length - s8 ∧
(↑s'12 : Int) = (↑s8 : Int) + (1 : Int) ∧
l = l ∧
(↑l.length : Int) = (↑l.length : Int) ∧
(↑s2 : Int) = (↑s2 : Int) ∧ y4.snd = y4.snd ∧ (↑y4.snd.length : Int) = (↑y4.snd.length : Int) ∧ True)) ∧
(y9 = false →
InR IntKind.i64 ((↑s2 : Int) + (1 : Int)) ∧
∃ (s'12 : Nat),
(s'12 ≤ l.length ∧ (List.take s'12 l).all fClaim = true) ∧
l.length - s'12 < l.length - s2 ∧ (↑s'12 : Int) = (↑s2 : Int) + (1 : Int) ∧ l = l ∧ (↑l.length : Int) = (↑l.length : Int) ∧ True))) ∧
(y3 = false → true = fMay l ∧ True))) := by kernel_rfl

theorem b13 (l : List ClaimD) (hp : shortL l) : bodyVC (ctxOf tab [(29, c29), (30, c30)]) Try.f13 c13 (a13 (l, ())) (l, ()) := by
  obtain ⟨hp, hc⟩ := hp
  have hp : l.length ≤ 1000000 := hp
  rw [v13]
  refine lett.mk fun y1 e1 => ⟨fun h => ⟨?_, trivial⟩, fun h8 => ?_⟩
  · rw [e1] at h
    have h := of_decide_eq_true h
    unfold fMay
    rw [decide_eq_false (by omega)]
    rfl
  rw [e1] at h8
  have h8 : l.length ≤ 8 := by have := of_decide_eq_false h8; omega
  simp only [true_and, and_true]
  refine ⟨⟨0, ⟨by omega, by simp⟩, rfl⟩, fun s => lett.mk fun y3 e3 => lett.mk fun y4 e4 => lett.mk fun y5 e5 => lett.mk fun y6 e6 => lett.mk fun y7 e7 => ?_⟩
  rintro ⟨h1, h2⟩
  rw [Int.toNat_natCast] at e4 e7
  have e4 : y4 = l.getD s zeroC := e4
  rw [← e4] at e7
  refine ⟨fun hs => ?_, fun hs => ?_⟩
  · have hs := lt_of_y e3 hs
    obtain ⟨g1, g2, g3⟩ := hc y4 (by rw [e4]; exact mem_getD _ hs)
    have g2 : y4.2.length ≤ 1000000 := g2
    have hcl : fClaim y4 = (!y6 && y4.2.all fWant) := by
      rw [e6, e5]
      unfold fClaim
      have : decide ((y4.2.length : Int) > 12) = !decide (y4.2.length ≤ 12) := by
        by_cases h : y4.2.length ≤ 12
        · have : ¬ (y4.2.length : Int) > 12 := by omega
          simp [h, this]
        · have : (y4.2.length : Int) > 12 := by omega
          simp [h, this]
      rw [this]
      cases fEls y4.1 <;> cases decide (y4.2.length ≤ 12) <;> cases (y4.2.all fWant) <;> rfl
    refine ⟨⟨by omega, by omega⟩, fun _ => g1, fun h => ?_, fun h6 => ⟨⟨0, ⟨by omega, by simp⟩, rfl⟩, fun s8 => lett.mk fun y9 e9 => lett.mk fun y10 e10 => lett.mk fun y11 e11 => ?_⟩⟩
    · exact may_no hs (by rw [← e4, hcl, h]; rfl)
    · rintro ⟨k1, k2⟩
      rw [Int.toNat_natCast] at e10
      subst e7
      refine ⟨fun h9 => ?_, fun h9 => ?_⟩
      · have h9 := lt_of_y e9 h9
        have hw : fWant y10 = !y11 := by
          rw [e11]
          unfold fWant
          cases fEls y10.1 <;> cases fIn (-1) 39 y10.2 <;> rfl
        refine ⟨⟨by omega, by omega⟩, g3 _ (by rw [e10]; exact mem_getD _ h9), fun _ => trivial, fun h => ?_, fun h => ⟨inR64 (by omega) (by omega), s8 + 1, ⟨by omega, ?_⟩, by omega, by omega⟩⟩
        · refine may_no hs ?_
          rw [← e4, hcl, all_no ([], 0) h9 (by rw [← e10, hw, h]; rfl), Bool.and_false]
        · exact all_succ ([], 0) h9 k2 (by rw [← e10, hw, h]; rfl)
      · have h9 := le_of_y e9 h9
        refine ⟨inR64 (by omega) (by omega), s + 1, ⟨by omega, ?_⟩, by omega, by omega⟩
        exact all_succ zeroC hs h2 (by rw [← e4, hcl, h6, all_full h9 k2]; rfl)
  · unfold fMay
    rw [all_full (le_of_y e3 hs) h2, Bool.and_true]
    exact (decide_eq_true h8).symm

theorem ok13 : DOk Try.prog 13 c13 :=
  DOk.of' (l := [(29, c29), (30, c30)]) (A := a13) tabOk ⟨ok29, ok30, trivial⟩ Try.func13 (by kernel_rfl) (by kernel_rfl) fun x _ hp => b13 x.1 hp

theorem asked_no {l : List ClaimD} {s : Nat} (h : s < l.length) (h1 : fAskC (l.getD s zeroC) = false) : false = fAsked l := by
  show false = (decide (l.length ≤ 20) && l.all fAskC)
  rw [all_no zeroC h h1, Bool.and_false]

theorem v11 (l : List (List Int × List (List Int × Int))) : bodyVC (ctxOf tab []) Try.f11 c11 (a11 (l, ())) (l, ()) = (
lett (decide ((↑l.length : Int) > (20 : Int))) fun (y1 : Bool) =>
(y1 = true → false = fAsked l ∧ True) ∧
(y1 = false →
(∃ (s02 : Nat), (s02 ≤ l.length ∧ (List.take s02 l).all fAskC = true) ∧ (↑s02 : Int) = (0 : Int) ∧ l = l ∧ (↑l.length : Int) = (↑l.length : Int) ∧ True) ∧
∀ (s2 : Nat),
lett (decide ((↑s2 : Int) < (↑l.length : Int))) fun (y3 : Bool) =>
lett (l.getD (↑s2 : Int).toNat ([], [])) fun (y4 : List Int × List (List Int × Int)) =>
lett (bif decide ((↑y4.fst.length : Int) > (100 : Int)) then true else decide ((↑y4.snd.length : Int) > (40 : Int))) fun (y5 : Bool) =>
lett (l.getD (↑s2 : Int).toNat zeroC).snd fun (y6 : List WantD) =>
s2 ≤ l.length ∧ (List.take s2 l).all fAskC = true →
(y3 = true →
InB (↑s2 : Int) l.length ∧
(y5 = true → false = fAsked l ∧ True) ∧
(y5 = false →
(∃ (s07 : Nat),
(s07 ≤ y6.length ∧ ((List.take s07 y6).all fun (w : WantD) => decide (w.fst.length ≤ (100 : Nat))) = true) ∧
(↑s07 : Int) = (0 : Int) ∧
l = l ∧ (↑l.length : Int) = (↑l.length : Int) ∧ (↑s2 : Int) = (↑s2 : Int) ∧ y4.snd = y4.snd ∧ (↑y4.snd.length : Int) = (↑y4.snd.length : Int) ∧ True) ∧
∀ (s7 : Nat),
lett (decide ((↑s7 : Int) < (↑y4.snd.length : Int))) fun (y8 : Bool) =>
lett (decide ((↑(y4.snd.getD (↑s7 : Int).toNat ([], (0 : Int))).fst.length : Int) > (100 : Int))) fun (y9 : Bool) =>
s7 ≤ y6.length ∧ ((List.take s7 y6).all fun (w : WantD) => decide (w.fst.length ≤ (100 : Nat))) = true →
(y8 = true →
InB (↑s7 : Int) y4.snd.length ∧
(y9 = true → false = fAsked l ∧ True) ∧
(y9 = false →
InR IntKind.i64 ((↑s7 : Int) + (1 : Int)) ∧
∃ (s'10 : Nat),
(s'10 ≤ y6.length ∧ ((List.take s'10 y6).all fun (w : WantD) => decide (w.fst.length ≤ (100 : Nat))) = true) ∧
y6.length - s'10 < y6.length - s7 ∧
(↑s'10 : Int) = (↑s7 : Int) + (1 : Int) ∧
l = l ∧
(↑l.length : Int) = (↑l.length : Int) ∧
(↑s2 : Int) = (↑s2 : Int) ∧ y4.snd = y4.snd ∧ (↑y4.snd.length : Int) = (↑y4.snd.length : Int) ∧ True)) ∧
(y8 = false →
InR IntKind.i64 ((↑s2 : Int) + (1 : Int)) ∧
∃ (s'10 : Nat),
(s'10 ≤ l.length ∧ (List.take s'10 l).all fAskC = true) ∧
l.length - s'10 < l.length - s2 ∧ (↑s'10 : Int) = (↑s2 : Int) + (1 : Int) ∧ l = l ∧ (↑l.length : Int) = (↑l.length : Int) ∧ True))) ∧
(y3 = false → true = fAsked l ∧ True))) := by kernel_rfl

theorem b11 (l : List ClaimD) : bodyVC (ctxOf tab []) Try.f11 c11 (a11 (l, ())) (l, ()) := by
  rw [v11]
  refine lett.mk fun y1 e1 => ⟨fun h => ⟨?_, trivial⟩, fun h8 => ?_⟩
  · rw [e1] at h
    have h := of_decide_eq_true h
    unfold fAsked
    rw [decide_eq_false (by omega)]
    rfl
  rw [e1] at h8
  have h8 : l.length ≤ 20 := by have := of_decide_eq_false h8; omega
  simp only [true_and, and_true]
  refine ⟨⟨0, ⟨by omega, by simp⟩, rfl⟩, fun s => lett.mk fun y3 e3 => lett.mk fun y4 e4 => lett.mk fun y5 e5 => lett.mk fun y6 e6 => ?_⟩
  rintro ⟨h1, h2⟩
  rw [Int.toNat_natCast] at e4 e6
  have e4 : y4 = l.getD s zeroC := e4
  rw [← e4] at e6
  have dec : ∀ (a b : Nat), decide ((a : Int) > (b : Int)) = !decide (a ≤ b) := fun a b => by
    by_cases h : a ≤ b
    · have : ¬ (a : Int) > b := by omega
      simp [h, this]
    · have : (a : Int) > b := by omega
      simp [h, this]
  refine ⟨fun hs => ?_, fun hs => ?_⟩
  · have hs := lt_of_y e3 hs
    have hcl : fAskC y4 = (!y5 && y4.2.all fun w => decide (w.1.length ≤ 100)) := by
      rw [e5]
      unfold fAskC
      have d1 := dec y4.1.length 100
      have d2 := dec y4.2.length 40
      rw [show (100 : Int) = ((100 : Nat) : Int) from rfl, show (40 : Int) = ((40 : Nat) : Int) from rfl, d1, d2]
      cases decide (y4.1.length ≤ 100) <;> cases decide (y4.2.length ≤ 40) <;> cases (y4.2.all fun w => decide (w.1.length ≤ 100)) <;> rfl
    refine ⟨⟨by omega, by omega⟩, fun h => ?_, fun h5 => ⟨⟨0, ⟨by omega, by simp⟩, rfl⟩, fun s8 => lett.mk fun y8 e8 => lett.mk fun y9 e9 => ?_⟩⟩
    · exact asked_no hs (by rw [← e4, hcl, h]; rfl)
    · rintro ⟨k1, k2⟩
      rw [Int.toNat_natCast] at e9
      subst e6
      have hl : y4.2.length ≤ 40 := by
        rw [h5] at e5
        by_cases h : y4.2.length ≤ 40
        · exact h
        · have : (y4.2.length : Int) > 40 := by omega
          simp [this] at e5
      refine ⟨fun h9 => ?_, fun h9 => ?_⟩
      · have h9 := lt_of_y e8 h9
        have hw : decide ((y4.2.getD s8 ([], 0)).1.length ≤ 100) = !y9 := by
          rw [e9, show (100 : Int) = ((100 : Nat) : Int) from rfl, dec, Bool.not_not]
        refine ⟨⟨by omega, by omega⟩, fun h => ?_, fun h => ⟨inR64 (by omega) (by omega), s8 + 1, ⟨by omega, ?_⟩, by omega, by omega⟩⟩
        · refine asked_no hs ?_
          rw [← e4, hcl, all_no (p := fun (w : WantD) => decide (w.1.length ≤ 100)) ([], 0) h9 (by rw [hw, h]; rfl), Bool.and_false]
        · exact all_succ (p := fun (w : WantD) => decide (w.1.length ≤ 100)) ([], 0) h9 k2 (by rw [hw, h]; rfl)
      · have h9 := le_of_y e8 h9
        refine ⟨inR64 (by omega) (by omega), s + 1, ⟨by omega, ?_⟩, by omega, by omega⟩
        exact all_succ zeroC hs h2 (by rw [← e4, hcl, h5, all_full h9 k2]; rfl)
  · show true = (decide (l.length ≤ 20) && l.all fAskC)
    rw [all_full (le_of_y e3 hs) h2, Bool.and_true]
    exact (decide_eq_true h8).symm

theorem ok11 : DOk Try.prog 11 c11 :=
  DOk.of' (l := []) (A := a11) tabOk trivial Try.func11 (by kernel_rfl) (by kernel_rfl) fun x _ hp => b11 x.1

end Ytghpaejpccpgeaa
end Go.Proofs
