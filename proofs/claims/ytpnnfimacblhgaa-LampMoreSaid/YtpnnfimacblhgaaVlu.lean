/-
  Plain facts about numbers, rows and counting, for the proofs of written-out conditions.
-/
import Derived.Test.YtpnnfimacblhgaaVlc
import Derived.IntWalk
set_option maxRecDepth 100000
set_option linter.unusedVariables false
set_option linter.unusedSimpArgs false
set_option maxHeartbeats 1000000
namespace Go.Proofs
open Go Go.Vc
namespace Ytpnnfimacblhgaa

/-! ### Numbers -/

theorem inR_i64 {n : Int} (h : InR .i64 n) : -9223372036854775808 ≤ n ∧ n ≤ 9223372036854775807 := by
  have h : IntKind.min .i64 ≤ n ∧ n ≤ IntKind.max .i64 := h
  have e1 : IntKind.min .i64 = -9223372036854775808 := by decide
  have e2 : IntKind.max .i64 = 9223372036854775807 := by decide
  omega

theorem inR_of {n : Int} (h1 : -9223372036854775808 ≤ n) (h2 : n ≤ 9223372036854775807) : InR .i64 n := by
  show IntKind.min .i64 ≤ n ∧ n ≤ IntKind.max .i64
  have e1 : IntKind.min .i64 = -9223372036854775808 := by decide
  have e2 : IntKind.max .i64 = 9223372036854775807 := by decide
  omega

theorem inR64 {n : Int} (h1 : -1000000000000 ≤ n) (h2 : n ≤ 1000000000000) : InR .i64 n := inR_of (by omega) (by omega)

theorem inRlen {s n : Nat} (h : s < n) (hn : n ≤ maxLenI) : InR .i64 ((s : Int) + 1) := by
  have : maxLenI = 9223372036854775807 := rfl
  exact inR_of (by omega) (by omega)

theorem inR_u8 {n : Int} (h : InR .u8 n) : 0 ≤ n ∧ n ≤ 255 := by
  have h : IntKind.min .u8 ≤ n ∧ n ≤ IntKind.max .u8 := h
  have e1 : IntKind.min .u8 = 0 := by decide
  have e2 : IntKind.max .u8 = 255 := by decide
  omega

theorem roomB {n b : Nat} (h : n ≤ 2000000000) (hb : b ≤ 1000) : roomFor n b := by
  unfold roomFor
  have : n * (b + 1) ≤ 2000000000 * 1001 := Nat.mul_le_mul h (by omega)
  omega

theorem geN (a : Nat) (n : Int) (k : Nat) (e : n = (k : Int)) : decide ((a : Int) ≥ n) = decide (k ≤ a) := by
  rw [e]
  by_cases h : k ≤ a
  · rw [decide_eq_true h, decide_eq_true (by omega)]
  · rw [decide_eq_false h, decide_eq_false (by omega)]
theorem leN (a : Nat) (n : Int) (k : Nat) (e : n = (k : Int)) : decide ((a : Int) ≤ n) = decide (a ≤ k) := by
  rw [e]
  by_cases h : a ≤ k
  · rw [decide_eq_true h, decide_eq_true (by omega)]
  · rw [decide_eq_false h, decide_eq_false (by omega)]
theorem ltN (a : Nat) (n : Int) (k : Nat) (e : n = (k : Int)) : decide ((a : Int) < n) = !decide (k ≤ a) := by
  rw [e]
  by_cases h : k ≤ a
  · rw [decide_eq_true h, decide_eq_false (by omega)]; rfl
  · rw [decide_eq_false h, decide_eq_true (by omega)]; rfl
theorem gtN (a : Nat) (n : Int) (k : Nat) (e : n = (k : Int)) : decide ((a : Int) > n) = !decide (a ≤ k) := by
  rw [e]
  by_cases h : a ≤ k
  · rw [decide_eq_true h, decide_eq_false (by omega)]; rfl
  · rw [decide_eq_false h, decide_eq_true (by omega)]; rfl
theorem eqN (a : Nat) (n : Int) (k : Nat) (e : n = (k : Int)) : ((a : Int) == n) = (a == k) := by
  rw [e]
  by_cases h : a = k
  · subst h; rw [beq_self_eq_true, beq_self_eq_true]
  · rw [beq_eq_false_iff_ne.2 h, beq_eq_false_iff_ne.2 (by omega)]
theorem eqN' (a : Nat) (n : Int) (k : Nat) (e : n = (k : Int)) : ((a : Int) == n) = decide (a = k) := by
  rw [eqN a n k e]
  by_cases h : a = k
  · subst h; rw [beq_self_eq_true, decide_eq_true rfl]
  · rw [decide_eq_false h, beq_eq_false_iff_ne.2 h]
theorem ltI (a n : Int) : decide (a < n) = !decide (n ≤ a) := by
  by_cases h : n ≤ a
  · rw [decide_eq_true h, decide_eq_false (by omega)]; rfl
  · rw [decide_eq_false h, decide_eq_true (by omega)]; rfl
theorem gtI (a n : Int) : decide (a > n) = !decide (a ≤ n) := by
  by_cases h : a ≤ n
  · rw [decide_eq_true h, decide_eq_false (by omega)]; rfl
  · rw [decide_eq_false h, decide_eq_true (by omega)]; rfl
theorem geI (a n : Int) : decide (a ≥ n) = decide (n ≤ a) := rfl
theorem bneB (a b : Int) : (a != b) = !(a == b) := rfl
theorem bne_cast (a b : Nat) : ((a : Int) != (b : Int)) = !decide (a = b) := by
  by_cases h : a = b
  · subst h; simp
  · have : (a : Int) ≠ (b : Int) := by omega
    simp [h, this]

theorem lt_of_y {a b : Nat} {y : Bool} (e : y = decide ((a : Int) < (b : Int))) (h : y = true) : a < b := by
  rw [e] at h
  have := of_decide_eq_true h
  omega
theorem le_of_y {a b : Nat} {y : Bool} (e : y = decide ((a : Int) < (b : Int))) (h : y = false) : b ≤ a := by
  rw [e] at h
  have := of_decide_eq_false h
  omega

theorem bif_or {a b : Bool} (h : (bif a then true else b) = false) : a = false ∧ b = false := by
  cases a
  · exact ⟨rfl, h⟩
  · cases h

theorem portBeq (a b : PortD) : (a.1 == b.1 && (a.2 == b.2 && true)) = (a == b) := by
  rw [Bool.and_true]
  rfl

/-! ### Counting -/

theorem allTo_iff {p : Nat → Bool} : ∀ {n : Nat}, allTo p n = true ↔ ∀ i, i < n → p i = true
  | 0 => ⟨fun _ i hi => by omega, fun _ => rfl⟩
  | n + 1 => by
    show (allTo p n && p n) = true ↔ _
    rw [Bool.and_eq_true, allTo_iff (n := n)]
    exact ⟨fun h i hi => by
      by_cases e : i = n
      · rw [e]; exact h.2
      · exact h.1 i (by omega), fun h => ⟨fun i hi => h i (by omega), h n (by omega)⟩⟩
theorem anyTo_none {p : Nat → Bool} : ∀ {n : Nat}, anyTo p n = false ↔ ∀ i, i < n → p i = false
  | 0 => ⟨fun _ i hi => by omega, fun _ => rfl⟩
  | n + 1 => by
    show (anyTo p n || p n) = false ↔ _
    rw [Bool.or_eq_false_iff, anyTo_none (n := n)]
    exact ⟨fun h i hi => by
      by_cases e : i = n
      · rw [e]; exact h.2
      · exact h.1 i (by omega), fun h => ⟨fun i hi => h i (by omega), h n (by omega)⟩⟩
theorem allTo_succ {p : Nat → Bool} {k : Nat} (h : allTo p k = true) (h1 : p k = true) : allTo p (k + 1) = true := by
  show (allTo p k && p k) = true
  rw [h, h1]; rfl
theorem anyTo_succ {p : Nat → Bool} {k : Nat} (h : anyTo p k = false) (h1 : p k = false) : anyTo p (k + 1) = false := by
  show (anyTo p k || p k) = false
  rw [h, h1]; rfl
theorem allTo_no {p : Nat → Bool} {n k : Nat} (hk : k < n) (h : p k = false) : allTo p n = false := by
  cases hc : allTo p n with
  | false => rfl
  | true => rw [allTo_iff.1 hc k hk] at h; cases h
theorem anyTo_yes {p : Nat → Bool} {n k : Nat} (hk : k < n) (h : p k = true) : anyTo p n = true := by
  cases hc : anyTo p n with
  | true => rfl
  | false => rw [anyTo_none.1 hc k hk] at h; cases h
theorem firstTo_at {p : Nat → Bool} {n k : Nat} (hk : k < n) (h0 : anyTo p k = false) (h : p k = true) : firstTo p n = some k := by
  unfold firstTo
  rw [List.find?_range_eq_some]
  refine ⟨h, by simpa using hk, fun j hj => ?_⟩
  rw [anyTo_none.1 h0 j hj]
  rfl
theorem firstTo_none {p : Nat → Bool} {n : Nat} (h0 : anyTo p n = false) : firstTo p n = none := by
  unfold firstTo
  rw [List.find?_eq_none]
  intro x hx
  rw [anyTo_none.1 h0 x (List.mem_range.1 hx)]
  simp
theorem firstTo_some {p : Nat → Bool} {n k : Nat} (h : firstTo p n = some k) : k < n ∧ p k = true := by
  unfold firstTo at h
  exact ⟨List.mem_range.1 (List.mem_of_find?_eq_some h), List.find?_some h⟩

/-! ### Rows -/

theorem getD_at {α : Type} {xs : List α} {s : Nat} (d : α) (h : s < xs.length) : xs.getD s d = xs[s] := by simp [List.getD_eq_getElem?_getD, h]
theorem mem_getD {α : Type} {l : List α} {s : Nat} (d : α) (h : s < l.length) : l.getD s d ∈ l := by rw [getD_at d h]; exact List.getElem_mem h
theorem take_succ' {α : Type} {xs : List α} {s : Nat} (d : α) (h : s < xs.length) : xs.take (s + 1) = xs.take s ++ [xs.getD s d] := by
  rw [List.take_succ_eq_append_getElem h, getD_at d h]
theorem any_succ {α : Type} {p : α → Bool} {xs : List α} {s : Nat} (d : α) (h : s < xs.length) (h0 : (xs.take s).any p = false) (h1 : p (xs.getD s d) = false) : (xs.take (s + 1)).any p = false := by
  rw [take_succ' d h, List.any_append, h0]
  simp only [List.any_cons, List.any_nil, Bool.or_false, Bool.false_or]
  exact h1
theorem any_full {α : Type} {p : α → Bool} {l : List α} {s : Nat} (h : l.length ≤ s) (h0 : (l.take s).any p = false) : l.any p = false := by
  rw [List.take_of_length_le h] at h0
  exact h0
theorem any_yes {α : Type} {p : α → Bool} {l : List α} {s : Nat} (d : α) (h : s < l.length) (h1 : p (l.getD s d) = true) : l.any p = true :=
  List.any_eq_true.2 ⟨_, mem_getD d h, h1⟩
theorem all_succ {α : Type} {p : α → Bool} {l : List α} {s : Nat} (d : α) (h : s < l.length) (h0 : (l.take s).all p = true) (h1 : p (l.getD s d) = true) : (l.take (s + 1)).all p = true := by
  rw [take_succ' d h, List.all_append, h0]
  simpa using h1
theorem all_no {α : Type} {p : α → Bool} {l : List α} {s : Nat} (d : α) (h : s < l.length) (h1 : p (l.getD s d) = false) : l.all p = false := by
  cases hc : l.all p with
  | false => rfl
  | true =>
    have := List.all_eq_true.1 hc (l.getD s d) (mem_getD d h)
    rw [this] at h1
    cases h1
theorem all_full {α : Type} {p : α → Bool} {l : List α} {s : Nat} (h : l.length ≤ s) (h0 : (l.take s).all p = true) : l.all p = true := by
  rw [List.take_of_length_le h] at h0
  exact h0
theorem find_at {α : Type} {p : α → Bool} {xs : List α} {s : Nat} (d : α) (h : s < xs.length) (h0 : (xs.take s).any p = false) (h1 : p (xs.getD s d) = true) : xs.find? p = some (xs.getD s d) := by
  rw [getD_at d h] at h1 ⊢
  rw [List.find?_eq_some_iff_getElem]
  refine ⟨h1, s, h, rfl, fun j hj => ?_⟩
  have := List.any_eq_false.1 h0 xs[j] (by rw [List.mem_take_iff_getElem]; exact ⟨j, by omega, rfl⟩)
  simpa using this
theorem find_none {α : Type} {p : α → Bool} {xs : List α} {s : Nat} (h : xs.length ≤ s) (h0 : (xs.take s).any p = false) : xs.find? p = none := by
  rw [List.take_of_length_le h] at h0
  rw [List.find?_eq_none]
  intro x hx hp
  have := List.any_eq_false.1 h0 x hx
  exact this hp
theorem neq_of {α : Type} [BEq α] [LawfulBEq α] {xs ys : List α} {y : Bool} (e : y = ((xs.length : Int) != (ys.length : Int))) (h : y = true) : false = (xs == ys) := by
  rw [e] at h
  symm
  rw [beq_eq_false_iff_ne]
  rintro rfl
  simp at h
theorem eqlen_of {α : Type} {xs ys : List α} {y : Bool} (e : y = ((xs.length : Int) != (ys.length : Int))) (h : y = false) : xs.length = ys.length := by
  rw [e] at h
  have : (xs.length : Int) = ys.length := by simpa using h
  omega
theorem same_succ {α : Type} {xs ys : List α} {s : Nat} (d : α) (hl : xs.length = ys.length) (h : xs.take s = ys.take s) (hs : s < xs.length) (e : xs.getD s d = ys.getD s d) : xs.take (s + 1) = ys.take (s + 1) := by
  rw [take_succ' d hs, take_succ' d (hl ▸ hs), h, e]
theorem same_full {α : Type} [BEq α] [LawfulBEq α] {xs ys : List α} {s : Nat} (hl : xs.length = ys.length) (h : xs.take s = ys.take s) (hs : xs.length ≤ s) : true = (xs == ys) := by
  rw [List.take_of_length_le hs, List.take_of_length_le (hl ▸ hs)] at h
  simp [h]
theorem same_not {α : Type} [BEq α] [LawfulBEq α] {xs ys : List α} {s : Nat} (d : α) (e : xs.getD s d ≠ ys.getD s d) : false = (xs == ys) := by
  symm
  rw [beq_eq_false_iff_ne]
  rintro rfl
  exact e rfl
theorem flat_succ {α β : Type} (f : α → List β) {l : List α} {s : Nat} (d : α) (h : s < l.length) : (l.take (s + 1)).flatMap f = (l.take s).flatMap f ++ f (l.getD s d) := by
  rw [take_succ' d h, List.flatMap_append]
  simp
theorem map_succ {α β : Type} (f : α → β) {l : List α} {s : Nat} (d : α) (h : s < l.length) : (l.take (s + 1)).map f = (l.take s).map f ++ [f (l.getD s d)] := by
  rw [take_succ' d h, List.map_append]
  rfl
theorem take_all {α : Type} {l : List α} {s : Nat} {y : Bool} (e : y = decide ((s : Int) < (l.length : Int))) (h : y = false) : l.take s = l :=
  List.take_of_length_le (le_of_y e h)

/-! ### Plans in memory -/

def planWf (p : PlanD) : Prop := p.1.length ≤ maxLenI ∧ p.2.1.length ≤ maxLenI ∧ p.2.2.1.length ≤ maxLenI ∧ p.2.2.2.1.length ≤ maxLenI

theorem plan_wf {p : PlanD} (h : PlanT.wf p) : planWf p := ⟨h.1.1, h.2.1.1, h.2.2.1.1, h.2.2.2.1.1⟩

end Ytpnnfimacblhgaa
end Go.Proofs
