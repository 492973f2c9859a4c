/-
  The lamps and the law: written out and proved.
-/
import Derived.Test.YtpnnfimacblhgaaVli
import Derived.Test.YtpnnfimacblhgaaVlj
set_option maxRecDepth 100000
set_option linter.unusedVariables false
set_option linter.unusedSimpArgs false
set_option maxHeartbeats 2000000
namespace Go.Proofs
open Go Go.Vc
namespace Ytpnnfimacblhgaa

/-! ### Plain facts -/

theorem fill_succ : ∀ s, s < 24 → fillUp (s + 1) = (fillUp s).set s (-1) := by decide
theorem fill_len : ∀ s, s ≤ 24 → (fillUp s).length = 24 := fun s h => by unfold fillUp; simp; omega

theorem rep24 : ∀ s, s < 24 → (List.replicate 24 (-1 : Int)).getD s 0 = -1 := by decide

theorem getD_set {α : Type} (l : List α) (i j : Nat) (x d : α) (h : j < l.length) : (l.set i x).getD j d = if i = j then x else l.getD j d := by
  simp only [List.getD_eq_getElem?_getD]
  rw [List.getElem?_set]
  by_cases e : i = j
  · subst e; simp [h]
  · simp [e]

theorem set_len (rs : List RoadD) (ls : List LifeD) : ∀ k, (setRow rs ls k).length = 24
  | 0 => rfl
  | k + 1 => by
    have ih := set_len rs ls k
    show (bif setCond rs ls (rs.length - 1 - k) then _ else _ : List Int).length = 24
    cases setCond rs ls (rs.length - 1 - k)
    · exact ih
    · rw [cond_true, List.length_set]; exact ih

theorem set_range (rs : List RoadD) (ls : List LifeD) : ∀ k, k ≤ rs.length → ∀ s, s < 24 → -1 ≤ (setRow rs ls k).getD s 0 ∧ (setRow rs ls k).getD s 0 < rs.length
  | 0, _, s, hs => by
    have e : (setRow rs ls 0).getD s 0 = -1 := by
      exact rep24 s hs
    rw [e]
    omega
  | k + 1, hk, s, hs => by
    have ih := set_range rs ls k (by omega) s hs
    show -1 ≤ (bif setCond rs ls (rs.length - 1 - k) then _ else _ : List Int).getD s 0 ∧ (bif setCond rs ls (rs.length - 1 - k) then _ else _ : List Int).getD s 0 < _
    cases setCond rs ls (rs.length - 1 - k)
    · exact ih
    · rw [cond_true, getD_set _ _ _ _ _ (by rw [set_len]; exact hs)]
      split
      · omega
      · exact ih

theorem asp_len (rs : List RoadD) (set : List Int) {n k : Nat} (h : k ≤ n) : (aspUp rs set n k).length = n := by
  unfold aspUp
  simp
  omega

theorem asp_zero (rs : List RoadD) (set : List Int) (n : Nat) : aspUp rs set n 0 = List.replicate n 0 := by
  unfold aspUp
  rfl

theorem asp_succ (rs : List RoadD) (set : List Int) {n k : Nat} (h : k < n) : aspUp rs set n (k + 1) = (aspUp rs set n k).set k (fAsp rs set k) := by
  unfold aspUp
  have e : n - k = (n - (k + 1)) + 1 := by omega
  rw [List.set_append_right _ _ (by simp), List.length_map, List.length_range, Nat.sub_self, e, List.replicate_succ, List.set_cons_zero, List.range_succ, List.map_append, List.append_assoc]
  rfl

theorem asp_at (rs : List RoadD) (set : List Int) {n k : Nat} (h : k < n) : (aspUp rs set n k).getD k 0 = 0 := by
  unfold aspUp
  rw [List.getD_eq_getElem?_getD, List.getElem?_append_right (by simp)]
  simp
  have : 0 < n - k := by omega
  simp [this]

theorem set_same {α : Type} {l : List α} {i : Nat} {x d : α} (h : i < l.length) (e : l.getD i d = x) : l.set i x = l := by
  rw [← e, getD_at d h, List.set_getElem_self]

theorem v6 (c : (PlanD) × List (RoadD)) (ls : List (Int × Int × Bool × List Bool)) : bodyVC (ctxOf tab []) Try.f6 c6 (a6 (c, ls, ())) (c, ls, ()) = (
lett ((↑c.snd.length : Int) - (1 : Int)) fun (y2 : Int) =>
lett ((↑c.snd.length : Int) - (1 : Int)) fun (y3 : Int) =>
lett ((0 : Int), (0 : Int), false, []) fun (y4 : Int × Int × Bool × List Bool) =>
lett ((0 : Int), (0 : Int), (0 : Int), [], [], [], [], [], false) fun (y5 : RoadD) =>
lett (List.replicate (↑c.fst.snd.snd.fst.length : Int).toNat (0 : Int)) fun (y6 : List Int) =>
lett (setRow c.snd ls c.snd.length) fun (y7 : List Int) =>
(∃ (s08 : Nat),
s08 ≤ (24 : Nat) ∧
(↑s08 : Int) = (0 : Int) ∧
(0 : Nat) = (0 : Nat) ∧
ls = ls ∧
fillUp s08 =
[(0 : Int), (0 : Int), (0 : Int), (0 : Int), (0 : Int), (0 : Int), (0 : Int), (0 : Int), (0 : Int), (0 : Int), (0 : Int), (0 : Int), (0 : Int), (0 : Int), (0 : Int),
(0 : Int), (0 : Int), (0 : Int), (0 : Int), (0 : Int), (0 : Int), (0 : Int), (0 : Int), (0 : Int)] ∧
c.fst.fst = c.fst.fst ∧
c.fst.snd.fst = c.fst.snd.fst ∧
c.fst.snd.snd.fst = c.fst.snd.snd.fst ∧
c.fst.snd.snd.snd.fst = c.fst.snd.snd.snd.fst ∧
c.fst.snd.snd.snd.snd.fst = c.fst.snd.snd.snd.snd.fst ∧
c.fst.snd.snd.snd.snd.snd.fst = c.fst.snd.snd.snd.snd.snd.fst ∧
c.fst.snd.snd.snd.snd.snd.snd.fst = c.fst.snd.snd.snd.snd.snd.snd.fst ∧
c.fst.snd.snd.snd.snd.snd.snd.snd.fst = c.fst.snd.snd.snd.snd.snd.snd.snd.fst ∧
c.fst.snd.snd.snd.snd.snd.snd.snd.snd = c.fst.snd.snd.snd.snd.snd.snd.snd.snd ∧ c.snd = c.snd ∧ True) ∧
∀ (s8 : Nat),
s8 ≤ (24 : Nat) →
(decide ((↑s8 : Int) < (24 : Int)) = true →
(InB (↑s8 : Int) (24 : Nat) ∧ (fillUp s8).length = (24 : Nat)) ∧
InR IntKind.i64 ((↑s8 : Int) + (1 : Int)) ∧
∃ (s'9 : Nat),
s'9 ≤ (24 : Nat) ∧
(24 : Nat) - s'9 < (24 : Nat) - s8 ∧
(↑s'9 : Int) = (↑s8 : Int) + (1 : Int) ∧
(0 : Nat) = (0 : Nat) ∧
ls = ls ∧
fillUp s'9 = (fillUp s8).set (↑s8 : Int).toNat (-1 : Int) ∧
c.fst.fst = c.fst.fst ∧
c.fst.snd.fst = c.fst.snd.fst ∧
c.fst.snd.snd.fst = c.fst.snd.snd.fst ∧
c.fst.snd.snd.snd.fst = c.fst.snd.snd.snd.fst ∧
c.fst.snd.snd.snd.snd.fst = c.fst.snd.snd.snd.snd.fst ∧
c.fst.snd.snd.snd.snd.snd.fst = c.fst.snd.snd.snd.snd.snd.fst ∧
c.fst.snd.snd.snd.snd.snd.snd.fst = c.fst.snd.snd.snd.snd.snd.snd.fst ∧
c.fst.snd.snd.snd.snd.snd.snd.snd.fst = c.fst.snd.snd.snd.snd.snd.snd.snd.fst ∧
c.fst.snd.snd.snd.snd.snd.snd.snd.snd = c.fst.snd.snd.snd.snd.snd.snd.snd.snd ∧ c.snd = c.snd ∧ True) ∧
(decide ((↑s8 : Int) < (24 : Int)) = false →
InR IntKind.i64 y2 ∧
(∃ (s09 : Nat),
s09 ≤ c.snd.length ∧
y3 - (↑s09 : Int) = y2 ∧
(0 : Nat) = (0 : Nat) ∧
ls = ls ∧
setRow c.snd ls s09 = fillUp s8 ∧
c.fst.fst = c.fst.fst ∧
c.fst.snd.fst = c.fst.snd.fst ∧
c.fst.snd.snd.fst = c.fst.snd.snd.fst ∧
c.fst.snd.snd.snd.fst = c.fst.snd.snd.snd.fst ∧
c.fst.snd.snd.snd.snd.fst = c.fst.snd.snd.snd.snd.fst ∧
c.fst.snd.snd.snd.snd.snd.fst = c.fst.snd.snd.snd.snd.snd.fst ∧
c.fst.snd.snd.snd.snd.snd.snd.fst = c.fst.snd.snd.snd.snd.snd.snd.fst ∧
c.fst.snd.snd.snd.snd.snd.snd.snd.fst = c.fst.snd.snd.snd.snd.snd.snd.snd.fst ∧
c.fst.snd.snd.snd.snd.snd.snd.snd.snd = c.fst.snd.snd.snd.snd.snd.snd.snd.snd ∧ c.snd = c.snd ∧ True) ∧
∀ (s9 : Nat),
lett (decide (y3 - (↑s9 : Int) ≥ (0 : Int))) fun (y10 : Bool) =>
lett (decide (y3 - (↑s9 : Int) < (↑ls.length : Int))) fun (y11 : Bool) =>
lett (c.snd.getD (y3 - (↑s9 : Int)).toNat y5).fst fun (y12 : Int) =>
lett
(bif bif bif y11 then (ls.getD (y3 - (↑s9 : Int)).toNat y4).fst == (2 : Int) else false then decide (y12 ≥ (0 : Int)) else false then decide (y12 < (24 : Int))
else false)
fun (y13 : Bool) =>
lett (y3 - (↑s9 : Int) - (1 : Int)) fun (y14 : Int) =>
s9 ≤ c.snd.length →
(y10 = true →
InB (y3 - (↑s9 : Int)) c.snd.length ∧
(y11 = true → InB (y3 - (↑s9 : Int)) ls.length) ∧
(y13 = true → InB y12 (24 : Nat) ∧ (setRow c.snd ls s9).length = (24 : Nat)) ∧
InR IntKind.i64 y14 ∧
∃ (s'15 : Nat),
s'15 ≤ c.snd.length ∧
c.snd.length - s'15 < c.snd.length - s9 ∧
y3 - (↑s'15 : Int) = y14 ∧
(0 : Nat) = (0 : Nat) ∧
ls = ls ∧
(setRow c.snd ls s'15 = bif y13 then (setRow c.snd ls s9).set y12.toNat (y3 - (↑s9 : Int)) else setRow c.snd ls s9) ∧
c.fst.fst = c.fst.fst ∧
c.fst.snd.fst = c.fst.snd.fst ∧
c.fst.snd.snd.fst = c.fst.snd.snd.fst ∧
c.fst.snd.snd.snd.fst = c.fst.snd.snd.snd.fst ∧
c.fst.snd.snd.snd.snd.fst = c.fst.snd.snd.snd.snd.fst ∧
c.fst.snd.snd.snd.snd.snd.fst = c.fst.snd.snd.snd.snd.snd.fst ∧
c.fst.snd.snd.snd.snd.snd.snd.fst = c.fst.snd.snd.snd.snd.snd.snd.fst ∧
c.fst.snd.snd.snd.snd.snd.snd.snd.fst = c.fst.snd.snd.snd.snd.snd.snd.snd.fst ∧
c.fst.snd.snd.snd.snd.snd.snd.snd.snd = c.fst.snd.snd.snd.snd.snd.snd.snd.snd ∧ c.snd = c.snd ∧ True) ∧
(y10 = false →
((0 : Int) ≤ (↑c.fst.snd.snd.fst.length : Int) ∧ (↑c.fst.snd.snd.fst.length : Int) ≤ (↑c.fst.snd.snd.fst.length : Int)) ∧
(roomFor (↑c.fst.snd.snd.fst.length : Int).toNat (8 : Nat) ∧ (↑c.fst.snd.snd.fst.length : Int) ≤ (↑maxLenI : Int)) ∧
(∃ (s015 : Nat),
s015 ≤ c.fst.snd.snd.fst.length ∧
(↑s015 : Int) = (0 : Int) ∧
(0 : Nat) = (0 : Nat) ∧
(↑y6.length : Int) = (↑y6.length : Int) ∧
aspUp c.snd y7 c.fst.snd.snd.fst.length s015 = y6 ∧
y7 = setRow c.snd ls s9 ∧
c.fst.fst = c.fst.fst ∧
c.fst.snd.fst = c.fst.snd.fst ∧
c.fst.snd.snd.fst = c.fst.snd.snd.fst ∧
c.fst.snd.snd.snd.fst = c.fst.snd.snd.snd.fst ∧
c.fst.snd.snd.snd.snd.fst = c.fst.snd.snd.snd.snd.fst ∧
c.fst.snd.snd.snd.snd.snd.fst = c.fst.snd.snd.snd.snd.snd.fst ∧
c.fst.snd.snd.snd.snd.snd.snd.fst = c.fst.snd.snd.snd.snd.snd.snd.fst ∧
c.fst.snd.snd.snd.snd.snd.snd.snd.fst = c.fst.snd.snd.snd.snd.snd.snd.snd.fst ∧
c.fst.snd.snd.snd.snd.snd.snd.snd.snd = c.fst.snd.snd.snd.snd.snd.snd.snd.snd ∧ c.snd = c.snd ∧ True) ∧
∀ (s15 : Nat),
lett (decide ((↑s15 : Int) < (↑y6.length : Int))) fun (y16 : Bool) =>
lett (y7.getD (↑s15 : Int).toNat (0 : Int)) fun (y17 : Int) =>
lett (bif decide ((↑s15 : Int) ≥ (24 : Int)) then true else decide (y17 < (0 : Int))) fun (y18 : Bool) =>
lett (aspUp c.snd y7 c.fst.snd.snd.fst.length s15) fun (y19 : List Int) =>
lett (c.snd.getD y17.toNat y5).snd
fun (y20 : Int × Int × List (Int × Int × Int) × List (Int × Int) × List (Int × Int) × List Int × List Int × Bool) =>
lett (bif bif y20.snd.fst == (1 : Int) then decide (y20.fst ≥ (0 : Int)) else false then decide (y20.fst < (24 : Int)) else false)
fun (y21 : Bool) =>
lett (y7.getD y20.fst.toNat (0 : Int)) fun (y22 : Int) =>
lett (bif y20.snd.fst == (2 : Int) then true else bif y21 then decide (y22 ≥ (0 : Int)) else false) fun (y23 : Bool) =>
lett (y19.set (↑s15 : Int).toNat (1 : Int)) fun (y24 : List Int) =>
s15 ≤ c.fst.snd.snd.fst.length →
(y16 = true →
(decide ((↑s15 : Int) ≥ (24 : Int)) = false → InB (↑s15 : Int) (24 : Nat) ∧ y7.length = (24 : Nat)) ∧
(y18 = true →
InR IntKind.i64 ((↑s15 : Int) + (1 : Int)) ∧
∃ (s'25 : Nat),
s'25 ≤ c.fst.snd.snd.fst.length ∧
c.fst.snd.snd.fst.length - s'25 < c.fst.snd.snd.fst.length - s15 ∧
(↑s'25 : Int) = (↑s15 : Int) + (1 : Int) ∧
(0 : Nat) = (0 : Nat) ∧
(↑y6.length : Int) = (↑y6.length : Int) ∧
aspUp c.snd y7 c.fst.snd.snd.fst.length s'25 = y19 ∧
y7 = y7 ∧
c.fst.fst = c.fst.fst ∧
c.fst.snd.fst = c.fst.snd.fst ∧
c.fst.snd.snd.fst = c.fst.snd.snd.fst ∧
c.fst.snd.snd.snd.fst = c.fst.snd.snd.snd.fst ∧
c.fst.snd.snd.snd.snd.fst = c.fst.snd.snd.snd.snd.fst ∧
c.fst.snd.snd.snd.snd.snd.fst = c.fst.snd.snd.snd.snd.snd.fst ∧
c.fst.snd.snd.snd.snd.snd.snd.fst = c.fst.snd.snd.snd.snd.snd.snd.fst ∧
c.fst.snd.snd.snd.snd.snd.snd.snd.fst = c.fst.snd.snd.snd.snd.snd.snd.snd.fst ∧
c.fst.snd.snd.snd.snd.snd.snd.snd.snd = c.fst.snd.snd.snd.snd.snd.snd.snd.snd ∧
c.snd = c.snd ∧ True) ∧
(y18 = false →
(InB (↑s15 : Int) (24 : Nat) ∧ y7.length = (24 : Nat)) ∧
InB y17 c.snd.length ∧
InB (↑s15 : Int) y19.length ∧
((y20.snd.fst == (2 : Int)) = false → y21 = true → InB y20.fst (24 : Nat) ∧ y7.length = (24 : Nat)) ∧
(y23 = true → InB (↑s15 : Int) y24.length) ∧
InR IntKind.i64 ((↑s15 : Int) + (1 : Int)) ∧
∃ (s'25 : Nat),
s'25 ≤ c.fst.snd.snd.fst.length ∧
c.fst.snd.snd.fst.length - s'25 < c.fst.snd.snd.fst.length - s15 ∧
(↑s'25 : Int) = (↑s15 : Int) + (1 : Int) ∧
(0 : Nat) = (0 : Nat) ∧
(↑y6.length : Int) = (↑y6.length : Int) ∧
(aspUp c.snd y7 c.fst.snd.snd.fst.length s'25 =
bif y23 then y24.set (↑s15 : Int).toNat (2 : Int) else y24) ∧
y7 = y7 ∧
c.fst.fst = c.fst.fst ∧
c.fst.snd.fst = c.fst.snd.fst ∧
c.fst.snd.snd.fst = c.fst.snd.snd.fst ∧
c.fst.snd.snd.snd.fst = c.fst.snd.snd.snd.fst ∧
c.fst.snd.snd.snd.snd.fst = c.fst.snd.snd.snd.snd.fst ∧
c.fst.snd.snd.snd.snd.snd.fst = c.fst.snd.snd.snd.snd.snd.fst ∧
c.fst.snd.snd.snd.snd.snd.snd.fst = c.fst.snd.snd.snd.snd.snd.snd.fst ∧
c.fst.snd.snd.snd.snd.snd.snd.snd.fst =
c.fst.snd.snd.snd.snd.snd.snd.snd.fst ∧
c.fst.snd.snd.snd.snd.snd.snd.snd.snd =
c.fst.snd.snd.snd.snd.snd.snd.snd.snd ∧
c.snd = c.snd ∧ True)) ∧
(y16 = false → y19 = fAspects c ls ∧ True)))) := by kernel_rfl

theorem b6 (c : ChartD) (ls : List LifeD) (hp : c.1.2.2.1.length ≤ 1000) (hw : c.2.length ≤ maxLenI) : bodyVC (ctxOf tab []) Try.f6 c6 (a6 (c, ls, ())) (c, ls, ()) := by
  have hmax : maxLenI = 9223372036854775807 := rfl
  rw [v6]
  refine lett.mk fun y2 e2 => lett.mk fun y3 e3 => lett.mk fun y4 e4 => lett.mk fun y5 e5 => lett.mk fun y6 e6 => lett.mk fun y7 e7 => ?_
  simp only [true_and, and_true, Int.toNat_natCast]
  have e6 : y6 = List.replicate c.1.2.2.1.length 0 := e6
  have hl6 : y6.length = c.1.2.2.1.length := by rw [e6]; simp
  have hl7 : y7.length = 24 := by rw [e7]; exact set_len _ _ _
  refine ⟨⟨0, by omega, rfl, rfl⟩, fun s hs => ⟨fun h => ?_, fun h => ?_⟩⟩
  · have h := of_decide_eq_true h
    exact ⟨⟨⟨by omega, by omega⟩, fill_len s hs⟩, inR64 (by omega) (by omega), s + 1, by omega, by omega, by omega, fill_succ s (by omega)⟩
  have h := of_decide_eq_false h
  have hs24 : s = 24 := by omega
  subst hs24
  refine ⟨inR_of (by omega) (by omega), ⟨0, by omega, by omega, rfl⟩, fun t => lett.mk fun y10 e10 => lett.mk fun y11 e11 => lett.mk fun y12 e12 => lett.mk fun y13 e13 => lett.mk fun y14 e14 => ?_⟩
  intro ht
  refine ⟨fun h => ?_, fun h => ?_⟩
  · rw [e10] at h
    have h := of_decide_eq_true h
    have hi : y3 - (t : Int) = ((c.2.length - 1 - t : Nat) : Int) := by omega
    rw [hi] at e11 e12 e13 ⊢
    rw [Int.toNat_natCast] at e12 e13
    have e12 : y12 = fromAt c.2 (c.2.length - 1 - t) := by rw [e12, e5]; rfl
    have hc : y13 = setCond c.2 ls (c.2.length - 1 - t) := by
      have e11 : y11 = decide (c.2.length - 1 - t < ls.length) := by
        rw [e11]
        by_cases h : c.2.length - 1 - t < ls.length
        · rw [decide_eq_true h, decide_eq_true (by omega)]
        · rw [decide_eq_false h, decide_eq_false (by omega)]
      rw [e13, e11, e12, e4, geI]
      unfold setCond
      have key : ∀ a b c d : Bool, (bif (bif (bif a then b else false) then c else false) then d else false) = (a && (b && (c && d))) := by decide
      exact key _ _ _ _
    refine ⟨⟨by omega, by omega⟩, fun h11 => ?_, fun h13 => ⟨?_, set_len _ _ _⟩, inR_of (by omega) (by omega), t + 1, by omega, by omega, by omega, ?_⟩
    · rw [e11] at h11
      have := of_decide_eq_true h11
      exact ⟨by omega, this⟩
    · rw [hc] at h13
      unfold setCond at h13
      simp only [Bool.and_eq_true] at h13
      have h1 := of_decide_eq_true h13.2.2.1
      have h2 := of_decide_eq_true h13.2.2.2
      rw [e12]
      exact ⟨h1, h2⟩
    · show (bif setCond c.2 ls (c.2.length - 1 - t) then _ else _) = _
      rw [hc, e12]
  rw [e10] at h
  have h := of_decide_eq_false h
  have htl : t = c.2.length := by omega
  subst htl
  refine ⟨by omega, ⟨roomB (by omega) (by omega), by omega⟩, ⟨0, by omega, rfl, by rw [asp_zero, e6], e7⟩, fun u => lett.mk fun y16 e16 => lett.mk fun y17 e17 => lett.mk fun y18 e18 => lett.mk fun y19 e19 => lett.mk fun y20 e20 => lett.mk fun y21 e21 => lett.mk fun y22 e22 => lett.mk fun y23 e23 => lett.mk fun y24 e24 => ?_⟩
  intro hu
  have hl19 : y19.length = c.1.2.2.1.length := by rw [e19]; exact asp_len _ _ hu
  rw [geN _ 24 24 rfl] at e18 ⊢
  refine ⟨fun h => ?_, fun h => ?_⟩
  · have h := lt_of_y e16 h
    rw [hl6] at h
    have hsucc := asp_succ c.2 y7 h
    have hA : fAsp c.2 y7 u = bif y18 then 0 else bif y23 then 2 else 1 := by
      have e20 : y20 = (c.2.getD y17.toNat zR).2 := by rw [e20, e5]; rfl
      have hcl : clearOf y7 (c.2.getD y17.toNat zR) = y23 := by
        rw [e23, e22, e21, e20, geI, geI]
        unfold clearOf
        have key : ∀ a b c d e : Bool, (a || (b && (c && (d && e)))) = (bif a then true else (bif (bif (bif b then c else false) then d else false) then e else false)) := by decide
        exact key _ _ _ _ _
      unfold fAsp
      rw [← e17, hcl, e18]
      have key : ∀ a b : Bool, (a || b) = (bif a then true else b) := by decide
      rw [key]
    refine ⟨fun h24 => ⟨⟨by omega, by have := of_decide_eq_false h24; omega⟩, hl7⟩, fun h18 => ⟨inR64 (by omega) (by omega), u + 1, by omega, by omega, by omega, ?_⟩, fun h18 => ?_⟩
    · rw [hsucc, hA, h18, e19]
      exact set_same (by rw [asp_len _ _ hu]; exact h) (asp_at c.2 y7 h)
    · rw [e18] at h18
      obtain ⟨g1, g2⟩ := bif_or h18
      rw [← e18] at h18
      have g1 := of_decide_eq_false g1
      have g2 := of_decide_eq_false g2
      have hr := set_range c.2 ls c.2.length (Nat.le_refl _) u (by omega)
      rw [← e7, ← e17] at hr
      refine ⟨⟨⟨by omega, by omega⟩, hl7⟩, ⟨by omega, hr.2⟩, ⟨by omega, by omega⟩, fun _ h21 => ?_, fun _ => ⟨by omega, by rw [e24, List.length_set]; omega⟩, inR64 (by omega) (by omega), u + 1, by omega, by omega, by omega, ?_⟩
      · rw [e21] at h21
        have key : ∀ a b c : Bool, (bif (bif a then b else false) then c else false) = true → b = true ∧ c = true := by decide
        obtain ⟨k1, k2⟩ := key _ _ _ h21
        exact ⟨⟨of_decide_eq_true k1, of_decide_eq_true k2⟩, hl7⟩
      · rw [hsucc, hA, h18, e24, e19]
        cases y23
        · rfl
        · rw [cond_true, List.set_set]; rfl
  · have hle := le_of_y e16 h
    rw [hl6] at hle
    have : u = c.1.2.2.1.length := by omega
    subst this
    rw [e19, e7]
    unfold fAspects
    rfl

theorem ok6 : DOk Try.prog 6 c6 :=
  DOk.of' (l := []) (A := a6) tabOk trivial Try.func6 (by kernel_rfl) (by kernel_rfl) fun x hw hp => b6 x.1 x.2.1 hp hw.1.2.1

/-! ### The small plan's lamps -/

theorem small_build : (fBuild smallP).2 = 0 := by kernel_rfl
theorem small_len : (fBuild smallP).1.2.length = 6 := by kernel_rfl
theorem small_sigs : (fBuild smallP).1.1.2.2.1.length = 5 := by kernel_rfl
theorem small_asp1 : fAspects (fBuild smallP).1 [(2, 0, false, []), (0, 0, false, []), (2, 0, false, []), (0, 0, false, []), (0, 0, false, []), (0, 0, false, [])] = [2, 1, 0, 0, 0] := by kernel_rfl
theorem small_asp2 : fAspects (fBuild smallP).1 [(2, 0, false, []), (0, 0, false, []), (3, 0, false, []), (0, 0, false, []), (0, 0, false, []), (0, 0, false, [])] = [1, 0, 0, 0, 0] := by kernel_rfl

theorem v4 : bodyVC (ctxOf tab [(7, c7), (8, c8), (6, c6), (9, c9), (10, c10)]) Try.f4 c4 noAnn (()) = (
lett
([([(87 : UInt8)], (4 : Int), (0 : Int)), ([(65 : UInt8)], (1 : Int), (20 : Int)), ([(80 : UInt8)], (2 : Int), (10 : Int)), ([(66 : UInt8)], (1 : Int), (20 : Int)),
([(67 : UInt8)], (1 : Int), (30 : Int)), ([(69 : UInt8)], (4 : Int), (0 : Int))],
[(((0 : Int), (0 : Int)), (1 : Int), (0 : Int)), (((1 : Int), (1 : Int)), (2 : Int), (0 : Int)), (((2 : Int), (1 : Int)), (3 : Int), (0 : Int)), (((3 : Int), (1 : Int)), (5 : Int), (0 : Int)),
(((2 : Int), (2 : Int)), (4 : Int), (0 : Int))],
[([(119 : UInt8)], ((0 : Int), (0 : Int)), false), ([(97 : UInt8)], ((1 : Int), (1 : Int)), false), ([(101 : UInt8)], ((5 : Int), (0 : Int)), false),
([(98 : UInt8)], ((3 : Int), (0 : Int)), false), ([(99 : UInt8)], ((4 : Int), (0 : Int)), false)],
[], (10 : Int), (5 : Int), (15 : Int), (2 : Int), false)
fun (y0 : PlanD) =>
lett (bif (fBuild y0).snd != (0 : Int) then true else (↑(fBuild y0).fst.snd.length : Int) != (6 : Int)) fun (y1 : Bool) =>
lett (List.replicate (Int.toNat (6 : Int)) ((0 : Int), (0 : Int), false, [])) fun (y2 : List (Int × Int × Bool × List Bool)) =>
lett ((2 : Int), (0 : Int), false, []) fun (y3 : Int × Int × Bool × List Bool) =>
lett ((y2.set (Int.toNat (0 : Int)) y3).set (Int.toNat (2 : Int)) y3) fun (y4 : List (Int × Int × Bool × List Bool)) =>
lett
(fAspects (fBuild y0).fst y4 ==
(((((List.replicate (5 : Nat) (0 : Int)).set (0 : Nat) (2 : Int)).set (1 : Nat) (1 : Int)).set (2 : Nat) (0 : Int)).set (3 : Nat) (0 : Int)).set (4 : Nat) (0 : Int))
fun (y5 : Bool) =>
lett
(fAspects (fBuild y0).fst (y4.set (Int.toNat (2 : Int)) ((3 : Int), (0 : Int), false, [])) ==
(((((List.replicate (5 : Nat) (0 : Int)).set (0 : Nat) (1 : Int)).set (1 : Nat) (0 : Int)).set (2 : Nat) (0 : Int)).set (3 : Nat) (0 : Int)).set (4 : Nat) (0 : Int))
fun (y6 : Bool) =>
lett ((1 : Int) == (1 : Int) || (1 : Int) == (2 : Int)) fun (y7 : Bool) =>
lett (!((0 : Int) == (1 : Int) || (0 : Int) == (2 : Int))) fun (y8 : Bool) =>
True ∧
shortLines y0 ∧
(y1 = true → false = true ∧ True) ∧
(y1 = false →
((0 : Int) ≤ (6 : Int) ∧ (6 : Int) ≤ (6 : Int)) ∧
(roomFor (Int.toNat (6 : Int)) (48 : Nat) ∧ (6 : Int) ≤ (↑maxLenI : Int)) ∧
InB (0 : Int) y2.length ∧
InB (2 : Int) (y2.set (Int.toNat (0 : Int)) y3).length ∧
(fBuild y0).fst.fst.snd.snd.fst.length ≤ (1000 : Nat) ∧
InB (2 : Int) y4.length ∧
(fBuild y0).fst.fst.snd.snd.fst.length ≤ (1000 : Nat) ∧
True ∧
(y5 = true →
True ∧
(y6 = true →
True ∧
(y7 = true →
True ∧ (y8 = true → True ∧ (!((3 : Int) == (1 : Int) || (3 : Int) == (2 : Int))) = true ∧ True) ∧ (y8 = !true → false = true ∧ True)) ∧
(y7 = !true → false = true ∧ True)) ∧
(y6 = !true → false = true ∧ True)) ∧
(y5 = !true → false = true ∧ True))) := by kernel_rfl

theorem b4 : bodyVC (ctxOf tab [(7, c7), (8, c8), (6, c6), (9, c9), (10, c10)]) Try.f4 c4 noAnn (()) := by
  rw [v4]
  refine lett.mk fun y0 e0 => lett.mk fun y1 e1 => lett.mk fun y2 e2 => lett.mk fun y3 e3 => lett.mk fun y4 e4 => lett.mk fun y5 e5 => lett.mk fun y6 e6 => lett.mk fun y7 e7 => lett.mk fun y8 e8 => ?_
  have e0 : y0 = smallP := e0
  subst e0
  have e2 : y2 = [(0, 0, false, []), (0, 0, false, []), (0, 0, false, []), (0, 0, false, []), (0, 0, false, []), (0, 0, false, [])] := e2
  have e4 : y4 = [(2, 0, false, []), (0, 0, false, []), (2, 0, false, []), (0, 0, false, []), (0, 0, false, []), (0, 0, false, [])] := by rw [e4, e2, e3]; rfl
  have a1 : y1 = false := by rw [e1, small_build, small_len]; rfl
  have a5 : y5 = true := by rw [e5, e4, small_asp1]; rfl
  have a6 : y6 = true := by
    rw [e6, e4]
    show (fAspects (fBuild smallP).1 [(2, 0, false, []), (0, 0, false, []), (3, 0, false, []), (0, 0, false, []), (0, 0, false, []), (0, 0, false, [])] == _) = true
    rw [small_asp2]
    rfl
  have hs : (fBuild smallP).1.1.2.2.1.length ≤ 1000 := by rw [small_sigs]; omega
  refine ⟨trivial, (fun l hl => by cases hl), fun h => (by rw [a1] at h; cases h), fun _ => ⟨by omega, ⟨roomB (by decide) (by decide), by decide⟩, ⟨by omega, by rw [e2]; decide⟩, ⟨by omega, by rw [List.length_set, e2]; decide⟩, hs, ⟨by omega, by rw [e4]; decide⟩, hs, trivial, fun _ => ⟨trivial, fun _ => ⟨trivial, fun _ => ⟨trivial, fun _ => ⟨trivial, rfl, trivial⟩, fun h => (by rw [e8] at h; cases h)⟩, fun h => (by rw [e7] at h; cases h)⟩, fun h => (by rw [a6] at h; cases h)⟩, fun h => (by rw [a5] at h; cases h)⟩⟩

theorem ok4 : DOk Try.prog 4 c4 :=
  DOk.of' (l := [(7, c7), (8, c8), (6, c6), (9, c9), (10, c10)]) (A := fun _ => noAnn) tabOk ⟨ok7, ok8, ok6, ok9, ok10, trivial⟩ Try.func4 (by kernel_rfl) (by kernel_rfl) fun x hw hp => b4

/-! ### One road more -/

theorem set_rel {rs : List RoadD} {m m' : List LifeD} {j : Nat} (hj : j < rs.length) (hjm : j < m.length) (hm' : m' = m.set j (2, (m.getD j zLf).2)) (hnone : ∀ i, i < rs.length → sameFrom rs m j i = false) :
    ∀ k, k ≤ rs.length → ∀ s : Nat, s < 24 → (((s : Int) ≠ fromAt rs j → (setRow rs m k).getD s 0 = (setRow rs m' k).getD s 0) ∧ ((s : Int) = fromAt rs j → (setRow rs m k).getD s 0 = -1))
  | 0, _, s, hs => by
    refine ⟨fun _ => rfl, fun _ => ?_⟩
    exact rep24 s hs
  | k + 1, hk, s, hs => by
    obtain ⟨i1, i2⟩ := set_rel hj hjm hm' hnone k (by omega) s hs
    have hi : rs.length - 1 - k < rs.length := by omega
    have hA : setRow rs m (k + 1) = bif setCond rs m (rs.length - 1 - k) then (setRow rs m k).set (fromAt rs (rs.length - 1 - k)).toNat ((rs.length - 1 - k : Nat) : Int) else setRow rs m k := rfl
    have hB : setRow rs m' (k + 1) = bif setCond rs m' (rs.length - 1 - k) then (setRow rs m' k).set (fromAt rs (rs.length - 1 - k)).toNat ((rs.length - 1 - k : Nat) : Int) else setRow rs m' k := rfl
    generalize rs.length - 1 - k = i at *
    have hno := hnone i hi
    have hl' : m'.length = m.length := by rw [hm', List.length_set]
    by_cases e : i = j
    · subst e
      have hst : ((m.getD i zLf).1 == 2) = false := by
        unfold sameFrom at hno
        rw [beq_self_eq_true, Bool.true_and] at hno
        exact hno
      have hc : setCond rs m i = false := by
        unfold setCond
        rw [hst, Bool.false_and, Bool.and_false]
      rw [hc, cond_false] at hA
      rw [hA]
      refine ⟨fun hne => ?_, i2⟩
      rw [hB, i1 hne]
      cases hd : setCond rs m' i with
      | false => rfl
      | true =>
        rw [cond_true, getD_set _ _ _ _ _ (by rw [set_len]; exact hs), if_neg]
        unfold setCond at hd
        simp only [Bool.and_eq_true] at hd
        have h1 := of_decide_eq_true hd.2.2.1
        omega
    · have hg : m'.getD i zLf = m.getD i zLf := by
        rw [hm']
        simp only [List.getD_eq_getElem?_getD]
        rw [List.getElem?_set_ne (fun h => e h.symm)]
      have hc : setCond rs m' i = setCond rs m i := by
        unfold setCond
        rw [hg, hl']
      rw [hc] at hB
      cases hd : setCond rs m i with
      | false =>
        rw [hd, cond_false] at hA hB
        rw [hA, hB]
        exact ⟨i1, i2⟩
      | true =>
        rw [hd, cond_true] at hA hB
        unfold setCond at hd
        simp only [Bool.and_eq_true] at hd
        have hf0 := of_decide_eq_true hd.2.2.1
        have hne : fromAt rs i ≠ fromAt rs j := fun h => by
          unfold sameFrom at hno
          rw [h, beq_self_eq_true, hd.2.1] at hno
          cases hno
        rw [hA, hB, getD_set _ _ _ _ _ (by rw [set_len]; exact hs), getD_set _ _ _ _ _ (by rw [set_len]; exact hs)]
        refine ⟨fun h => ?_, fun h => ?_⟩
        · split
          · rfl
          · exact i1 h
        · rw [if_neg (by omega)]
          exact i2 h

theorem asp_range (rs : List RoadD) (set : List Int) (s : Nat) : 0 ≤ fAsp rs set s := by
  unfold fAsp
  cases decide (24 ≤ s) || decide (set.getD s 0 < 0) <;> cases clearOf set (rs.getD (set.getD s 0).toNat zR) <;> simp

theorem asp_more {rs : List RoadD} {m m' : List LifeD} {j : Nat} (hj : j < rs.length) (hjm : j < m.length) (hm' : m' = m.set j (2, (m.getD j zLf).2)) (hnone : ∀ i, i < rs.length → sameFrom rs m j i = false) (s : Nat) :
    fAsp rs (setRow rs m rs.length) s ≤ fAsp rs (setRow rs m' rs.length) s := by
  have hrel := set_rel hj hjm hm' hnone rs.length (Nat.le_refl _)
  by_cases hs : s < 24
  · obtain ⟨h1, h2⟩ := hrel s hs
    by_cases e : (s : Int) = fromAt rs j
    · have : fAsp rs (setRow rs m rs.length) s = 0 := by
        unfold fAsp
        rw [h2 e]
        cases decide (24 ≤ s) <;> rfl
      rw [this]
      exact asp_range _ _ _
    · unfold fAsp
      rw [h1 e]
      cases decide (24 ≤ s) || decide ((setRow rs m' rs.length).getD s 0 < 0) with
      | true => exact Int.le_refl _
      | false =>
        rw [cond_false, cond_false]
        generalize rs.getD ((setRow rs m' rs.length).getD s 0).toNat zR = r
        cases hc : clearOf (setRow rs m rs.length) r with
        | false => cases clearOf (setRow rs m' rs.length) r <;> simp
        | true =>
          have : clearOf (setRow rs m' rs.length) r = true := by
            unfold clearOf at hc ⊢
            rw [Bool.or_eq_true] at hc ⊢
            rcases hc with hc | hc
            · exact .inl hc
            · refine .inr ?_
              simp only [Bool.and_eq_true] at hc ⊢
              refine ⟨hc.1, hc.2.1, hc.2.2.1, ?_⟩
              have g1 := of_decide_eq_true hc.2.1
              have g2 := of_decide_eq_true hc.2.2.1
              have g3 := of_decide_eq_true hc.2.2.2
              obtain ⟨k1, k2⟩ := hrel r.2.1.toNat (by omega)
              by_cases e' : ((r.2.1.toNat : Nat) : Int) = fromAt rs j
              · rw [k2 e'] at g3
                omega
              · rw [← k1 e']
                exact hc.2.2.2
          rw [this]
          exact Int.le_refl _
  · unfold fAsp
    rw [decide_eq_true (by omega), Bool.true_or, Bool.true_or]
    exact Int.le_refl _

theorem aspects_len (c : ChartD) (ls : List LifeD) : (fAspects c ls).length = c.1.2.2.1.length := by
  unfold fAspects
  exact asp_len _ _ (Nat.le_refl _)

theorem aspects_at (c : ChartD) (ls : List LifeD) {s : Nat} (h : s < c.1.2.2.1.length) : (fAspects c ls).getD s 0 = fAsp c.2 (setRow c.2 ls c.2.length) s := by
  unfold fAspects aspUp
  rw [List.getD_eq_getElem?_getD, List.getElem?_append_left (by simpa using h)]
  simp [h]

theorem mUp_len (ls : List LifeD) (n : Nat) : ∀ k, (mUp ls n k).length = n
  | 0 => by show (List.replicate n zLf).length = n; simp
  | k + 1 => by
    show ((mUp ls n k).set k _).length = n
    rw [List.length_set]
    exact mUp_len ls n k

theorem roads_facts {p : PlanD} (h : (fRoads p).2 = true) : fFine p = true ∧ (fRoads p).1.length ≤ 64 := by
  unfold fRoads at h ⊢
  cases hf : fFine p with
  | false => rw [hf] at h; cases h
  | true =>
    refine ⟨rfl, ?_⟩
    show (fBuild p).1.2.length ≤ 64
    have := all_len p
    unfold fBuild
    cases fCheck p == 0
    · exact Nat.zero_le _
    · cases (fAll p).2 == 0
      · exact Nat.zero_le _
      · show ((fAll p).1.map (fFlank p)).length ≤ 64
        rw [List.length_map]
        exact this

theorem fine_sigs {p : PlanD} (h : fFine p = true) : p.2.2.1.length ≤ 60 := by
  have h := fine_few h
  unfold fFew at h
  simp only [Bool.and_eq_true] at h
  exact of_decide_eq_true h.2.2.1

theorem v3 (p : PlanD) (ls : List (Int × Int × Bool × List Bool)) (k : Int) : bodyVC (ctxOf tab [(4, c4), (5, c5), (6, c6)]) Try.f3 c3 (a3 (p, ls, k, ())) (p, ls, k, ()) = (
lett (bif bif !(fRoads p).snd then true else decide ((↑ls.length : Int) > (100 : Int)) then true else (↑(fRoads p).fst.length : Int) == (0 : Int)) fun (y3 : Bool) =>
lett ((0 : Int), (0 : Int), false, []) fun (y4 : Int × Int × Bool × List Bool) =>
lett (k.tmod (↑(fRoads p).fst.length : Int)) fun (y5 : Int) =>
lett ((0 : Int), (0 : Int), (0 : Int), [], [], [], [], [], false) fun (y6 : RoadD) =>
True ∧
((!true) = true → false = true ∧ True) ∧
((!true) = false →
True ∧
(y3 = true → true = true ∧ True) ∧
(y3 = false →
((0 : Int) ≤ (↑(fRoads p).fst.length : Int) ∧ (↑(fRoads p).fst.length : Int) ≤ (↑(fRoads p).fst.length : Int)) ∧
(roomFor (↑(fRoads p).fst.length : Int).toNat (48 : Nat) ∧ (↑(fRoads p).fst.length : Int) ≤ (↑maxLenI : Int)) ∧
(∃ (s07 : Nat),
s07 ≤ (fRoads p).fst.length ∧
(↑s07 : Int) = (0 : Int) ∧
ls = ls ∧
k = k ∧
(fRoads p).fst = (fRoads p).fst ∧
mUp ls (fRoads p).fst.length s07 = List.replicate (↑(fRoads p).fst.length : Int).toNat y4 ∧
keepP p (keepP p ((fRoads p).fst = (fRoads p).fst ∧ True))) ∧
∀ (s7 : Nat),
lett (mUp ls (fRoads p).fst.length s7) fun (y8 : List LifeD) =>
lett (bif decide ((↑s7 : Int) < (↑y8.length : Int)) then decide ((↑s7 : Int) < (↑ls.length : Int)) else false) fun (y9 : Bool) =>
lett (fAspects (p, (fRoads p).fst) y8) fun (y10 : List Int) =>
lett (fAspects (p, (fRoads p).fst) (y8.set y5.toNat ((2 : Int), (y8.getD y5.toNat y4).snd))) fun (y11 : List Int) =>
lett (bif (↑y10.length : Int) != (↑p.snd.snd.fst.length : Int) then true else (↑y11.length : Int) != (↑y10.length : Int)) fun (y12 : Bool) =>
s7 ≤ (fRoads p).fst.length →
(y9 = true →
InB (↑s7 : Int) ls.length ∧
InB (↑s7 : Int) y8.length ∧
InR IntKind.i64 ((↑s7 : Int) + (1 : Int)) ∧
∃ (s'13 : Nat),
s'13 ≤ (fRoads p).fst.length ∧
(fRoads p).fst.length - s'13 < (fRoads p).fst.length - s7 ∧
(↑s'13 : Int) = (↑s7 : Int) + (1 : Int) ∧
ls = ls ∧
k = k ∧
(fRoads p).fst = (fRoads p).fst ∧
mUp ls (fRoads p).fst.length s'13 = y8.set (↑s7 : Int).toNat ((ls.getD (↑s7 : Int).toNat y4).fst, (y8.getD (↑s7 : Int).toNat y4).snd) ∧
keepP p (keepP p ((fRoads p).fst = (fRoads p).fst ∧ True))) ∧
(y9 = false →
(↑(fRoads p).fst.length : Int) ≠ (0 : Int) ∧
(∃ (s013 : Nat),
(s013 ≤ (fRoads p).fst.length ∧ noneOf (sameFrom (fRoads p).fst y8 y5.toNat) s013) ∧
(↑s013 : Int) = (0 : Int) ∧
(fRoads p).fst = (fRoads p).fst ∧
y5 = y5 ∧
keepP p (keepP p ((fRoads p).fst = (fRoads p).fst ∧ y8 = y8 ∧ True))) ∧
∀ (s13 : Nat),
lett (decide ((↑s13 : Int) < (↑(fRoads p).fst.length : Int))) fun (y14 : Bool) =>
lett (((fRoads p).fst.getD (↑s13 : Int).toNat y6).fst == ((fRoads p).fst.getD y5.toNat y6).fst) fun (y15 : Bool) =>
lett (bif y15 then (y8.getD (↑s13 : Int).toNat y4).fst == (2 : Int) else false) fun (y16 : Bool) =>
s13 ≤ (fRoads p).fst.length ∧ noneOf (sameFrom (fRoads p).fst y8 y5.toNat) s13 →
(y14 = true →
InB (↑s13 : Int) (fRoads p).fst.length ∧
InB y5 (fRoads p).fst.length ∧
(y15 = true → InB (↑s13 : Int) y8.length) ∧
(y16 = true → true = true ∧ True) ∧
(y16 = false →
InR IntKind.i64 ((↑s13 : Int) + (1 : Int)) ∧
∃ (s'17 : Nat),
(s'17 ≤ (fRoads p).fst.length ∧ noneOf (sameFrom (fRoads p).fst y8 y5.toNat) s'17) ∧
(fRoads p).fst.length - s'17 < (fRoads p).fst.length - s13 ∧
(↑s'17 : Int) = (↑s13 : Int) + (1 : Int) ∧
(fRoads p).fst = (fRoads p).fst ∧
y5 = y5 ∧
keepP p (keepP p ((fRoads p).fst = (fRoads p).fst ∧ y8 = y8 ∧ True)))) ∧
(y14 = false →
p.snd.snd.fst.length ≤ (1000 : Nat) ∧
InB y5 y8.length ∧
p.snd.snd.fst.length ≤ (1000 : Nat) ∧
(y12 = true → false = true ∧ True) ∧
(y12 = false →
(∃ (s017 : Nat), (s017 ≤ y10.length ∧ True) ∧ (↑s017 : Int) = (0 : Int) ∧ y10 = y10 ∧ y11 = y11 ∧ True) ∧
∀ (s17 : Nat),
lett (decide ((↑s17 : Int) < (↑y10.length : Int))) fun (y18 : Bool) =>
lett (y11.getD (↑s17 : Int).toNat (0 : Int)) fun (y19 : Int) =>
lett (y10.getD (↑s17 : Int).toNat (0 : Int)) fun (y20 : Int) =>
s17 ≤ y10.length ∧ True →
(y18 = true →
InB (↑s17 : Int) y11.length ∧
InB (↑s17 : Int) y10.length ∧
(decide (y19 < y20) = true → false = true ∧ True) ∧
(decide (y19 < y20) = false →
InR IntKind.i64 ((↑s17 : Int) + (1 : Int)) ∧
∃ (s'21 : Nat),
(s'21 ≤ y10.length ∧ True) ∧
y10.length - s'21 < y10.length - s17 ∧
(↑s'21 : Int) = (↑s17 : Int) + (1 : Int) ∧ y10 = y10 ∧ y11 = y11 ∧ True)) ∧
(y18 = false → true = true ∧ True))))))) := by kernel_rfl

theorem b3 (p : PlanD) (ls : List LifeD) (k : Int) (hk : 0 ≤ k ∧ k ≤ 255) : bodyVC (ctxOf tab [(4, c4), (5, c5), (6, c6)]) Try.f3 c3 (a3 (p, ls, k, ())) (p, ls, k, ()) := by
  rw [v3]
  refine lett.mk fun y3 e3 => lett.mk fun y4 e4 => lett.mk fun y5 e5 => lett.mk fun y6 e6 => ?_
  refine ⟨trivial, (fun h => by cases h), fun _ => ⟨trivial, fun _ => ⟨rfl, trivial⟩, fun h3 => ?_⟩⟩
  rw [e3] at h3
  obtain ⟨h3, hne⟩ := bif_or h3
  obtain ⟨h3, _⟩ := bif_or h3
  have h3 : (fRoads p).2 = true := by simpa using h3
  obtain ⟨hf, hrl⟩ := roads_facts h3
  have hsg := fine_sigs hf
  rw [eqN' _ 0 0 rfl] at hne
  have hne := of_decide_eq_false hne
  generalize (fRoads p).1 = rs at *
  have h5 : 0 ≤ y5 ∧ y5 < rs.length := by
    rw [e5, Int.tmod_eq_emod_of_nonneg hk.1]
    exact ⟨Int.emod_nonneg _ (by omega), Int.emod_lt_of_pos _ (by omega)⟩
  have h5n : y5.toNat < rs.length := by omega
  simp only [keepP_eq, true_and, and_true, Int.toNat_natCast]
  have hmax : maxLenI = 9223372036854775807 := rfl
  refine ⟨by omega, ⟨roomB (by omega) (by omega), by omega⟩, ⟨0, by omega, rfl, by rw [e4]; rfl⟩, fun s => lett.mk fun y8 e8 => lett.mk fun y9 e9 => lett.mk fun y10 e10 => lett.mk fun y11 e11 => lett.mk fun y12 e12 => ?_⟩
  intro hs
  have hl8 : y8.length = rs.length := by rw [e8]; exact mUp_len _ _ _
  refine ⟨fun h => ?_, fun h => ?_⟩
  · rw [e9] at h
    have key : ∀ a b : Bool, (bif a then b else false) = true → a = true ∧ b = true := by decide
    obtain ⟨k1, k2⟩ := key _ _ h
    have k1 := of_decide_eq_true k1
    have k2 := of_decide_eq_true k2
    refine ⟨⟨by omega, by omega⟩, ⟨by omega, by omega⟩, inR64 (by omega) (by omega), s + 1, by omega, by omega, by omega, ?_⟩
    rw [e8, e4]
    rfl
  · refine ⟨by omega, ⟨0, ⟨by omega, rfl⟩, rfl⟩, fun t => lett.mk fun y14 e14 => lett.mk fun y15 e15 => lett.mk fun y16 e16 => ?_⟩
    rintro ⟨h1, h2⟩
    have h2 : anyTo (sameFrom rs y8 y5.toNat) t = false := h2
    have hS : sameFrom rs y8 y5.toNat t = y16 := by
      rw [e16, e15, e6, e4]
      unfold sameFrom fromAt
      have key : ∀ a b : Bool, (a && b) = (bif a then b else false) := by decide
      exact key _ _
    refine ⟨fun ht => ?_, fun ht => ?_⟩
    · have ht := lt_of_y e14 ht
      exact ⟨⟨by omega, by omega⟩, ⟨h5.1, h5.2⟩, fun _ => ⟨by omega, by omega⟩, fun _ => trivial, fun h16 => ⟨inR64 (by omega) (by omega), t + 1, ⟨by omega, anyTo_succ h2 (by rw [hS, h16])⟩, by omega, by omega⟩⟩
    have hle := le_of_y e14 ht
    have htl : t = rs.length := by omega
    subst htl
    have hnone : ∀ i, i < rs.length → sameFrom rs y8 y5.toNat i = false := anyTo_none.1 h2
    have hl10 : y10.length = p.2.2.1.length := by rw [e10]; exact aspects_len _ _
    have hl11 : y11.length = p.2.2.1.length := by rw [e11]; exact aspects_len _ _
    have h12 : y12 = false := by
      rw [e12, hl10, hl11]
      simp
    refine ⟨by omega, ⟨h5.1, by omega⟩, by omega, (fun h => by rw [h12] at h; cases h), fun _ => ⟨⟨0, by omega, rfl⟩, fun u => lett.mk fun y18 e18 => lett.mk fun y19 e19 => lett.mk fun y20 e20 => ?_⟩⟩
    intro hu
    refine ⟨fun h => ?_, fun _ => trivial⟩
    have h := lt_of_y e18 h
    have hup : u < p.2.2.1.length := by omega
    have hge : y20 ≤ y19 := by
      rw [e20, e19, e10, e11, aspects_at _ _ hup, aspects_at _ _ hup]
      exact asp_more h5n (by omega) (by rw [e4]; rfl) hnone u
    exact ⟨⟨by omega, by omega⟩, ⟨by omega, by omega⟩, (fun hd => by have := of_decide_eq_true hd; omega), fun _ => ⟨inR64 (by omega) (by omega), u + 1, by omega, by omega, by omega⟩⟩

theorem ok3 : DOk Try.prog 3 c3 :=
  DOk.of' (l := [(4, c4), (5, c5), (6, c6)]) (A := a3) tabOk ⟨ok4, ok5, ok6, trivial⟩ Try.func3 (by kernel_rfl) (by kernel_rfl) fun x hw hp => b3 x.1 x.2.1 x.2.2.1 (inR_u8 hw.2.2.1)

end Ytpnnfimacblhgaa
end Go.Proofs
