/-
  The program's call and the reference's Why: proofs; Contracts of the law's own functions (semaphorelaw16), with annotations; What a road needs and what guards it: each element one way; the points that a road moves (plain); Laid, for the small plan with its second road called; what is known of it; The law of Moves; What the statements' proofs share.
-/
import Derived.Test.YtpnnfimacblhgaaGreatM5
import Derived.Test.YtpnnfimacblhgaaGreatRows
import Derived.Test.YtpnnfimacblhgaaGreatM3
import Derived.WalkKit
import Derived.ProofKit
import Derived.OpenShut
import Derived.ShutString
import Derived.ChangeOld
import Derived.Below

section
set_option maxRecDepth 100000
set_option linter.unusedVariables false
set_option linter.unusedSimpArgs false
set_option maxHeartbeats 4000000
namespace Go.Proofs
open Go Go.Vc
namespace YtpnnfimacblhgaaGreat
theorem bif_and {a b : Bool} (h : (bif a then b else false) = true) : a = true ∧ b = true := by
 cases a
 ·cases h
 ·exact ⟨rfl, h⟩
theorem notB {y b : Bool} (e : y = !b) (h : y = false) : b = true := by
 rw [h] at e
 cases b
 ·cases e
 ·rfl
theorem v17 (pos : List Int) (e : Int) : bodyVC (ctxOf tab []) Tryz.f17 c17 noAnn (pos, e, ()) = (
lett (bif decide (e < (0 : Int)) then true else decide (e ≥ (↑pos.length : Int))) fun (y2 : Bool) =>
lett (pos.getD e.toNat (0 : Int) != (1 : Int)) fun (y3 : Bool) =>
lett (bif y2 then true else bif y3 then pos.getD e.toNat (0 : Int) != (2 : Int) else false) fun (y4 : Bool) =>
(y2 = false → InB e pos.length) ∧
(y2 = false → y3 = true → InB e pos.length) ∧ (y4 = true → (0 : Int) = fLies pos e ∧ True) ∧ (y4 = false → InB e pos.length ∧ pos.getD e.toNat (0 : Int) = fLies pos e ∧ True)) := by kernel_rfl
theorem b17 (pos : List Int) (e : Int) : bodyVC (ctxOf tab []) Tryz.f17 c17 noAnn (pos, e, ()) := by
 rw [v17]
 refine lett.mk fun y2 e2 => lett.mk fun y3 e3 => lett.mk fun y4 e4 => ?_
 have hin : y2 = false → InB e pos.length := fun h => by
  rw [e2] at h
  obtain ⟨k1, k2⟩ := bif_or h
  have := of_decide_eq_false k1
  have := of_decide_eq_false k2
  exact ⟨by omega, by omega⟩
 have hF : fLies pos e = bif y4 then 0 else pos.getD e.toNat 0 := by
  unfold fLies
  have : (decide (0 ≤ e) && (decide (e < (pos.length : Int)) && (pos.getD e.toNat 0 == 1 || pos.getD e.toNat 0 == 2))) = !y4 := by
   rw [e4, e3, e2, ltI e 0, geI, bneB, bneB]
   rw [ltI e (pos.length : Int)]
   cases decide (0 ≤ e) <;> cases decide ((pos.length : Int) ≤ e) <;> cases (pos.getD e.toNat 0 == 1) <;> cases (pos.getD e.toNat 0 == 2) <;> rfl
  rw [this]
  cases y4 <;> rfl
 rw [hF]
 refine ⟨hin, fun h _ => hin h, fun h => by rw [h]; exact ⟨rfl, trivial⟩, fun h => ?_⟩
 rw [h]
 refine ⟨hin ?_, rfl, trivial⟩
 rw [h] at e4
 exact (bif_or e4.symm).1
theorem ok17 : DOk Tryz.prog 17 c17 :=
 DOk.of' (l := []) (A := fun _ => noAnn) tabOk trivial Tryz.func17 (by kernel_rfl) (by kernel_rfl) fun x hw hp => b17 x.1 x.2.1
theorem v142 (o : List Bool) (e : Int) : bodyVC (ctxOf tab []) Tryz.f142 c142 noAnn (o, e, ()) = (
lett (bif decide (e ≥ (0 : Int)) then decide (e < (↑o.length : Int)) else false) fun (y2 : Bool) => (y2 = true → InB e o.length) ∧ (bif y2 then o.getD e.toNat false else false) = occAt o e ∧ True) := by kernel_rfl
theorem b142 (o : List Bool) (e : Int) : bodyVC (ctxOf tab []) Tryz.f142 c142 noAnn (o, e, ()) := by
 rw [v142]
 refine lett.mk fun y2 e2 => ⟨fun h => ?_, ?_, trivial⟩
 ·rw [e2] at h
  obtain ⟨k1, k2⟩ := bif_and h
  exact ⟨of_decide_eq_true k1, of_decide_eq_true k2⟩
 ·rw [e2]
  unfold occAt
  show (bif (bif decide (0 ≤ e) then decide (e < (o.length : Int)) else false) then _ else false) = _
  cases decide (0 ≤ e) <;> cases decide (e < (o.length : Int)) <;> rfl
theorem ok142 : DOk Tryz.prog 142 c142 :=
 DOk.of' (l := []) (A := fun _ => noAnn) tabOk trivial Tryz.func142 (by kernel_rfl) (by kernel_rfl) fun x hw hp => b142 x.1 x.2.1
theorem v108 (l : List (Int × Int × Bool × List Bool)) (i : Int) : bodyVC (ctxOf tab []) Tryz.f108 c108 noAnn (l, i, ()) = (
lett (bif decide (i < (0 : Int)) then true else decide (i ≥ (↑l.length : Int))) fun (y2 : Bool) =>
(y2 = true → (0 : Int) = fState l i ∧ True) ∧ (y2 = false → InB i l.length ∧ (l.getD i.toNat ((0 : Int), (0 : Int), false, [])).1 = fState l i ∧ True)) := by kernel_rfl
theorem b108 (l : List LifeD) (i : Int) : bodyVC (ctxOf tab []) Tryz.f108 c108 noAnn (l, i, ()) := by
 rw [v108]
 refine lett.mk fun y2 e2 => ?_
 have hF : fState l i = bif y2 then 0 else (l.getD i.toNat zLf).1 := by
  unfold fState
  rw [e2]
  show (bif decide (i < 0) || decide ((l.length : Int) ≤ i) then _ else _) = bif (bif decide (i < 0) then true else decide ((l.length : Int) ≤ i)) then _ else _
  cases decide (i < 0) <;> rfl
 rw [hF]
 refine ⟨fun h => by rw [h]; exact ⟨rfl, trivial⟩, fun h => ?_⟩
 rw [h]
 rw [e2] at h
 obtain ⟨k1, k2⟩ := bif_or h
 have := of_decide_eq_false k1
 have := of_decide_eq_false k2
 exact ⟨⟨by omega, by omega⟩, rfl, trivial⟩
theorem ok108 : DOk Tryz.prog 108 c108 :=
 DOk.of' (l := []) (A := fun _ => noAnn) tabOk trivial Tryz.func108 (by kernel_rfl) (by kernel_rfl) fun x hw hp => b108 x.1 x.2.1
theorem v111 (p : PlanD) (o : List Bool) (e : Int) : bodyVC (ctxOf tab [(125, c125), (142, c142)]) Tryz.f111 c111 noAnn (p, o, e, ()) = (
True ∧ ((fKind p e != (4 : Int)) = true → True) ∧ (bif fKind p e != (4 : Int) then occAt o e else false) = fOpen p o e ∧ True) := by kernel_rfl
theorem b111 (p : PlanD) (o : List Bool) (e : Int) : bodyVC (ctxOf tab [(125, c125), (142, c142)]) Tryz.f111 c111 noAnn (p, o, e, ()) := by
 rw [v111]
 refine ⟨trivial, fun _ => trivial, ?_, trivial⟩
 unfold fOpen
 rw [bneB]
 cases (fKind p e == 4) <;> rfl
theorem ok111 : DOk Tryz.prog 111 c111 :=
 DOk.of' (l := [(125, c125), (142, c142)]) (A := fun _ => noAnn) tabOk ⟨ok125, ok142, trivial⟩ Tryz.func111 (by kernel_rfl) (by kernel_rfl) fun x hw hp => b111 x.1 x.2.1 x.2.2.1
theorem v109 (p : PlanD) (r : RoadD) (o : List Bool) : bodyVC (ctxOf tab [(33, c33), (111, c111)]) Tryz.f109 c109 (a109 (p, r, o, ())) (p, r, o, ()) = (
lett (fElems r ++ r.2.2.2.2.2.2.1) fun (y3 : List Int) =>
r.2.2.2.1.length ≤ (1000000 : Nat) ∧
roomFor ((fElems r).length + r.2.2.2.2.2.2.1.length) (8 : Nat) ∧
(∃ (s04 : Nat),
(s04 ≤ (elemsZone r).length ∧ (List.take s04 (elemsZone r)).any (fOpen p o) = false) ∧
(↑s04 : Int) = (0 : Int) ∧
o = o ∧
keepP p (y3 = y3 ∧ True)) ∧
∀ (s4 : Nat),
lett (decide ((↑s4 : Int) < (↑y3.length : Int))) fun (y5 : Bool) =>
lett (fOpen p o (y3.getD (↑s4 : Int).toNat (0 : Int))) fun (y6 : Bool) =>
s4 ≤ (elemsZone r).length ∧ (List.take s4 (elemsZone r)).any (fOpen p o) = false →
(y5 = true →
InB (↑s4 : Int) y3.length ∧
True ∧
(y6 = true → true = fTakenR p r o ∧ True) ∧
(y6 = false →
InR IntKind.i64 ((↑s4 : Int) + (1 : Int)) ∧
∃ (s'7 : Nat),
(s'7 ≤ (elemsZone r).length ∧ (List.take s'7 (elemsZone r)).any (fOpen p o) = false) ∧
(elemsZone r).length - s'7 < (elemsZone r).length - s4 ∧
(↑s'7 : Int) = (↑s4 : Int) + (1 : Int) ∧
o = o ∧
keepP p (y3 = y3 ∧ True))) ∧
(y5 = false → false = fTakenR p r o ∧ True)) := by kernel_rfl
theorem b109 (p : PlanD) (r : RoadD) (o : List Bool) (h : roadFits r) : bodyVC (ctxOf tab [(33, c33), (111, c111)]) Tryz.f109 c109 (a109 (p, r, o, ())) (p, r, o, ()) := by
 rw [v109]
 have hz : r.2.2.2.2.2.2.1.length ≤ 1000 := h.2
 have hel := elems_len r
 have hl := h.1.1
 refine lett.mk fun y3 e3 => ?_
 have e3 : y3 = elemsZone r := e3
 subst e3
 have hlen : (elemsZone r).length ≤ 2000 := by unfold elemsZone; rw [List.length_append]; omega
 have hF : fTakenR p r o = (elemsZone r).any (fOpen p o) := by unfold fTakenR; rfl
 simp only [keepP_eq, true_and, and_true, eq_self]
 refine ⟨by omega, roomB (by omega) (by omega), ⟨0, ⟨by omega, by simp⟩, by omega⟩, fun s => lett.mk fun y5 e5 => lett.mk fun y6 e6 => ?_⟩
 rintro ⟨h1, h2⟩
 rw [Int.toNat_natCast] at e6
 refine ⟨fun hs => ?_, fun hs => ?_⟩
 ·have hs := lt_of_y e5 hs
  refine ⟨⟨by omega, by omega⟩, fun hy => ?_, fun hy => ⟨inR64 (by omega) (by omega), s + 1, ⟨by omega, any_succ 0 hs h2 (by rw [← e6]; exact hy)⟩, by omega, by omega⟩⟩
  rw [hF, any_yes (s := s) 0 hs (by rw [← e6]; exact hy)]
 ·rw [hF, any_full (le_of_y e5 hs) h2]
theorem ok109 : DOk Tryz.prog 109 c109 :=
 DOk.of' (l := [(33, c33), (111, c111)]) (A := a109) tabOk ⟨ok33, ok111, trivial⟩ Tryz.func109 (by kernel_rfl) (by kernel_rfl) fun x hw hp => b109 x.1 x.2.1 x.2.2.1 hp
theorem roadIn_eq (c : ChartD) (k : Int) : (bif decide (k < 0) then true else decide (k ≥ (c.2.length : Int))) = !roadIn c k := by
 unfold roadIn
 rw [ltI, geI, ltI k (c.2.length : Int)]
 cases decide (0 ≤ k) <;> cases decide ((c.2.length : Int) ≤ k) <;> rfl
theorem roadIn_mem {c : ChartD} {k : Int} (h : roadIn c k = true) : InB k c.2.length ∧ roadAt c k ∈ c.2 := by
 unfold roadIn at h
 rw [Bool.and_eq_true] at h
 have h1 := of_decide_eq_true h.1
 have h2 := of_decide_eq_true h.2
 exact ⟨⟨h1, h2⟩, mem_getD zR (by omega)⟩
theorem v59 (c : (PlanD) × List (RoadD)) (l : List (Int × Int × Bool × List Bool)) (b : RBookD) (d : List Int) (i : List Bool × List Int × List Bool × List Bool) (k : Int) : bodyVC (ctxOf tab [(108, c108), (109, c109), (110, c110), (17, c17), (111, c111), (112, c112)]) Tryz.f59 c59 (a59 (c, l, b, d, i, k, ())) (c, l, b, d, i, k, ()) = (
lett (bif decide (k < (0 : Int)) then true else decide (k ≥ (↑c.2.length : Int))) fun (y6 : Bool) =>
lett (fWhyR c l b d i k) fun (y7 : Int) =>
lett ((0 : Int), (0 : Int), (0 : Int), [], [], [], [], [], false) fun (y8 : RoadD) =>
lett (c.2.getD k.toNat y8) fun (y9 : RoadD) =>
lett (fTakenR c.1 y9 i.1) fun (y10 : Bool) =>
lett (fMayR b k y9 != (0 : Int)) fun (y11 : Bool) =>
lett (List.replicate (0 : Nat) ((0 : Int), (0 : Int)) ++ y9.2.2.2.2.1) fun (y12 : List (Int × Int)) =>
lett (y12 ++ y9.2.2.2.2.2.1) fun (y13 : List (Int × Int)) =>
(y6 = true → (10 : Int) = y7 ∧ True) ∧
(y6 = false →
InB k c.2.length ∧
(y9.2.2.2.2.2.2.2.2 = true → (11 : Int) = y7 ∧ True) ∧
(y9.2.2.2.2.2.2.2.2 = false →
(∃ (s014 : Nat),
(s014 ≤ c.2.length ∧ noneOf (sameR c l (roadAt c k)) s014) ∧
(↑s014 : Int) = (0 : Int) ∧
l = l ∧
[b] = [b] ∧
(0 : Nat) = (0 : Nat) ∧
d = d ∧
k = k ∧
c.1.1 = c.1.1 ∧
c.1.2.1 = c.1.2.1 ∧
c.1.2.2.1 = c.1.2.2.1 ∧
c.1.2.2.2.1 = c.1.2.2.2.1 ∧
c.1.2.2.2.2.1 = c.1.2.2.2.2.1 ∧
c.1.2.2.2.2.2.1 = c.1.2.2.2.2.2.1 ∧
c.1.2.2.2.2.2.2.1 = c.1.2.2.2.2.2.2.1 ∧
c.1.2.2.2.2.2.2.2.1 = c.1.2.2.2.2.2.2.2.1 ∧
c.1.2.2.2.2.2.2.2.2 = c.1.2.2.2.2.2.2.2.2 ∧
c.2 = c.2 ∧
i.1 = i.1 ∧
i.2.1 = i.2.1 ∧
i.2.2.1 = i.2.2.1 ∧
i.2.2.2 = i.2.2.2 ∧
keepP y9 (True)) ∧
∀ (s14 : Nat),
lett (decide ((↑s14 : Int) < (↑c.2.length : Int))) fun (y15 : Bool) =>
lett ((c.2.getD (↑s14 : Int).toNat y8).1 == y9.1) fun (y16 : Bool) =>
lett (bif y16 then fState l (↑s14 : Int) != (0 : Int) else false) fun (y17 : Bool) =>
s14 ≤ c.2.length ∧ noneOf (sameR c l (roadAt c k)) s14 →
(y15 = true →
InB (↑s14 : Int) c.2.length ∧
(y16 = true → True) ∧
(y17 = true → (12 : Int) = y7 ∧ True) ∧
(y17 = false →
InR IntKind.i64 ((↑s14 : Int) + (1 : Int)) ∧
∃ (s'18 : Nat),
(s'18 ≤ c.2.length ∧ noneOf (sameR c l (roadAt c k)) s'18) ∧
c.2.length - s'18 < c.2.length - s14 ∧
(↑s'18 : Int) = (↑s14 : Int) + (1 : Int) ∧
l = l ∧
[b] = [b] ∧
(0 : Nat) = (0 : Nat) ∧
d = d ∧
k = k ∧
c.1.1 = c.1.1 ∧
c.1.2.1 = c.1.2.1 ∧
c.1.2.2.1 = c.1.2.2.1 ∧
c.1.2.2.2.1 = c.1.2.2.2.1 ∧
c.1.2.2.2.2.1 = c.1.2.2.2.2.1 ∧
c.1.2.2.2.2.2.1 = c.1.2.2.2.2.2.1 ∧
c.1.2.2.2.2.2.2.1 = c.1.2.2.2.2.2.2.1 ∧
c.1.2.2.2.2.2.2.2.1 = c.1.2.2.2.2.2.2.2.1 ∧
c.1.2.2.2.2.2.2.2.2 = c.1.2.2.2.2.2.2.2.2 ∧
c.2 = c.2 ∧
i.1 = i.1 ∧
i.2.1 = i.2.1 ∧
i.2.2.1 = i.2.2.1 ∧
i.2.2.2 = i.2.2.2 ∧
keepP y9 (True))) ∧
(y15 = false →
roadFits y9 ∧
(y10 = true → (13 : Int) = y7 ∧ True) ∧
(y10 = false →
(RSmall b ∧ roadSmall y9) ∧
(y11 = true → fMayR b k y9 = y7 ∧ True) ∧
(y11 = false →
roomFor ((List.replicate (0 : Nat) ((0 : Int), (0 : Int))).length + y9.2.2.2.2.1.length) (16 : Nat) ∧
roomFor (y12.length + y9.2.2.2.2.2.1.length) (16 : Nat) ∧
(∃ (s018 : Nat),
(s018 ≤ (fNeedsAll (roadAt c k)).length ∧ (List.take s018 (fNeedsAll (roadAt c k))).any (pointBad c.1 i) = false) ∧
(↑s018 : Int) = (0 : Int) ∧
[b] = [b] ∧
(0 : Nat) = (0 : Nat) ∧
d = d ∧
c.1.1 = c.1.1 ∧
c.1.2.1 = c.1.2.1 ∧
c.1.2.2.1 = c.1.2.2.1 ∧
c.1.2.2.2.1 = c.1.2.2.2.1 ∧
c.1.2.2.2.2.1 = c.1.2.2.2.2.1 ∧
c.1.2.2.2.2.2.1 = c.1.2.2.2.2.2.1 ∧
c.1.2.2.2.2.2.2.1 = c.1.2.2.2.2.2.2.1 ∧
c.1.2.2.2.2.2.2.2.1 = c.1.2.2.2.2.2.2.2.1 ∧
c.1.2.2.2.2.2.2.2.2 = c.1.2.2.2.2.2.2.2.2 ∧
c.2 = c.2 ∧
i.1 = i.1 ∧
i.2.1 = i.2.1 ∧
i.2.2.1 = i.2.2.1 ∧
i.2.2.2 = i.2.2.2 ∧
keepP y9 (y13 = y13 ∧ True)) ∧
∀ (s18 : Nat),
lett (decide ((↑s18 : Int) < (↑y13.length : Int))) fun (y19 : Bool) =>
lett (y13.getD (↑s18 : Int).toNat ((0 : Int), (0 : Int))) fun (y20 : Int × Int) =>
lett (fLies i.2.1 y20.1 != y20.2) fun (y21 : Bool) =>
lett (bif y21 then fOpen c.1 i.1 y20.1 else false) fun (y22 : Bool) =>
s18 ≤ (fNeedsAll (roadAt c k)).length ∧ (List.take s18 (fNeedsAll (roadAt c k))).any (pointBad c.1 i) = false →
(y19 = true →
InB (↑s18 : Int) y13.length ∧
True ∧
InB (↑s18 : Int) y13.length ∧
(y21 = true → InB (↑s18 : Int) y13.length) ∧
(y21 = true → True) ∧
(y22 = true → (15 : Int) = y7 ∧ True) ∧
(y22 = false →
InR IntKind.i64 ((↑s18 : Int) + (1 : Int)) ∧
∃ (s'23 : Nat),
(s'23 ≤ (fNeedsAll (roadAt c k)).length ∧
(List.take s'23 (fNeedsAll (roadAt c k))).any (pointBad c.1 i) = false) ∧
(fNeedsAll (roadAt c k)).length - s'23 < (fNeedsAll (roadAt c k)).length - s18 ∧
(↑s'23 : Int) = (↑s18 : Int) + (1 : Int) ∧
[b] = [b] ∧
(0 : Nat) = (0 : Nat) ∧
d = d ∧
c.1.1 = c.1.1 ∧
c.1.2.1 = c.1.2.1 ∧
c.1.2.2.1 = c.1.2.2.1 ∧
c.1.2.2.2.1 = c.1.2.2.2.1 ∧
c.1.2.2.2.2.1 = c.1.2.2.2.2.1 ∧
c.1.2.2.2.2.2.1 = c.1.2.2.2.2.2.1 ∧
c.1.2.2.2.2.2.2.1 = c.1.2.2.2.2.2.2.1 ∧
c.1.2.2.2.2.2.2.2.1 = c.1.2.2.2.2.2.2.2.1 ∧
c.1.2.2.2.2.2.2.2.2 =
c.1.2.2.2.2.2.2.2.2 ∧
c.2 = c.2 ∧
i.1 = i.1 ∧
i.2.1 = i.2.1 ∧
i.2.2.1 = i.2.2.1 ∧
i.2.2.2 = i.2.2.2 ∧
keepP y9 (y13 = y13 ∧ True))) ∧
(y19 = false →
((planGood c.1 ∧ roadSmall y9) ∧ d.length = c.1.2.2.2.1.length) ∧ fMayTurn c.1 d y9 i.1 b = y7 ∧ True))))))) := by kernel_rfl
theorem b59 (c : ChartD) (l : List LifeD) (b : RBookD) (d : List Int) (i : InD) (k : Int) (hc : chartOk c) (hb : RSmall b) (hd : d.length = c.1.2.2.2.1.length) (hlen : c.2.length ≤ maxLenI) :
  bodyVC (ctxOf tab [(108, c108), (109, c109), (110, c110), (17, c17), (111, c111), (112, c112)]) Tryz.f59 c59 (a59 (c, l, b, d, i, k, ())) (c, l, b, d, i, k, ()) := by
 rw [v59]
 refine lett.mk fun y6 e6 => lett.mk fun y7 e7 => lett.mk fun y8 e8 => lett.mk fun y9 e9 => lett.mk fun y10 e10 => lett.mk fun y11 e11 => lett.mk fun y12 e12 => lett.mk fun y13 e13 => ?_
 rw [roadIn_eq] at e6
 have e7 : y7 = bif !y6 then whyOf c l b d i k (roadAt c k) else 10 := by rw [e7, e6]; unfold fWhyR; cases roadIn c k <;> rfl
 have e9 : roadAt c k = y9 := by rw [e9, e8]; rfl
 rw [e9] at e7 ⊢
 have e12 : y12 = y9.2.2.2.2.1 := e12
 have e13 : y13 = fNeedsAll y9 := by rw [e13, e12]; unfold fNeedsAll; rfl
 rw [e13, e12]
 simp only [keepP_eq, true_and, and_true, eq_self]
 refine ⟨fun h => by rw [e7, h]; rfl, fun h => ?_⟩
 have hri : roadIn c k = true := notB e6 h
 obtain ⟨hin, hmem⟩ := roadIn_mem hri
 rw [e9] at hmem
 have hf := hc.2 _ hmem
 obtain ⟨l1, l2, l3⟩ := hf.1
 have hnl := all_len2 y9
 have e7 : y7 = whyOf c l b d i k y9 := by rw [e7, h]; rfl
 rw [e7]
 unfold whyOf
 refine ⟨hin, fun h9 => by rw [h9]; rfl, fun h9 => ⟨⟨0, ⟨by omega, rfl⟩, by omega⟩, fun s => lett.mk fun y15 e15 => lett.mk fun y16 e16 => lett.mk fun y17 e17 => ?_⟩⟩
 rw [h9]
 rintro ⟨h1, h2⟩
 have h2 : anyTo (sameR c l y9) s = false := h2
 rw [Int.toNat_natCast, e8] at e16
 refine ⟨fun hs => ?_, fun hs => ?_⟩
 ·have hs := lt_of_y e15 hs
  have h17 : sameR c l y9 s = y17 := by
   rw [e17, e16]
   unfold sameR
   show ((c.2.getD s zR).1 == y9.1 && !(fState l (s : Int) == 0)) = bif (c.2.getD s zR).1 == y9.1 then !(fState l (s : Int) == 0) else false
   cases ((c.2.getD s zR).1 == y9.1) <;> rfl
  refine ⟨⟨by omega, by omega⟩, fun _ => trivial, fun hy => ?_, fun hy => ⟨inRlen hs hlen, s + 1, ⟨by omega, anyTo_succ h2 (by rw [h17]; exact hy)⟩, by omega, by omega⟩⟩
  rw [anyTo_yes hs (by rw [h17]; exact hy)]
  rfl
 ·have hs := le_of_y e15 hs
  have : s = c.2.length := by omega
  subst this
  rw [h2, ← e10]
  refine ⟨hf, fun h10 => by rw [h10]; rfl, fun h10 => ⟨⟨hb, hf.1⟩, fun h11 => ?_, fun h11 => ⟨roomB (by show 0 + _ ≤ _; omega) (by omega), roomB (by omega) (by omega), ⟨0, ⟨by omega, by simp⟩, by omega⟩, fun t => lett.mk fun y19 e19 => lett.mk fun y20 e20 => lett.mk fun y21 e21 => lett.mk fun y22 e22 => ?_⟩⟩⟩
  ·rw [h10]
   rw [bneB] at e11
   rw [← e11, h11]
   rfl
  ·rw [h10]
   rw [bneB] at e11
   rw [← e11, h11]
   rintro ⟨h3, h4⟩
   rw [Int.toNat_natCast] at e20
   refine ⟨fun ht => ?_, fun ht => ?_⟩
   ·have ht := lt_of_y e19 ht
    have h22 : pointBad c.1 i ((fNeedsAll y9).getD t (0, 0)) = y22 := by
     rw [← e20, e22, e21, bneB]
     unfold pointBad
     cases (fLies i.2.1 y20.1 == y20.2) <;> rfl
    refine ⟨⟨by omega, by omega⟩, ⟨by omega, by omega⟩, fun _ => ⟨by omega, by omega⟩, fun _ => trivial, fun hy => ?_, fun hy => ⟨inR64 (by omega) (by omega), t + 1, ⟨by omega, any_succ (0, 0) ht h4 (by rw [h22]; exact hy)⟩, by omega, by omega⟩⟩
    rw [any_yes (s := t) (0, 0) ht (by rw [h22]; exact hy)]
    rfl
   ·rw [any_full (le_of_y e19 ht) h4]
    exact ⟨⟨⟨hc.1, hf.1⟩, hd⟩, rfl⟩
theorem ok59 : DOk Tryz.prog 59 c59 :=
 DOk.of' (l := [(108, c108), (109, c109), (110, c110), (17, c17), (111, c111), (112, c112)]) (A := a59) tabOk ⟨ok108, ok109, ok110, ok17, ok111, ok112, trivial⟩ Tryz.func59 (by kernel_rfl) (by kernel_rfl)
  fun x hw hp => b59 x.1 x.2.1 x.2.2.1 x.2.2.2.1 x.2.2.2.2.1 x.2.2.2.2.2.1 hp.1 hp.2.1 hp.2.2 hw.1.2.1
theorem v65 (l : List (Int × Int × Bool × List Bool)) (i : Int) : bodyVC (ctxOf tab []) Tryz.f65 c65 noAnn (l, i, ()) = (
lett (decide (i ≥ (↑l.length : Int))) fun (y2 : Bool) => (y2 = false → InB i l.length) ∧ (bif y2 then true else (l.getD i.toNat ((0 : Int), (0 : Int), false, [])).1 == (0 : Int)) = fIdle l i ∧ True) := by kernel_rfl
theorem b65 (l : List LifeD) (i : Int) (h : 0 ≤ i) : bodyVC (ctxOf tab []) Tryz.f65 c65 noAnn (l, i, ()) := by
 rw [v65]
 refine lett.mk fun y2 e2 => ⟨fun h2 => ?_, ?_, trivial⟩
 ·rw [h2] at e2
  have := of_decide_eq_false e2.symm
  exact ⟨by omega, by omega⟩
 ·rw [e2, geI]
  unfold fIdle
  cases decide ((l.length : Int) ≤ i) <;> rfl
theorem ok65 : DOk Tryz.prog 65 c65 :=
 DOk.of' (l := []) (A := fun _ => noAnn) tabOk trivial Tryz.func65 (by kernel_rfl) (by kernel_rfl) fun x hw hp => b65 x.1 x.2.1 hp
theorem v66 (c : (PlanD) × List (RoadD)) (i : List Bool × List Int × List Bool × List Bool) (e : Int) : bodyVC (ctxOf tab []) Tryz.f66 c66 noAnn (c, i, e, ()) = (
lett (bif decide (e ≥ (0 : Int)) then decide (e < (↑i.1.length : Int)) else false) fun (y3 : Bool) =>
lett (bif y3 then i.1.getD e.toNat false else false) fun (y4 : Bool) =>
lett (decide (e ≥ (↑c.1.1.length : Int))) fun (y5 : Bool) =>
(y3 = true → InB e i.1.length) ∧
(y4 = true → y5 = false → InB e c.1.1.length) ∧
(bif y4 then bif y5 then true else (c.1.1.getD e.toNat ([], (0 : Int), (0 : Int))).2.1 != (4 : Int) else false) = fTakenE c.1 i.1 e ∧ True) := by kernel_rfl
theorem b66 (c : ChartD) (i : InD) (e : Int) : bodyVC (ctxOf tab []) Tryz.f66 c66 noAnn (c, i, e, ()) := by
 rw [v66]
 refine lett.mk fun y3 e3 => lett.mk fun y4 e4 => lett.mk fun y5 e5 => ?_
 have hin : y3 = true → InB e i.1.length := fun h => by
  rw [e3] at h
  obtain ⟨k1, k2⟩ := bif_and h
  exact ⟨of_decide_eq_true k1, of_decide_eq_true k2⟩
 have h4 : y4 = occAt i.1 e := by
  rw [e4, e3]
  unfold occAt
  show (bif (bif decide (0 ≤ e) then decide (e < (i.1.length : Int)) else false) then _ else false) = _
  cases decide (0 ≤ e) <;> cases decide (e < (i.1.length : Int)) <;> rfl
 refine ⟨hin, fun k4 k5 => ?_, ?_, trivial⟩
 ·rw [e4] at k4
  have := (hin (bif_and k4).1).1
  rw [k5] at e5
  have := of_decide_eq_false e5.symm
  exact ⟨by omega, by omega⟩
 ·unfold fTakenE
  rw [h4, e5, geI, bneB]
  show (bif occAt i.1 e then bif decide ((c.1.1.length : Int) ≤ e) then true else !((c.1.1.getD e.toNat zE).2.1 == 4) else false) = _
  cases occAt i.1 e <;> cases decide ((c.1.1.length : Int) ≤ e) <;> rfl
theorem ok66 : DOk Tryz.prog 66 c66 :=
 DOk.of' (l := []) (A := fun _ => noAnn) tabOk trivial Tryz.func66 (by kernel_rfl) (by kernel_rfl) fun x hw hp => b66 x.1 x.2.1 x.2.2.1
theorem v43 (i : List Bool × List Int × List Bool × List Bool) (n : Int × Int) : bodyVC (ctxOf tab []) Tryz.f43 c43 noAnn (i, n, ()) = (
lett (bif decide (n.1 ≥ (0 : Int)) then decide (n.1 < (↑i.2.1.length : Int)) else false) fun (y2 : Bool) =>
(y2 = true → InB n.1 i.2.1.length) ∧ (bif bif y2 then i.2.1.getD n.1.toNat (0 : Int) == n.2 else false then n.2 != (0 : Int) else false) = fLiesP i.2.1 n ∧ True) := by kernel_rfl
theorem b43 (i : InD) (n : NeedD) : bodyVC (ctxOf tab []) Tryz.f43 c43 noAnn (i, n, ()) := by
 rw [v43]
 refine lett.mk fun y2 e2 => ⟨fun h => ?_, ?_, trivial⟩
 ·rw [e2] at h
  obtain ⟨k1, k2⟩ := bif_and h
  exact ⟨of_decide_eq_true k1, of_decide_eq_true k2⟩
 ·rw [e2, bneB]
  unfold fLiesP
  show (bif (bif (bif decide (0 ≤ n.1) then decide (n.1 < (i.2.1.length : Int)) else false) then i.2.1.getD n.1.toNat 0 == n.2 else false) then !(n.2 == 0) else false) = _
  cases decide (0 ≤ n.1) <;> cases decide (n.1 < (i.2.1.length : Int)) <;> cases (i.2.1.getD n.1.toNat 0 == n.2) <;> rfl
theorem ok43 : DOk Tryz.prog 43 c43 :=
 DOk.of' (l := []) (A := fun _ => noAnn) tabOk trivial Tryz.func43 (by kernel_rfl) (by kernel_rfl) fun x hw hp => b43 x.1 x.2.1
theorem v40 (c : (PlanD) × List (RoadD)) (l : List (Int × Int × Bool × List Bool)) (b : BookD) (t : Option (NetD) × List ((Int × Int) × Bool)) (i : List Bool × List Int × List Bool × List Bool) (k : Int) : bodyVC (ctxOf tab [(65, c65), (66, c66), (67, c67), (42, c42), (43, c43), (23, c23)]) Tryz.f40 c40 (a40 (c, l, b, t, i, k, ())) (c, l, b, t, i, k, ()) = (
lett (bif decide (k < (0 : Int)) then true else decide (k ≥ (↑c.2.length : Int))) fun (y6 : Bool) =>
lett (fWhyP c l b t i k) fun (y7 : Int) =>
lett ((0 : Int), (0 : Int), (0 : Int), [], [], [], [], [], false) fun (y8 : RoadD) =>
lett (c.2.getD k.toNat y8) fun (y9 : RoadD) =>
lett (roadAt c k).2.2.2 fun (y10 : List StepD × List NeedD × List NeedD × List Int × List Int × Bool) =>
lett (fMayB b k y9 != (0 : Int)) fun (y11 : Bool) =>
lett (y9.2.2.2.2.1 ++ y9.2.2.2.2.2.1) fun (y12 : List (Int × Int)) =>
(y6 = true → (10 : Int) = y7 ∧ True) ∧
(y6 = false →
InB k c.2.length ∧
(y9.2.2.2.2.2.2.2.2 = true → (11 : Int) = y7 ∧ True) ∧
(y9.2.2.2.2.2.2.2.2 = false →
(∃ (s013 : Nat),
(s013 ≤ c.2.length ∧ noneOf (sameP c l k (roadAt c k)) s013) ∧
(↑s013 : Int) = (0 : Int) ∧
l = l ∧
[b] = [b] ∧
(0 : Nat) = (0 : Nat) ∧
[t] = [t] ∧
(0 : Nat) = (0 : Nat) ∧
k = k ∧
c.2 = c.2 ∧
(↑c.2.length : Int) = (↑c.2.length : Int) ∧
c.1.1 = c.1.1 ∧
c.1.2.1 = c.1.2.1 ∧
c.1.2.2.1 = c.1.2.2.1 ∧
c.1.2.2.2.1 = c.1.2.2.2.1 ∧
c.1.2.2.2.2.1 = c.1.2.2.2.2.1 ∧
c.1.2.2.2.2.2.1 = c.1.2.2.2.2.2.1 ∧
c.1.2.2.2.2.2.2.1 = c.1.2.2.2.2.2.2.1 ∧
c.1.2.2.2.2.2.2.2.1 = c.1.2.2.2.2.2.2.2.1 ∧
c.1.2.2.2.2.2.2.2.2 = c.1.2.2.2.2.2.2.2.2 ∧
c.2 = c.2 ∧
i.1 = i.1 ∧
i.2.1 = i.2.1 ∧
i.2.2.1 = i.2.2.1 ∧
i.2.2.2 = i.2.2.2 ∧
keepP y9 (True)) ∧
∀ (s13 : Nat),
lett (decide ((↑s13 : Int) < (↑c.2.length : Int))) fun (y14 : Bool) =>
lett (bif (↑s13 : Int) == k then true else (c.2.getD (↑s13 : Int).toNat y8).1 == y9.1) fun (y15 : Bool) =>
lett (bif y15 then !fIdle l (↑s13 : Int) else false) fun (y16 : Bool) =>
s13 ≤ c.2.length ∧ noneOf (sameP c l k (roadAt c k)) s13 →
(y14 = true →
InB (↑s13 : Int) c.2.length ∧
(y15 = true → (0 : Int) ≤ (↑s13 : Int)) ∧
(y16 = true → (12 : Int) = y7 ∧ True) ∧
(y16 = false →
InR IntKind.i64 ((↑s13 : Int) + (1 : Int)) ∧
∃ (s'17 : Nat),
(s'17 ≤ c.2.length ∧ noneOf (sameP c l k (roadAt c k)) s'17) ∧
c.2.length - s'17 < c.2.length - s13 ∧
(↑s'17 : Int) = (↑s13 : Int) + (1 : Int) ∧
l = l ∧
[b] = [b] ∧
(0 : Nat) = (0 : Nat) ∧
[t] = [t] ∧
(0 : Nat) = (0 : Nat) ∧
k = k ∧
c.2 = c.2 ∧
(↑c.2.length : Int) = (↑c.2.length : Int) ∧
c.1.1 = c.1.1 ∧
c.1.2.1 = c.1.2.1 ∧
c.1.2.2.1 = c.1.2.2.1 ∧
c.1.2.2.2.1 = c.1.2.2.2.1 ∧
c.1.2.2.2.2.1 = c.1.2.2.2.2.1 ∧
c.1.2.2.2.2.2.1 = c.1.2.2.2.2.2.1 ∧
c.1.2.2.2.2.2.2.1 = c.1.2.2.2.2.2.2.1 ∧
c.1.2.2.2.2.2.2.2.1 = c.1.2.2.2.2.2.2.2.1 ∧
c.1.2.2.2.2.2.2.2.2 = c.1.2.2.2.2.2.2.2.2 ∧
c.2 = c.2 ∧
i.1 = i.1 ∧
i.2.1 = i.2.1 ∧
i.2.2.1 = i.2.2.1 ∧
i.2.2.2 = i.2.2.2 ∧
keepP y9 (True))) ∧
(y14 = false →
(∃ (s017 : Nat),
(s017 ≤ y10.1.length ∧ (List.take s017 y10.1).any (stepOcc c.1 i.1) = false) ∧
(↑s017 : Int) = (0 : Int) ∧
[b] = [b] ∧
(0 : Nat) = (0 : Nat) ∧
[t] = [t] ∧
(0 : Nat) = (0 : Nat) ∧
k = k ∧
y9.2.2.2.1 = y9.2.2.2.1 ∧
(↑y9.2.2.2.1.length : Int) = (↑y9.2.2.2.1.length : Int) ∧
c.1.1 = c.1.1 ∧
c.1.2.1 = c.1.2.1 ∧
c.1.2.2.1 = c.1.2.2.1 ∧
c.1.2.2.2.1 = c.1.2.2.2.1 ∧
c.1.2.2.2.2.1 = c.1.2.2.2.2.1 ∧
c.1.2.2.2.2.2.1 = c.1.2.2.2.2.2.1 ∧
c.1.2.2.2.2.2.2.1 = c.1.2.2.2.2.2.2.1 ∧
c.1.2.2.2.2.2.2.2.1 = c.1.2.2.2.2.2.2.2.1 ∧
c.1.2.2.2.2.2.2.2.2 = c.1.2.2.2.2.2.2.2.2 ∧
c.2 = c.2 ∧
i.1 = i.1 ∧
i.2.1 = i.2.1 ∧
i.2.2.1 = i.2.2.1 ∧
i.2.2.2 = i.2.2.2 ∧
keepP y9 (True)) ∧
∀ (s17 : Nat),
lett (decide ((↑s17 : Int) < (↑y9.2.2.2.1.length : Int))) fun (y18 : Bool) =>
lett (fTakenE c.1 i.1 (y9.2.2.2.1.getD (↑s17 : Int).toNat ((0 : Int), (0 : Int), (0 : Int))).1) fun (y19 : Bool) =>
s17 ≤ y10.1.length ∧ (List.take s17 y10.1).any (stepOcc c.1 i.1) = false →
(y18 = true →
InB (↑s17 : Int) y9.2.2.2.1.length ∧
True ∧
(y19 = true → (13 : Int) = y7 ∧ True) ∧
(y19 = false →
InR IntKind.i64 ((↑s17 : Int) + (1 : Int)) ∧
∃ (s'20 : Nat),
(s'20 ≤ y10.1.length ∧ (List.take s'20 y10.1).any (stepOcc c.1 i.1) = false) ∧
y10.1.length - s'20 < y10.1.length - s17 ∧
(↑s'20 : Int) = (↑s17 : Int) + (1 : Int) ∧
[b] = [b] ∧
(0 : Nat) = (0 : Nat) ∧
[t] = [t] ∧
(0 : Nat) = (0 : Nat) ∧
k = k ∧
y9.2.2.2.1 = y9.2.2.2.1 ∧
(↑y9.2.2.2.1.length : Int) = (↑y9.2.2.2.1.length : Int) ∧
c.1.1 = c.1.1 ∧
c.1.2.1 = c.1.2.1 ∧
c.1.2.2.1 = c.1.2.2.1 ∧
c.1.2.2.2.1 = c.1.2.2.2.1 ∧
c.1.2.2.2.2.1 = c.1.2.2.2.2.1 ∧
c.1.2.2.2.2.2.1 = c.1.2.2.2.2.2.1 ∧
c.1.2.2.2.2.2.2.1 = c.1.2.2.2.2.2.2.1 ∧
c.1.2.2.2.2.2.2.2.1 = c.1.2.2.2.2.2.2.2.1 ∧
c.1.2.2.2.2.2.2.2.2 = c.1.2.2.2.2.2.2.2.2 ∧
c.2 = c.2 ∧
i.1 = i.1 ∧
i.2.1 = i.2.1 ∧
i.2.2.1 = i.2.2.1 ∧
i.2.2.2 = i.2.2.2 ∧
keepP y9 (True))) ∧
(y18 = false →
(∃ (s020 : Nat),
(s020 ≤ y10.2.2.2.1.length ∧ (List.take s020 y10.2.2.2.1).any (fTakenE c.1 i.1) = false) ∧
(↑s020 : Int) = (0 : Int) ∧
[b] = [b] ∧
(0 : Nat) = (0 : Nat) ∧
[t] = [t] ∧
(0 : Nat) = (0 : Nat) ∧
k = k ∧
y9.2.2.2.2.2.2.1 = y9.2.2.2.2.2.2.1 ∧
(↑y9.2.2.2.2.2.2.1.length : Int) = (↑y9.2.2.2.2.2.2.1.length : Int) ∧
c.1.1 = c.1.1 ∧
c.1.2.1 = c.1.2.1 ∧
c.1.2.2.1 = c.1.2.2.1 ∧
c.1.2.2.2.1 = c.1.2.2.2.1 ∧
c.1.2.2.2.2.1 = c.1.2.2.2.2.1 ∧
c.1.2.2.2.2.2.1 = c.1.2.2.2.2.2.1 ∧
c.1.2.2.2.2.2.2.1 = c.1.2.2.2.2.2.2.1 ∧
c.1.2.2.2.2.2.2.2.1 = c.1.2.2.2.2.2.2.2.1 ∧
c.1.2.2.2.2.2.2.2.2 = c.1.2.2.2.2.2.2.2.2 ∧
c.2 = c.2 ∧
i.1 = i.1 ∧
i.2.1 = i.2.1 ∧
i.2.2.1 = i.2.2.1 ∧
i.2.2.2 = i.2.2.2 ∧
keepP y9 (True)) ∧
∀ (s20 : Nat),
lett (decide ((↑s20 : Int) < (↑y9.2.2.2.2.2.2.1.length : Int))) fun (y21 : Bool) =>
lett (fTakenE c.1 i.1 (y9.2.2.2.2.2.2.1.getD (↑s20 : Int).toNat (0 : Int))) fun (y22 : Bool) =>
s20 ≤ y10.2.2.2.1.length ∧ (List.take s20 y10.2.2.2.1).any (fTakenE c.1 i.1) = false →
(y21 = true →
InB (↑s20 : Int) y9.2.2.2.2.2.2.1.length ∧
True ∧
(y22 = true → (13 : Int) = y7 ∧ True) ∧
(y22 = false →
InR IntKind.i64 ((↑s20 : Int) + (1 : Int)) ∧
∃ (s'23 : Nat),
(s'23 ≤ y10.2.2.2.1.length ∧ (List.take s'23 y10.2.2.2.1).any (fTakenE c.1 i.1) = false) ∧
y10.2.2.2.1.length - s'23 < y10.2.2.2.1.length - s20 ∧
(↑s'23 : Int) = (↑s20 : Int) + (1 : Int) ∧
[b] = [b] ∧
(0 : Nat) = (0 : Nat) ∧
[t] = [t] ∧
(0 : Nat) = (0 : Nat) ∧
k = k ∧
y9.2.2.2.2.2.2.1 = y9.2.2.2.2.2.2.1 ∧
(↑y9.2.2.2.2.2.2.1.length : Int) = (↑y9.2.2.2.2.2.2.1.length : Int) ∧
c.1.1 = c.1.1 ∧
c.1.2.1 = c.1.2.1 ∧
c.1.2.2.1 = c.1.2.2.1 ∧
c.1.2.2.2.1 = c.1.2.2.2.1 ∧
c.1.2.2.2.2.1 = c.1.2.2.2.2.1 ∧
c.1.2.2.2.2.2.1 = c.1.2.2.2.2.2.1 ∧
c.1.2.2.2.2.2.2.1 = c.1.2.2.2.2.2.2.1 ∧
c.1.2.2.2.2.2.2.2.1 = c.1.2.2.2.2.2.2.2.1 ∧
c.1.2.2.2.2.2.2.2.2 = c.1.2.2.2.2.2.2.2.2 ∧
c.2 = c.2 ∧
i.1 = i.1 ∧
i.2.1 = i.2.1 ∧
i.2.2.1 = i.2.2.1 ∧
i.2.2.2 = i.2.2.2 ∧
keepP y9 (True))) ∧
(y21 = false →
(BookOk b ∧ roadSmall y9) ∧
(y11 = true → fMayB b k y9 = y7 ∧ True) ∧
(y11 = false →
shortL y9.2.2.2.2.1 ∧
roomFor (y9.2.2.2.2.1.length + y9.2.2.2.2.2.1.length) (16 : Nat) ∧
(∃ (s023 : Nat),
(s023 ≤ (fNeedsAll (roadAt c k)).length ∧ (List.take s023 (fNeedsAll (roadAt c k))).any (pointBadP c.1 i) = false) ∧
(↑s023 : Int) = (0 : Int) ∧
[b] = [b] ∧
(0 : Nat) = (0 : Nat) ∧
[t] = [t] ∧
(0 : Nat) = (0 : Nat) ∧
(↑y12.length : Int) = (↑y12.length : Int) ∧
c.1.1 = c.1.1 ∧
c.1.2.1 = c.1.2.1 ∧
c.1.2.2.1 = c.1.2.2.1 ∧
c.1.2.2.2.1 = c.1.2.2.2.1 ∧
c.1.2.2.2.2.1 = c.1.2.2.2.2.1 ∧
c.1.2.2.2.2.2.1 = c.1.2.2.2.2.2.1 ∧
c.1.2.2.2.2.2.2.1 = c.1.2.2.2.2.2.2.1 ∧
c.1.2.2.2.2.2.2.2.1 = c.1.2.2.2.2.2.2.2.1 ∧
c.1.2.2.2.2.2.2.2.2 = c.1.2.2.2.2.2.2.2.2 ∧
c.2 = c.2 ∧
i.1 = i.1 ∧
i.2.1 = i.2.1 ∧
i.2.2.1 = i.2.2.1 ∧
i.2.2.2 = i.2.2.2 ∧
keepP y9 (y12 = y12 ∧ True)) ∧
∀ (s23 : Nat),
lett (decide ((↑s23 : Int) < (↑y12.length : Int))) fun (y24 : Bool) =>
lett (y12.getD (↑s23 : Int).toNat ((0 : Int), (0 : Int))) fun (y25 : Int × Int) =>
lett (fTakenE c.1 i.1 y25.1) fun (y26 : Bool) =>
s23 ≤ (fNeedsAll (roadAt c k)).length ∧
(List.take s23 (fNeedsAll (roadAt c k))).any (pointBadP c.1 i) = false →
(y24 = true →
InB (↑s23 : Int) y12.length ∧
True ∧
(fLiesP i.2.1 y25 = true →
InR IntKind.i64 ((↑s23 : Int) + (1 : Int)) ∧
∃ (s'27 : Nat),
(s'27 ≤ (fNeedsAll (roadAt c k)).length ∧
(List.take s'27 (fNeedsAll (roadAt c k))).any (pointBadP c.1 i) = false) ∧
(fNeedsAll (roadAt c k)).length - s'27 < (fNeedsAll (roadAt c k)).length - s23 ∧
(↑s'27 : Int) = (↑s23 : Int) + (1 : Int) ∧
[b] = [b] ∧
(0 : Nat) = (0 : Nat) ∧
[t] = [t] ∧
(0 : Nat) = (0 : Nat) ∧
(↑y12.length : Int) = (↑y12.length : Int) ∧
c.1.1 = c.1.1 ∧
c.1.2.1 = c.1.2.1 ∧
c.1.2.2.1 = c.1.2.2.1 ∧
c.1.2.2.2.1 = c.1.2.2.2.1 ∧
c.1.2.2.2.2.1 = c.1.2.2.2.2.1 ∧
c.1.2.2.2.2.2.1 = c.1.2.2.2.2.2.1 ∧
c.1.2.2.2.2.2.2.1 =
c.1.2.2.2.2.2.2.1 ∧
c.1.2.2.2.2.2.2.2.1 =
c.1.2.2.2.2.2.2.2.1 ∧
c.1.2.2.2.2.2.2.2.2 =
c.1.2.2.2.2.2.2.2.2 ∧
c.2 = c.2 ∧
i.1 = i.1 ∧
i.2.1 = i.2.1 ∧
i.2.2.1 = i.2.2.1 ∧
i.2.2.2 = i.2.2.2 ∧
keepP y9 (y12 = y12 ∧ True)) ∧
(fLiesP i.2.1 y25 = false →
True ∧
(y26 = true → (15 : Int) = y7 ∧ True) ∧
(y26 = false →
InR IntKind.i64 ((↑s23 : Int) + (1 : Int)) ∧
∃ (s'27 : Nat),
(s'27 ≤ (fNeedsAll (roadAt c k)).length ∧
(List.take s'27 (fNeedsAll (roadAt c k))).any (pointBadP c.1 i) = false) ∧
(fNeedsAll (roadAt c k)).length - s'27 < (fNeedsAll (roadAt c k)).length - s23 ∧
(↑s'27 : Int) = (↑s23 : Int) + (1 : Int) ∧
[b] = [b] ∧
(0 : Nat) = (0 : Nat) ∧
[t] = [t] ∧
(0 : Nat) = (0 : Nat) ∧
(↑y12.length : Int) = (↑y12.length : Int) ∧
c.1.1 = c.1.1 ∧
c.1.2.1 = c.1.2.1 ∧
c.1.2.2.1 = c.1.2.2.1 ∧
c.1.2.2.2.1 = c.1.2.2.2.1 ∧
c.1.2.2.2.2.1 = c.1.2.2.2.2.1 ∧
c.1.2.2.2.2.2.1 =
c.1.2.2.2.2.2.1 ∧
c.1.2.2.2.2.2.2.1 =
c.1.2.2.2.2.2.2.1 ∧
c.1.2.2.2.2.2.2.2.1 =
c.1.2.2.2.2.2.2.2.1 ∧
c.1.2.2.2.2.2.2.2.2 =
c.1.2.2.2.2.2.2.2.2 ∧
c.2 = c.2 ∧
i.1 = i.1 ∧
i.2.1 = i.2.1 ∧
i.2.2.1 = i.2.2.1 ∧
i.2.2.2 = i.2.2.2 ∧
keepP y9 (y12 = y12 ∧ True)))) ∧
(y24 = false →
((netLined t.1 ∧ y9.2.2.2.1.length ≤ (1000 : Nat)) ∧ oneOwners b) ∧
fMayT t y9 i.1 b = y7 ∧ True)))))))) := by kernel_rfl
theorem b40 (c : ChartD) (l : List LifeD) (b : BookD) (t : TokenD) (i : InD) (k : Int) (hc : chartOk c) (hb : BookOk b) (ht : netLined t.1) (hlen : c.2.length ≤ maxLenI) :
  bodyVC (ctxOf tab [(65, c65), (66, c66), (67, c67), (42, c42), (43, c43), (23, c23)]) Tryz.f40 c40 (a40 (c, l, b, t, i, k, ())) (c, l, b, t, i, k, ()) := by
 rw [v40]
 refine lett.mk fun y6 e6 => lett.mk fun y7 e7 => lett.mk fun y8 e8 => lett.mk fun y9 e9 => lett.mk fun y10 e10 => lett.mk fun y11 e11 => lett.mk fun y12 e12 => ?_
 rw [roadIn_eq] at e6
 have e7 : y7 = bif !y6 then whyOfP c l b t i k (roadAt c k) else 10 := by rw [e7, e6]; unfold fWhyP; cases roadIn c k <;> rfl
 have e9 : roadAt c k = y9 := by rw [e9, e8]; rfl
 rw [e9] at e7 e10 ⊢
 have e12 : y12 = fNeedsAll y9 := by rw [e12]; unfold fNeedsAll; rfl
 rw [e12, e10]
 simp only [keepP_eq, true_and, and_true, eq_self]
 refine ⟨fun h => by rw [e7, h]; rfl, fun h => ?_⟩
 have hri : roadIn c k = true := notB e6 h
 obtain ⟨hin, hmem⟩ := roadIn_mem hri
 rw [e9] at hmem
 have hf := hc.2 _ hmem
 obtain ⟨l1, l2, l3⟩ := hf.1
 have hz : y9.2.2.2.2.2.2.1.length ≤ 1000 := hf.2
 have hnl := all_len2 y9
 have e7 : y7 = whyOfP c l b t i k y9 := by rw [e7, h]; rfl
 rw [e7]
 unfold whyOfP
 refine ⟨hin, fun h9 => by rw [h9]; rfl, fun h9 => ⟨⟨0, ⟨by omega, rfl⟩, by omega⟩, fun s => lett.mk fun y14 e14 => lett.mk fun y15 e15 => lett.mk fun y16 e16 => ?_⟩⟩
 rw [h9]
 rintro ⟨h1, h2⟩
 have h2 : anyTo (sameP c l k y9) s = false := h2
 rw [Int.toNat_natCast, e8] at e15
 refine ⟨fun hs => ?_, fun hs => ?_⟩
 ·have hs := lt_of_y e14 hs
  have h16 : sameP c l k y9 s = y16 := by
   rw [e16, e15]
   unfold sameP
   show (((s : Int) == k || (c.2.getD s zR).1 == y9.1) && !fIdle l (s : Int)) = bif (bif (s : Int) == k then true else (c.2.getD s zR).1 == y9.1) then !fIdle l (s : Int) else false
   cases ((s : Int) == k) <;> cases ((c.2.getD s zR).1 == y9.1) <;> rfl
  refine ⟨⟨by omega, by omega⟩, fun _ => by omega, fun hy => ?_, fun hy => ⟨inRlen hs hlen, s + 1, ⟨by omega, anyTo_succ h2 (by rw [h16]; exact hy)⟩, by omega, by omega⟩⟩
  rw [anyTo_yes hs (by rw [h16]; exact hy)]
  rfl
 ·have hs := le_of_y e14 hs
  have : s = c.2.length := by omega
  subst this
  rw [h2]
  refine ⟨⟨0, ⟨by omega, by simp⟩, by omega⟩, fun s => lett.mk fun y18 e18 => lett.mk fun y19 e19 => ?_⟩
  rintro ⟨h3, h4⟩
  rw [Int.toNat_natCast] at e19
  have e19 : y19 = stepOcc c.1 i.1 (y9.2.2.2.1.getD s zSt) := e19
  refine ⟨fun hs => ?_, fun hs => ?_⟩
  ·have hs := lt_of_y e18 hs
   refine ⟨⟨by omega, by omega⟩, fun hy => ?_, fun hy => ⟨inR64 (by omega) (by omega), s + 1, ⟨by show s + 1 ≤ y9.2.2.2.1.length; omega, any_succ zSt hs h4 (by rw [← e19]; exact hy)⟩, by show y9.2.2.2.1.length - (s + 1) < y9.2.2.2.1.length - s; omega, by omega⟩⟩
   rw [any_yes (s := s) zSt hs (by rw [← e19]; exact hy)]
   rfl
  ·have hs := le_of_y e18 hs
   rw [any_full hs h4]
   refine ⟨⟨0, ⟨by omega, by simp⟩, by omega⟩, fun s => lett.mk fun y21 e21 => lett.mk fun y22 e22 => ?_⟩
   rintro ⟨h5, h6⟩
   rw [Int.toNat_natCast] at e22
   refine ⟨fun hs => ?_, fun hs => ?_⟩
   ·have hs := lt_of_y e21 hs
    refine ⟨⟨by omega, by omega⟩, fun hy => ?_, fun hy => ⟨inR64 (by omega) (by omega), s + 1, ⟨by show s + 1 ≤ y9.2.2.2.2.2.2.1.length; omega, any_succ 0 hs h6 (by rw [← e22]; exact hy)⟩, by show y9.2.2.2.2.2.2.1.length - (s + 1) < y9.2.2.2.2.2.2.1.length - s; omega, by omega⟩⟩
    rw [any_yes (s := s) 0 hs (by rw [← e22]; exact hy)]
    rfl
   ·have hs := le_of_y e21 hs
    rw [any_full hs h6]
    rw [bneB] at e11
    rw [← e11]
    refine ⟨⟨hb, hf.1⟩, fun h11 => by rw [h11]; rfl, fun h11 => ?_⟩
    rw [h11]
    refine ⟨l2, roomB (by omega) (by omega), ⟨0, ⟨by omega, by simp⟩, by omega⟩, fun s => lett.mk fun y24 e24 => lett.mk fun y25 e25 => lett.mk fun y26 e26 => ?_⟩
    rintro ⟨h7, h8⟩
    rw [Int.toNat_natCast] at e25
    refine ⟨fun hs => ?_, fun hs => ?_⟩
    ·have hs := lt_of_y e24 hs
     have hp : pointBadP c.1 i ((fNeedsAll y9).getD s (0, 0)) = (!fLiesP i.2.1 y25 && y26) := by rw [← e25, e26]; rfl
     refine ⟨⟨by omega, by omega⟩, fun hy => ⟨inR64 (by omega) (by omega), s + 1, ⟨by omega, any_succ (0, 0) hs h8 (by rw [hp, hy]; rfl)⟩, by omega, by omega⟩, fun hy => ⟨fun hx => ?_, fun hx => ⟨inR64 (by omega) (by omega), s + 1, ⟨by omega, any_succ (0, 0) hs h8 (by rw [hp, hx]; simp)⟩, by omega, by omega⟩⟩⟩
     rw [any_yes (s := s) (0, 0) hs (by rw [hp, hy, hx]; rfl)]
     rfl
    ·rw [any_full (le_of_y e24 hs) h8]
     exact ⟨⟨⟨ht, l1⟩, hb.owners⟩, rfl⟩
theorem ok40 : DOk Tryz.prog 40 c40 :=
 DOk.of' (l := [(65, c65), (66, c66), (67, c67), (42, c42), (43, c43), (23, c23)]) (A := a40) tabOk ⟨ok65, ok66, ok67, ok42, ok43, ok23, trivial⟩ Tryz.func40 (by kernel_rfl) (by kernel_rfl)
  fun x hw hp => b40 x.1 x.2.1 x.2.2.1 x.2.2.2.1 x.2.2.2.2.1 x.2.2.2.2.2.1 hp.1 hp.2.1 hp.2.2 hw.1.2.1
theorem moves_len (pos : List Int) (l : List NeedD) : ∀ k, (movesUp pos l k).length ≤ k
 | 0 => Nat.le_refl _
 | k + 1 => by
  have ih := moves_len pos l k
  show (moveStep pos (movesUp pos l k) _).length ≤ _
  unfold moveStep
  cases !fLiesP pos (l.getD k (0, 0)) && !fMem (movesUp pos l k) (l.getD k (0, 0)).1 with
  | true =>
   show (_ ++ [_]).length ≤ _
   rw [List.length_append]
   show _ + 1 ≤ _
   omega
  | false => show (movesUp pos l k).length ≤ _; omega
theorem v15 (c : (PlanD) × List (RoadD)) (i : List Bool × List Int × List Bool × List Bool) (k : Int) : bodyVC (ctxOf tab [(42, c42), (43, c43), (44, c44)]) Tryz.f15 c15 (a15 (c, i, k, ())) (c, i, k, ()) = (
lett (bif decide (k < (0 : Int)) then true else decide (k ≥ (↑c.2.length : Int))) fun (y3 : Bool) =>
lett (c.2.getD k.toNat ((0 : Int), (0 : Int), (0 : Int), [], [], [], [], [], false))
fun (y4 : RoadD) =>
lett (y4.2.2.2.2.1 ++ y4.2.2.2.2.2.1) fun (y5 : List (Int × Int)) =>
(y3 = true → [] = fMoves c i k ∧ True) ∧
(y3 = false →
InB k c.2.length ∧
shortL y4.2.2.2.2.1 ∧
roomFor (y4.2.2.2.2.1.length + y4.2.2.2.2.2.1.length) (16 : Nat) ∧
(∃ (s06 : Nat),
s06 ≤ (fNeedsAll (roadAt c k)).length ∧
(↑s06 : Int) = (0 : Int) ∧
(↑y5.length : Int) = (↑y5.length : Int) ∧
movesUp i.2.1 (fNeedsAll (roadAt c k)) s06 = [] ∧
c.1.1 = c.1.1 ∧
c.1.2.1 = c.1.2.1 ∧
c.1.2.2.1 = c.1.2.2.1 ∧
c.1.2.2.2.1 = c.1.2.2.2.1 ∧
c.1.2.2.2.2.1 = c.1.2.2.2.2.1 ∧
c.1.2.2.2.2.2.1 = c.1.2.2.2.2.2.1 ∧
c.1.2.2.2.2.2.2.1 = c.1.2.2.2.2.2.2.1 ∧
c.1.2.2.2.2.2.2.2.1 = c.1.2.2.2.2.2.2.2.1 ∧
c.1.2.2.2.2.2.2.2.2 = c.1.2.2.2.2.2.2.2.2 ∧
c.2 = c.2 ∧
i.1 = i.1 ∧
i.2.1 = i.2.1 ∧
i.2.2.1 = i.2.2.1 ∧
i.2.2.2 = i.2.2.2 ∧
keepP y4 (y5 = y5 ∧ True)) ∧
∀ (s6 : Nat),
lett (decide ((↑s6 : Int) < (↑y5.length : Int))) fun (y7 : Bool) =>
lett (y5.getD (↑s6 : Int).toNat ((0 : Int), (0 : Int))) fun (y8 : Int × Int) =>
lett (!fLiesP i.2.1 y8) fun (y9 : Bool) =>
lett (movesUp i.2.1 (fNeedsAll (roadAt c k)) s6) fun (y10 : List Int) =>
lett (bif y9 then !fMem y10 y8.1 else false) fun (y11 : Bool) =>
lett ((List.replicate (1 : Nat) (0 : Int)).set (0 : Nat) y8.1) fun (y12 : List Int) =>
s6 ≤ (fNeedsAll (roadAt c k)).length →
(y7 = true →
InB (↑s6 : Int) y5.length ∧
True ∧
(y9 = true → True) ∧
(y11 = true →
roomFor (y10.length + y12.length) (8 : Nat) ∧
InR IntKind.i64 ((↑s6 : Int) + (1 : Int)) ∧
∃ (s'13 : Nat),
s'13 ≤ (fNeedsAll (roadAt c k)).length ∧
(fNeedsAll (roadAt c k)).length - s'13 < (fNeedsAll (roadAt c k)).length - s6 ∧
(↑s'13 : Int) = (↑s6 : Int) + (1 : Int) ∧
(↑y5.length : Int) = (↑y5.length : Int) ∧
movesUp i.2.1 (fNeedsAll (roadAt c k)) s'13 = y10 ++ y12 ∧
c.1.1 = c.1.1 ∧
c.1.2.1 = c.1.2.1 ∧
c.1.2.2.1 = c.1.2.2.1 ∧
c.1.2.2.2.1 = c.1.2.2.2.1 ∧
c.1.2.2.2.2.1 = c.1.2.2.2.2.1 ∧
c.1.2.2.2.2.2.1 = c.1.2.2.2.2.2.1 ∧
c.1.2.2.2.2.2.2.1 = c.1.2.2.2.2.2.2.1 ∧
c.1.2.2.2.2.2.2.2.1 = c.1.2.2.2.2.2.2.2.1 ∧
c.1.2.2.2.2.2.2.2.2 = c.1.2.2.2.2.2.2.2.2 ∧
c.2 = c.2 ∧
i.1 = i.1 ∧
i.2.1 = i.2.1 ∧
i.2.2.1 = i.2.2.1 ∧
i.2.2.2 = i.2.2.2 ∧
keepP y4 (y5 = y5 ∧ True)) ∧
(y11 = false →
InR IntKind.i64 ((↑s6 : Int) + (1 : Int)) ∧
∃ (s'13 : Nat),
s'13 ≤ (fNeedsAll (roadAt c k)).length ∧
(fNeedsAll (roadAt c k)).length - s'13 < (fNeedsAll (roadAt c k)).length - s6 ∧
(↑s'13 : Int) = (↑s6 : Int) + (1 : Int) ∧
(↑y5.length : Int) = (↑y5.length : Int) ∧
movesUp i.2.1 (fNeedsAll (roadAt c k)) s'13 = y10 ∧
c.1.1 = c.1.1 ∧
c.1.2.1 = c.1.2.1 ∧
c.1.2.2.1 = c.1.2.2.1 ∧
c.1.2.2.2.1 = c.1.2.2.2.1 ∧
c.1.2.2.2.2.1 = c.1.2.2.2.2.1 ∧
c.1.2.2.2.2.2.1 = c.1.2.2.2.2.2.1 ∧
c.1.2.2.2.2.2.2.1 = c.1.2.2.2.2.2.2.1 ∧
c.1.2.2.2.2.2.2.2.1 = c.1.2.2.2.2.2.2.2.1 ∧
c.1.2.2.2.2.2.2.2.2 = c.1.2.2.2.2.2.2.2.2 ∧
c.2 = c.2 ∧
i.1 = i.1 ∧
i.2.1 = i.2.1 ∧
i.2.2.1 = i.2.2.1 ∧
i.2.2.2 = i.2.2.2 ∧
keepP y4 (y5 = y5 ∧ True))) ∧
(y7 = false → y10 = fMoves c i k ∧ True))) := by kernel_rfl
theorem b15 (c : ChartD) (i : InD) (k : Int) (hc : ∀ r ∈ c.2, roadSmall r) : bodyVC (ctxOf tab [(42, c42), (43, c43), (44, c44)]) Tryz.f15 c15 (a15 (c, i, k, ())) (c, i, k, ()) := by
 rw [v15]
 refine lett.mk fun y3 e3 => lett.mk fun y4 e4 => lett.mk fun y5 e5 => ?_
 rw [roadIn_eq] at e3
 have e4 : roadAt c k = y4 := e4.symm
 rw [e4]
 have e5 : y5 = fNeedsAll y4 := by rw [e5]; unfold fNeedsAll; rfl
 subst e5
 have hF : fMoves c i k = bif !y3 then movesUp i.2.1 (fNeedsAll y4) (fNeedsAll y4).length else [] := by
  rw [e3]
  unfold fMoves movesOf
  rw [e4]
  cases roadIn c k <;> rfl
 rw [hF]
 simp only [keepP_eq, true_and, and_true, eq_self]
 refine ⟨fun h => by rw [h]; rfl, fun h => ?_⟩
 have hri : roadIn c k = true := notB e3 h
 obtain ⟨hin, hmem⟩ := roadIn_mem hri
 rw [e4] at hmem
 obtain ⟨l1, l2, l3⟩ := hc _ hmem
 have hnl := all_len2 y4
 rw [h]
 refine ⟨hin, l2, roomB (by omega) (by omega), ⟨0, by omega, by omega, rfl⟩, fun s => lett.mk fun y7 e7 => lett.mk fun y8 e8 => lett.mk fun y9 e9 => lett.mk fun y10 e10 => lett.mk fun y11 e11 => lett.mk fun y12 e12 => fun hs => ⟨fun h7 => ?_, fun h7 => ?_⟩⟩
 ·have hs' := lt_of_y e7 h7
  rw [Int.toNat_natCast] at e8
  have hl := moves_len i.2.1 (fNeedsAll y4) s
  rw [← e10] at hl
  have hstep : movesUp i.2.1 (fNeedsAll y4) (s + 1) = bif y11 then y10 ++ y12 else y10 := by
   show moveStep i.2.1 (movesUp i.2.1 (fNeedsAll y4) s) ((fNeedsAll y4).getD s (0, 0)) = _
   rw [← e8, ← e10, e11, e9, e12]
   unfold moveStep
   cases !fLiesP i.2.1 y8 <;> rfl
  refine ⟨⟨by omega, by omega⟩, fun _ => trivial, fun hy => ⟨roomB (by rw [e12]; show y10.length + 1 ≤ _; omega) (by omega), inR64 (by omega) (by omega), s + 1, by omega, by omega, by omega, by rw [hstep, hy]; rfl⟩, fun hy => ⟨inR64 (by omega) (by omega), s + 1, by omega, by omega, by omega, by rw [hstep, hy]; rfl⟩⟩
 ·have hs' := le_of_y e7 h7
  have : s = (fNeedsAll y4).length := by omega
  subst this
  rw [e10]
  rfl
theorem ok15 : DOk Tryz.prog 15 c15 :=
 DOk.of' (l := [(42, c42), (43, c43), (44, c44)]) (A := a15) tabOk ⟨ok42, ok43, ok44, trivial⟩ Tryz.func15 (by kernel_rfl) (by kernel_rfl) fun x hw hp => b15 x.1 x.2.1 x.2.2.1 hp
theorem ok15f : DOk Tryz.prog 15 c15f := ok15.asFresh rfl
end YtpnnfimacblhgaaGreat
end Go.Proofs
end

section
set_option maxRecDepth 100000
set_option linter.unusedVariables false
namespace Go.Proofs
open Go Go.Vc
namespace YtpnnfimacblhgaaGreat
abbrev DeskO : OTy := .cells true (.pair (.dat ChartT) (.pair (.row 143 LifeT) (.pair BookO (.pair TokenO (.pair RBookO (.row 3 I))))))
abbrev DeskD := ChartD × List LifeD × BookD × TokenD × RBookD × List Int
def zIn : InD := ([], [], [], [])
def laidK (p : PlanD) (w : List Int) (k : Nat) : Int := (w.getD k 0).tmod ((fRoads p).1.length : Int)
def laidGo (p : PlanD) (s : DeskD) (k : Int) : DeskD :=
 bif !(fWhyR s.1 s.2.1 s.2.2.2.2.1 s.2.2.2.2.2 zIn k == 0) then s else
  (s.1, s.2.1.set k.toNat (fBegin ((roadAt s.1 k).2.2.2.1.length : Int)), fTakeB s.2.2.1 k (roadAt s.1 k), fTakeT s.2.2.2.1 (roadAt s.1 k) [] s.2.2.1, fTakeR s.2.2.2.2.1 k (roadAt s.1 k), fTurnedR p s.2.2.2.2.2 (roadAt s.1 k))
def laidZero (p : PlanD) : DeskD :=
 ((p, (fRoads p).1), List.replicate (fRoads p).1.length zLf, (max 0 (min (p.1.length : Int) 40), [], [], [], []), (fMade p, []), (min (max (p.1.length : Int) 0) 40, []), List.replicate p.2.2.2.1.length 0)
@[irreducible] def laidUp (p : PlanD) (w : List Int) (k : Nat) : DeskD := (List.range k).foldl (fun s j => laidGo p s (laidK p w j)) (laidZero p)
def laidPre (p : PlanD) (w : List Int) : Prop := p = smallP ∧ w = [1]
def c38 : OCon where
 args := [.dat PlanT, .dat (.list (.int .u8))]
 outs := [DeskO]
 pre := fun (x : PlanD × List Int × Unit) => laidPre x.1 x.2.1
 fn := fun (x : PlanD × List Int × Unit) => (laidUp x.1 x.2.1 x.2.1.length, ())
abbrev dLives (s : DeskD) : List LifeD := s.2.1
abbrev dBook (s : DeskD) : BookD := s.2.2.1
abbrev dToken (s : DeskD) : TokenD := s.2.2.2.1
abbrev dRBook (s : DeskD) : RBookD := s.2.2.2.2.1
abbrev dDirs (s : DeskD) : List Int := s.2.2.2.2.2
def a38 (x : PlanD × List Int × Unit) : Ann := loopAnn [(12, fun _ => {
 σ := Nat
 ok := fun k => k ≤ x.2.1.length
 mu := fun k => x.2.1.length - k
 sl := fun k => [(9, .one (.dat I (k : Int)))]
 bl := fun k => [
  (49, .cells (flat ChartT (x.1, (fRoads x.1).1) ++ [.row LifeT 35, .ptr 40000 0, .ptr 62000 0, .ptr 44000 0, .row I 1000])),
  (35, .row false 143 LifeT (dLives (laidUp x.1 x.2.1 k))),
  (40000, .cells [.dat I (dBook (laidUp x.1 x.2.1 k)).1, .map I (.list I) 1001, .map I (.list I) 1002, .map I (.list NeedT) 1003, .map I (.list NeedT) 1004]),
  (1001, .map false I (.list I) (dBook (laidUp x.1 x.2.1 k)).2.1 none),
  (1002, .map false I (.list I) (dBook (laidUp x.1 x.2.1 k)).2.2.1 none),
  (1003, .map false I (.list NeedT) (dBook (laidUp x.1 x.2.1 k)).2.2.2.1 none),
  (1004, .map false I (.list NeedT) (dBook (laidUp x.1 x.2.1 k)).2.2.2.2 none),
  (62000, .cells [.dat (.ptr NetT) (dToken (laidUp x.1 x.2.1 k)).1, .map TurnT .bool 1005]),
  (1005, .map false TurnT .bool (dToken (laidUp x.1 x.2.1 k)).2 none),
  (44000, .cells [.dat I (dRBook (laidUp x.1 x.2.1 k)).1, .row HasT 1006]),
  (1006, .row false 193 HasT (dRBook (laidUp x.1 x.2.1 k)).2),
  (1000, .row false 3 I (dDirs (laidUp x.1 x.2.1 k)))]
 keep := [1, 2, 5, 8]
 keepB := [2] })]
def c14 : DCon where
 args := []
 out := .data [.bool]
 pre := fun (x : Unit) => True
 fn := fun (x : Unit) => (true, ())
def c5 : DCon := lawCon [PlanT, .int .u8, .list I]
def lieUp (l : List NeedD) (n : Nat) : Nat → List Int
 | 0 => List.replicate n 0
 | k + 1 => (lieUp l n k).set (l.getD k (0, 0)).1.toNat (l.getD k (0, 0)).2
def a5 (x : PlanD × Int × List Int × Unit) : Ann := loopAnn [
 (11, fun _ => upLoop (fNeedsAll (rAt x.1 x.2.1)).length (fun _ => True) 13 [2, 3, 9, 10, 11, 12] [3, 9, 55]),
 (17, fun _ => {
  σ := Nat
  ok := fun k => k ≤ (fNeedsAll (rAt x.1 x.2.1)).length
  mu := fun k => (fNeedsAll (rAt x.1 x.2.1)).length - k
  sl := fun k => [(15, .one (.dat I (k : Int)))]
  bl := fun k => [(91, .row false 3 I (lieUp (fNeedsAll (rAt x.1 x.2.1)) x.1.1.length k))]
  keep := [3, 9, 10, 11, 12, 14]
  keepB := [3, 9, 55] })]
end YtpnnfimacblhgaaGreat
end Go.Proofs
end

section
set_option maxRecDepth 100000
set_option linter.unusedVariables false
set_option linter.unusedSimpArgs false
set_option maxHeartbeats 2000000
namespace Go.Proofs
open Go Go.Vc
namespace YtpnnfimacblhgaaGreat
structure GuardsOk (p : PlanD) (r : RoadD) (s : SearchD) : Prop where
 still : still p r s
 each : ∀ g ∈ gGuards s, (g.2 = 1 ∨ g.2 = 2) ∧ fKind p g.1 = 2 ∧ fOwn r g.1 = false
 one : ∀ g ∈ gGuards s, ∀ h ∈ gGuards s, g.1 = h.1 → g.2 = h.2
theorem own_still {p : PlanD} {r : RoadD} {s : SearchD} (h : still p r s) (e : Int) : fOwn (sRoad s) e = fOwn r e := by
 have h5 : gSteps s = r.2.2.2.1 := h.2.2.2.2.1
 unfold fOwn fElems
 have : (sRoad s).2.2.2.1 = gSteps s := by unfold sRoad; rfl
 rw [this, h5]
theorem points_end {p : PlanD} {y : PortD} (hh : fHas p y = true) (hk : fKind p y.1 = 2) (h0 : (y.2 == 0) = false) : y.2 = 1 ∨ y.2 = 2 := by
 unfold fHas at hh
 rw [hk, show fEnds 2 = 3 by unfold fEnds; rfl] at hh
 simp only [Bool.and_eq_true, decide_eq_true_eq] at hh
 have : y.2 ≠ 0 := fun e => by rw [e] at h0; cases h0
 omega
theorem no_need {l : List NeedD} {x : NeedD} (h : fHasNeed l x = false) : x ∉ l := fun hx => by
 unfold fHasNeed at h
 have := List.any_eq_false.1 h x hx
 simp at this
theorem guards_kept {p : PlanD} (hJ : fJoined p = true) (r : RoadD) : Kept p (GuardsOk p r) where
 plan s h := h.still.1
 bare s h := ⟨h.still, h.each, h.one⟩
 zone s z h := ⟨h.still, h.each, h.one⟩
 hold s z h := ⟨h.still, h.each, h.one⟩
 met s m h := ⟨h.still, h.each, h.one⟩
 guard s y h hn ho hk h0 n1 n2 := by
  have hh : fHas p y = true := by
   obtain ⟨x, hx, rfl⟩ := hn
   exact next_hasQ hJ (x := x) (by rw [next_get, hx]; rfl)
  have hy := points_end hh hk h0
  rw [own_still h.still] at ho
  have fresh : ∀ g ∈ gGuards s, g.1 ≠ y.1 := fun g hg e => by
   have hg2 := (h.each g hg).1
   have : g = (y.1, y.2) ∨ g = (y.1, 3 - y.2) := by
    have e2 : g.2 = y.2 ∨ g.2 = 3 - y.2 := by omega
    rcases e2 with e2 | e2
    ·exact .inl (by rw [← e, ← e2])
    ·exact .inr (by rw [← e, ← e2])
   rcases this with e' | e'
   ·exact no_need n1 (by rw [← e']; exact hg)
   ·exact no_need n2 (by rw [← e']; exact hg)
  refine ⟨h.still, fun g hg => ?_, fun g hg k hk' e => ?_⟩
  ·rcases List.mem_append.1 (show g ∈ gGuards s ++ [(y.1, 3 - y.2)] from hg) with hg | hg
   ·exact h.each g hg
   ·rw [List.mem_singleton.1 hg]
    exact ⟨by show 3 - y.2 = 1 ∨ 3 - y.2 = 2; omega, hk, ho⟩
  ·rcases List.mem_append.1 (show g ∈ gGuards s ++ [(y.1, 3 - y.2)] from hg) with hg | hg
   ·rcases List.mem_append.1 (show k ∈ gGuards s ++ [(y.1, 3 - y.2)] from hk') with hk' | hk'
    ·exact h.one g hg k hk' e
    ·rw [List.mem_singleton.1 hk'] at e
     exact (fresh g hg e).elim
   ·rcases List.mem_append.1 (show k ∈ gGuards s ++ [(y.1, 3 - y.2)] from hk') with hk' | hk'
    ·rw [List.mem_singleton.1 hg] at e
     exact (fresh k hk' e.symm).elim
    ·rw [List.mem_singleton.1 hg, List.mem_singleton.1 hk']
structure NeedsOk (p : PlanD) (l : List NeedD) : Prop where
 each : ∀ n ∈ l, (n.2 = 1 ∨ n.2 = 2) ∧ 0 ≤ n.1 ∧ n.1 < (p.1.length : Int)
 one : ∀ m ∈ l, ∀ n ∈ l, m.1 = n.1 → m.2 = n.2
theorem kind_range {p : PlanD} {e : Int} (h : fKind p e ≠ 0) : 0 ≤ e ∧ e < (p.1.length : Int) := by
 unfold fKind at h
 cases hb : (decide (e < 0) || decide ((p.1.length : Int) ≤ e)) with
 | true => rw [hb] at h; exact absurd rfl h
 | false =>
  rw [Bool.or_eq_false_iff] at hb
  have h1 := of_decide_eq_false hb.1
  have h2 := of_decide_eq_false hb.2
  omega
theorem fst_one : ∀ {l : List NeedD}, (l.map Prod.fst).Nodup → ∀ m ∈ l, ∀ n ∈ l, m.1 = n.1 → m = n
 | [], _, m, hm, _, _, _ => absurd hm List.not_mem_nil
 | x :: l, h, m, hm, n, hn, e => by
  rw [List.map_cons, List.nodup_cons] at h
  rcases List.mem_cons.1 hm with em | mm
  ·rcases List.mem_cons.1 hn with en | mn
   ·rw [em, en]
   ·rw [em] at e
    exact (h.1 (by rw [e]; exact List.mem_map_of_mem mn)).elim
  ·rcases List.mem_cons.1 hn with en | mn
   ·rw [en] at e
    exact (h.1 (by rw [← e]; exact List.mem_map_of_mem mm)).elim
   ·exact fst_one h.2 m mm n mn e
theorem road_needs {p : PlanD} (h : RoadsOk p) {r : RoadD} (hr : r ∈ (fRoads p).1) : NeedsOk p (fNeedsAll r) := by
 obtain ⟨_, _, hJ, _, _⟩ := check_zero h.check
 have hrun := road_run h hr
 obtain ⟨q, hq, rfl⟩ := h.road r hr
 have hs := flank_still p q
 have hg : GuardsOk p q (flankUp p q (fPorts p q).length) :=
  flank_kept (guards_kept hJ q) ⟨⟨rfl, rfl, rfl, rfl, rfl, rfl⟩, fun g hg => absurd hg List.not_mem_nil, fun g hg => absurd hg List.not_mem_nil⟩ _
 have eg : (fFlank p q).2.2.2.2.2.1 = gGuards (flankUp p q (fPorts p q).length) := by unfold fFlank sRoad; rfl
 have hown : ∀ n ∈ (fFlank p q).2.2.2.2.1, fOwn q n.1 = true := fun n hn => by
  obtain ⟨⟨s, hs', e⟩, _⟩ := hrun.need n hn
  rw [hs.2.2.2.1] at hs'
  unfold fOwn fMem fElems
  exact List.any_eq_true.2 ⟨n.1, List.mem_map.2 ⟨s, hs', e⟩, by simp⟩
 have hneed : ∀ n ∈ (fFlank p q).2.2.2.2.1, (n.2 = 1 ∨ n.2 = 2) ∧ 0 ≤ n.1 ∧ n.1 < (p.1.length : Int) := fun n hn => by
  obtain ⟨⟨s, hs', e⟩, h2⟩ := hrun.need n hn
  refine ⟨h2, ?_⟩
  rw [← e]
  rcases hrun.pass s hs' with hk | ⟨w, hw, _⟩
  ·exact kind_range (by rw [hk]; decide)
  ·have hh : fHas p (s.1, s.2.1) = true := by
    cases hh : fHas p (s.1, s.2.1) with
    | true => rfl
    | false => unfold fOuts at hw; rw [hh] at hw; cases hw
   have := has_factsQ hh
   exact ⟨this.1, this.2.1⟩
 unfold fNeedsAll
 refine ⟨fun n hn => ?_, fun m hm n hn e => ?_⟩
 ·rcases List.mem_append.1 hn with hn | hn
  ·exact hneed n hn
  ·rw [eg] at hn
   have := hg.each n hn
   exact ⟨this.1, kind_range (by rw [this.2.1]; decide)⟩
 ·rcases List.mem_append.1 hm with hm | hm
  ·rcases List.mem_append.1 hn with hn | hn
   ·rw [fst_one hrun.once m hm n hn e]
   ·rw [eg] at hn
    have h1 := hown m hm
    have h2 := (hg.each n hn).2.2
    rw [e, h2] at h1
    cases h1
  ·rw [eg] at hm
   rcases List.mem_append.1 hn with hn | hn
   ·have h1 := hown n hn
    have h2 := (hg.each m hm).2.2
    rw [← e, h2] at h1
    cases h1
   ·rw [eg] at hn
    exact hg.one m hm n hn e
theorem mem_snoc (l : List Int) (x e : Int) : fMem (l ++ [x]) e = (fMem l e || x == e) := by
 unfold fMem
 rw [List.any_append]
 simp
theorem in_moves (pos : List Int) (l : List NeedD) (e : Int) : ∀ k, fMem (movesUp pos l k) e = true ↔ ∃ j, j < k ∧ (l.getD j (0, 0)).1 = e ∧ fLiesP pos (l.getD j (0, 0)) = false
 | 0 => ⟨fun h => (by unfold fMem at h; cases h), fun ⟨j, hj, _⟩ => (by omega)⟩
 | k + 1 => by
  have ih := in_moves pos l e k
  show fMem (moveStep pos (movesUp pos l k) (l.getD k (0, 0))) e = true ↔ _
  unfold moveStep
  cases hl : fLiesP pos (l.getD k (0, 0)) with
  | true =>
   show fMem (movesUp pos l k) e = true ↔ _
   rw [ih]
   constructor
   ·rintro ⟨j, hj, h1, h2⟩
    exact ⟨j, by omega, h1, h2⟩
   ·rintro ⟨j, hj, h1, h2⟩
    by_cases hjk : j = k
    ·subst hjk; rw [hl] at h2; cases h2
    ·exact ⟨j, by omega, h1, h2⟩
  | false =>
   cases hm : fMem (movesUp pos l k) (l.getD k (0, 0)).1 with
   | true =>
    show fMem (movesUp pos l k) e = true ↔ _
    constructor
    ·intro h
     obtain ⟨j, hj, h1, h2⟩ := ih.1 h
     exact ⟨j, by omega, h1, h2⟩
    ·rintro ⟨j, hj, h1, h2⟩
     by_cases hjk : j = k
     ·subst hjk; rw [← h1]; exact hm
     ·exact ih.2 ⟨j, by omega, h1, h2⟩
   | false =>
    show fMem (movesUp pos l k ++ [(l.getD k (0, 0)).1]) e = true ↔ _
    rw [mem_snoc, Bool.or_eq_true, ih]
    constructor
    ·rintro (⟨j, hj, h1, h2⟩ | h)
     ·exact ⟨j, by omega, h1, h2⟩
     ·exact ⟨k, by omega, eq_of_beq h, hl⟩
    ·rintro ⟨j, hj, h1, h2⟩
     by_cases hjk : j = k
     ·subst hjk; exact .inr (by rw [h1]; simp)
     ·exact .inl ⟨j, by omega, h1, h2⟩
theorem lies_eq (pos : List Int) {n : NeedD} (h : n.2 = 1 ∨ n.2 = 2) : fLiesP pos n = (fLies pos n.1 == n.2) := by
 unfold fLiesP fLies
 have hz : (n.2 == 0) = false := by rcases h with h | h <;> rw [h] <;> rfl
 have h0 : ((0 : Int) == n.2) = false := by rcases h with h | h <;> rw [h] <;> rfl
 rw [hz]
 cases decide (0 ≤ n.1) with
 | false => show false = ((0 : Int) == n.2); exact h0.symm
 | true =>
  cases decide (n.1 < (pos.length : Int)) with
  | false => show false = ((0 : Int) == n.2); exact h0.symm
  | true =>
   show (pos.getD n.1.toNat 0 == n.2 && true) = ((bif (pos.getD n.1.toNat 0 == 1 || pos.getD n.1.toNat 0 == 2) then pos.getD n.1.toNat 0 else 0) == n.2)
   cases hv : (pos.getD n.1.toNat 0 == 1 || pos.getD n.1.toNat 0 == 2) with
   | true => rw [Bool.and_true]; rfl
   | false =>
    rw [Bool.or_eq_false_iff] at hv
    show _ = ((0 : Int) == n.2)
    rw [h0, Bool.and_true]
    rcases h with h | h
    ·rw [h]; exact hv.1
    ·rw [h]; exact hv.2
theorem need_moved {p : PlanD} {l : List NeedD} (h : NeedsOk p l) (pos : List Int) {j : Nat} (hj : j < l.length) :
  fMem (movesUp pos l l.length) (l.getD j (0, 0)).1 = !(fLies pos (l.getD j (0, 0)).1 == (l.getD j (0, 0)).2) := by
 have hm := mem_getD (0, 0) hj
 rw [← lies_eq pos (h.each _ hm).1]
 cases hl : fLiesP pos (l.getD j (0, 0)) with
 | false => exact (in_moves pos l _ _).2 ⟨j, hj, rfl, hl⟩
 | true =>
  cases hc : fMem (movesUp pos l l.length) (l.getD j (0, 0)).1 with
  | false => rfl
  | true =>
   obtain ⟨i, hi, h1, h2⟩ := (in_moves pos l _ _).1 hc
   have h3 := h.one _ (mem_getD (0, 0) hi) _ hm h1
   have : l.getD i (0, 0) = l.getD j (0, 0) := Prod.ext h1 h3
   rw [this, hl] at h2
   cases h2
theorem lie_len (l : List NeedD) (n : Nat) : ∀ k, (lieUp l n k).length = n
 | 0 => List.length_replicate
 | k + 1 => by show ((lieUp l n k).set _ _).length = n; rw [List.length_set, lie_len l n k]
theorem lie_at {p : PlanD} {l : List NeedD} (h : NeedsOk p l) : ∀ k, k ≤ l.length → ∀ j, j < k → (lieUp l p.1.length k).getD (l.getD j (0, 0)).1.toNat 0 = (l.getD j (0, 0)).2
 | 0, _, j, hj => by omega
 | k + 1, hk, j, hj => by
  have hm := mem_getD ((0, 0) : NeedD) (show j < l.length by omega)
  have hmk := mem_getD ((0, 0) : NeedD) (show k < l.length by omega)
  have hr := (h.each _ hmk).2
  have hrj := (h.each _ hm).2
  show ((lieUp l p.1.length k).set (l.getD k (0, 0)).1.toNat (l.getD k (0, 0)).2).getD _ 0 = _
  rw [List.getD_eq_getElem?_getD, List.getElem?_set]
  by_cases he : (l.getD k (0, 0)).1.toNat = (l.getD j (0, 0)).1.toNat
  ·rw [if_pos he, if_pos (by rw [lie_len]; omega)]
   exact h.one _ hmk _ hm (by omega)
  ·rw [if_neg he, ← List.getD_eq_getElem?_getD]
   by_cases hjk : j = k
   ·subst hjk; exact absurd rfl he
   ·exact lie_at h k (by omega) j (by omega)
theorem moves_none (pos : List Int) (l : List NeedD) : ∀ k, (∀ j, j < k → fLiesP pos (l.getD j (0, 0)) = true) → movesUp pos l k = []
 | 0, _ => rfl
 | k + 1, h => by
  show moveStep pos (movesUp pos l k) (l.getD k (0, 0)) = []
  unfold moveStep
  rw [h k (by omega), moves_none pos l k fun j hj => h j (by omega)]
  rfl
theorem lie_none {p : PlanD} {l : List NeedD} (h : NeedsOk p l) : movesUp (lieUp l p.1.length l.length) l l.length = [] := by
 refine moves_none _ _ _ fun j hj => ?_
 have hm := mem_getD ((0, 0) : NeedD) hj
 obtain ⟨h2, h0, h1⟩ := h.each _ hm
 unfold fLiesP
 rw [lie_len, decide_eq_true h0, decide_eq_true h1, lie_at h l.length (Nat.le_refl _) j hj]
 have hz : ((l.getD j (0, 0)).2 == 0) = false := by rcases h2 with h | h <;> rw [h] <;> rfl
 rw [hz]
 simp
end YtpnnfimacblhgaaGreat
end Go.Proofs
end

section
set_option maxRecDepth 100000
set_option linter.unusedVariables false
set_option linter.unusedSimpArgs false
set_option maxHeartbeats 2000000
namespace Go.Proofs
open Go Go.Vc
namespace YtpnnfimacblhgaaGreat
theorem laidUp_succ (p : PlanD) (w : List Int) (k : Nat) : laidUp p w (k + 1) = laidGo p (laidUp p w k) (laidK p w k) := by
 unfold laidUp
 rw [List.range_succ, List.foldl_append]
 rfl
theorem laidUp_zero (p : PlanD) (w : List Int) : laidUp p w 0 = laidZero p := by unfold laidUp; rfl
theorem laidUp_chart (p : PlanD) (w : List Int) : ∀ k, (laidUp p w k).1 = (p, (fRoads p).1)
 | 0 => by rw [laidUp_zero]; rfl
 | k + 1 => by
  rw [laidUp_succ, ← laidUp_chart p w k]
  unfold laidGo
  cases !(fWhyR (laidUp p w k).1 (laidUp p w k).2.1 (laidUp p w k).2.2.2.2.1 (laidUp p w k).2.2.2.2.2 zIn (laidK p w k) == 0) <;> rfl
theorem laidUp_net (p : PlanD) (w : List Int) : ∀ k, (laidUp p w k).2.2.2.1.1 = fMade p
 | 0 => by rw [laidUp_zero]; rfl
 | k + 1 => by
  rw [laidUp_succ, ← laidUp_net p w k]
  unfold laidGo
  cases !(fWhyR (laidUp p w k).1 (laidUp p w k).2.1 (laidUp p w k).2.2.2.2.1 (laidUp p w k).2.2.2.2.2 zIn (laidK p w k) == 0) <;> rfl
theorem one_mem {α : Type} {l : List α} (h : l.length ≤ 1) {x y : α} (hx : x ∈ l) (hy : y ∈ l) : x = y := by
 match l, h with
 | [], _ => exact absurd hx List.not_mem_nil
 | [z], _ => rw [List.mem_singleton.1 hx, List.mem_singleton.1 hy]
 | _ :: _ :: _, h => exact absurd h (by simp)
theorem small_ok : (fRoads smallP).2 = true := by kernel_rfl
theorem small_len : (fRoads smallP).1.length = 6 := by kernel_rfl
theorem small_zones : (fRoads smallP).1.all (fun r => Nat.ble r.2.2.2.2.2.2.1.length 1000) = true := by kernel_rfl
theorem small_good : RoadsOk smallP := roads_ok small_ok
theorem small_fits {r : RoadD} (h : r ∈ (fRoads smallP).1) : roadFits r :=
 ⟨road_small small_good h, Nat.le_of_ble_eq_true (List.all_eq_true.1 small_zones r h)⟩
theorem book_new (n : Int) : BookOk (n, [], [], [], []) where
 small := ⟨fun x h => absurd h List.not_mem_nil, fun x h => absurd h List.not_mem_nil, fun x h => absurd h List.not_mem_nil, fun x h => absurd h List.not_mem_nil, Nat.zero_le _, Nat.zero_le _, Nat.zero_le _⟩
 owners := book_owners rfl
 held := fun e x h => absurd h List.not_mem_nil
 few := fun e => by show ([] : List Int).length ≤ 12; decide
theorem rbook_new (n : Int) : RSmall (n, []) := ⟨Nat.zero_le _, fun h hh => absurd hh List.not_mem_nil⟩
theorem v38 (p : PlanD) (w : List Int) : obodyVC (ctxOf tab [(7, c7), (8, c8), (21, c21), (58, c58), (20, c20), (59, c59), (22, c22), (60, c60), (61, c61), (62, c62), (63, c63)]) Tryz.f38 c38 (a38 (p, w, ())) (p, w, ()) = (
lett (bif bif !(fRoads p).2 then true else (↑(fRoads p).1.length : Int) == (0 : Int) then true else decide ((↑w.length : Int) > (12 : Int))) fun (y2 : Bool) =>
lett (bif (fMade p).isNone then true else false) fun (y3 : Bool) =>
lett ((0 : Int), (0 : Int), (0 : Int), [], [], [], [], [], false) fun (y4 : RoadD) =>
lett (laidUp p w w.length).2
fun
(y5 :
List (Int × Int × Bool × List Bool) ×
(BookD) ×
(Option
(NetD) ×
List ((Int × Int) × Bool)) ×
(RBookD) × List Int) =>
True ∧
(y2 = true → False) ∧
(y2 = false →
True ∧
((0 : Int) ≤ (↑(fRoads p).1.length : Int) ∧ (↑(fRoads p).1.length : Int) ≤ (↑(fRoads p).1.length : Int)) ∧
(roomFor (↑(fRoads p).1.length : Int).toNat (48 : Nat) ∧ (↑(fRoads p).1.length : Int) ≤ (↑maxLenI : Int)) ∧
True ∧
True ∧
((0 : Int) ≤ (↑p.2.2.2.1.length : Int) ∧ (↑p.2.2.2.1.length : Int) ≤ (↑p.2.2.2.1.length : Int)) ∧
(roomFor (↑p.2.2.2.1.length : Int).toNat (8 : Nat) ∧ (↑p.2.2.2.1.length : Int) ≤ (↑maxLenI : Int)) ∧
(y3 = true → False) ∧
(y3 = false →
True ∧
(false = true → False) ∧
(false = false →
(∃ (s06 : Nat),
s06 ≤ w.length ∧
(↑s06 : Int) = (0 : Int) ∧
w = w ∧
(fRoads p).1 = (fRoads p).1 ∧
keepP p ((fRoads p).1 = (fRoads p).1 ∧
dLives (laidUp p w s06) = List.replicate (↑(fRoads p).1.length : Int).toNat ((0 : Int), (0 : Int), false, []) ∧
(dBook (laidUp p w s06)).1 = max (0 : Int) (min (↑p.1.length : Int) (40 : Int)) ∧
(dBook (laidUp p w s06)).2.1 = [] ∧
(dBook (laidUp p w s06)).2.2.1 = [] ∧
(dBook (laidUp p w s06)).2.2.2.1 = [] ∧
(dBook (laidUp p w s06)).2.2.2.2 = [] ∧
(dToken (laidUp p w s06)).1 = fMade p ∧
(dToken (laidUp p w s06)).2 = [] ∧
(dRBook (laidUp p w s06)).1 = min (max (↑p.1.length : Int) (0 : Int)) (40 : Int) ∧
(dRBook (laidUp p w s06)).2 = [] ∧
dDirs (laidUp p w s06) = List.replicate (↑p.2.2.2.1.length : Int).toNat (0 : Int) ∧
keepP p (True))) ∧
∀ (s6 : Nat),
lett (decide ((↑s6 : Int) < (↑w.length : Int))) fun (y7 : Bool) =>
lett ((w.getD (↑s6 : Int).toNat (0 : Int)).tmod (↑(fRoads p).1.length : Int)) fun (y8 : Int) =>
lett (fWhyR (p, (fRoads p).1) (dLives (laidUp p w s6)) (dRBook (laidUp p w s6)) (dDirs (laidUp p w s6)) ([], [], [], []) y8 != (0 : Int))
fun (y9 : Bool) =>
lett (dBook (laidUp p w s6)).1 fun (y10 : Int) =>
lett (dBook (laidUp p w s6)).2 fun (y11 : List (Int × List Int) × List (Int × List Int) × List (Int × List NeedD) × List (Int × List NeedD)) =>
lett (dToken (laidUp p w s6)).1 fun (y12 : Option NetD) =>
lett (dToken (laidUp p w s6)).2 fun (y13 : List (TurnD × Bool)) =>
lett (dRBook (laidUp p w s6)).1 fun (y14 : Int) =>
lett (dRBook (laidUp p w s6)).2 fun (y15 : List HasD) =>
lett ((fRoads p).1.getD y8.toNat y4)
fun (y16 : RoadD) =>
lett (fTakeB (dBook (laidUp p w s6)) y8 y16) fun (y17 : BookD) =>
lett (fTakeR (dRBook (laidUp p w s6)) y8 y16) fun (y18 : RBookD) =>
s6 ≤ w.length →
(y7 = true →
InB (↑s6 : Int) w.length ∧
(↑(fRoads p).1.length : Int) ≠ (0 : Int) ∧
(chartOk (p, (fRoads p).1) ∧
RSmall (dRBook (laidUp p w s6)) ∧ (dDirs (laidUp p w s6)).length = p.2.2.2.1.length) ∧
(y9 = true →
InR IntKind.i64 ((↑s6 : Int) + (1 : Int)) ∧
∃ (s'19 : Nat),
s'19 ≤ w.length ∧
w.length - s'19 < w.length - s6 ∧
(↑s'19 : Int) = (↑s6 : Int) + (1 : Int) ∧
w = w ∧
(fRoads p).1 = (fRoads p).1 ∧
keepP p ((fRoads p).1 = (fRoads p).1 ∧
dLives (laidUp p w s'19) = dLives (laidUp p w s6) ∧
(dBook (laidUp p w s'19)).1 = y10 ∧
(dBook (laidUp p w s'19)).2.1 = y11.1 ∧
(dBook (laidUp p w s'19)).2.2.1 = y11.2.1 ∧
(dBook (laidUp p w s'19)).2.2.2.1 = y11.2.2.1 ∧
(dBook (laidUp p w s'19)).2.2.2.2 = y11.2.2.2 ∧
(dToken (laidUp p w s'19)).1 = y12 ∧
(dToken (laidUp p w s'19)).2 = y13 ∧
(dRBook (laidUp p w s'19)).1 = y14 ∧
(dRBook (laidUp p w s'19)).2 = y15 ∧
dDirs (laidUp p w s'19) = dDirs (laidUp p w s6) ∧
keepP p (True))) ∧
(y9 = false →
InB y8 (fRoads p).1.length ∧
((netLined y12 ∧ y16.2.2.2.1.length ≤ (1000 : Nat)) ∧ oneOwners (dBook (laidUp p w s6))) ∧
InB y8 (fRoads p).1.length ∧
((BookOk (dBook (laidUp p w s6)) ∧ roadSmall y16) ∧ shortL y16.2.2.2.2.2.2.1) ∧
InB y8 (fRoads p).1.length ∧
((RSmall (dRBook (laidUp p w s6)) ∧ roadSmall y16) ∧ shortL y16.2.2.2.2.2.2.1) ∧
InB y8 (fRoads p).1.length ∧
((planGood p ∧ roadSmall y16) ∧ (dDirs (laidUp p w s6)).length = p.2.2.2.1.length) ∧
InB y8 (fRoads p).1.length ∧
True ∧
InB y8 (dLives (laidUp p w s6)).length ∧
InR IntKind.i64 ((↑s6 : Int) + (1 : Int)) ∧
∃ (s'19 : Nat),
s'19 ≤ w.length ∧
w.length - s'19 < w.length - s6 ∧
(↑s'19 : Int) = (↑s6 : Int) + (1 : Int) ∧
w = w ∧
(fRoads p).1 = (fRoads p).1 ∧
keepP p ((fRoads p).1 = (fRoads p).1 ∧
dLives (laidUp p w s'19) =
(dLives (laidUp p w s6)).set y8.toNat
(fBegin (↑y16.2.2.2.1.length : Int)) ∧
(dBook (laidUp p w s'19)).1 = y17.1 ∧
(dBook (laidUp p w s'19)).2.1 = y17.2.1 ∧
(dBook (laidUp p w s'19)).2.2.1 =
y17.2.2.1 ∧
(dBook (laidUp p w s'19)).2.2.2.1 =
y17.2.2.2.1 ∧
(dBook (laidUp p w s'19)).2.2.2.2 =
y17.2.2.2.2 ∧
(dToken (laidUp p w s'19)).1 = y12 ∧
((dToken (laidUp p w s'19)).2 =
bif
fMayT (dToken (laidUp p w s6)) y16 []
(dBook (laidUp p w s6)) ==
(0 : Int) then
fTurned (dToken (laidUp p w s6)) y16
else y13) ∧
(dRBook (laidUp p w s'19)).1 = y18.1 ∧
(dRBook (laidUp p w s'19)).2 = y18.2 ∧
dDirs (laidUp p w s'19) =
fTurnedR p (dDirs (laidUp p w s6))
y16 ∧
keepP p (True)))) ∧
(y7 = false →
(p, (fRoads p).1) = (laidUp p w w.length).1 ∧
dLives (laidUp p w s6) = y5.1 ∧
y10 = y5.2.1.1 ∧
y11.1 = y5.2.1.2.1 ∧
y11.2.1 = y5.2.1.2.2.1 ∧
y11.2.2.1 = y5.2.1.2.2.2.1 ∧
y11.2.2.2 = y5.2.1.2.2.2.2 ∧
y12 = y5.2.2.1.1 ∧
y13 = y5.2.2.1.2 ∧
y14 = y5.2.2.2.1.1 ∧
y15 = y5.2.2.2.1.2 ∧ dDirs (laidUp p w s6) = y5.2.2.2.2 ∧ True))))) := by kernel_rfl
theorem b38 : obodyVC (ctxOf tab [(7, c7), (8, c8), (21, c21), (58, c58), (20, c20), (59, c59), (22, c22), (60, c60), (61, c61), (62, c62), (63, c63)]) Tryz.f38 c38 (a38 (smallP, [1], ())) (smallP, [1], ()) := by
 rw [v38]
 refine lett.mk fun y2 e2 => lett.mk fun y3 e3 => lett.mk fun y4 e4 => lett.mk fun y5 e5 => ?_
 have hG := small_good
 have h2 : y2 = false := by rw [e2, small_ok, small_len]; rfl
 have h3 : y3 = false := by rw [e3, hG.made]; rfl
 have h0 := laidUp_zero smallP [1]
 have h1 := laidUp_succ smallP [1] 0
 rw [h0] at h1
 have hk : laidK smallP [1] 0 = 1 := by unfold laidK; rw [small_len]; rfl
 rw [hk] at h1
 simp only [true_and, and_true, eq_self, small_len, keepP_eq]
 refine ⟨fun h => by rw [h2] at h; exact Bool.noConfusion h, fun _ => ⟨by decide, by unfold roomFor maxLenI; decide, by decide, by unfold roomFor maxLenI; decide, fun h => by rw [h3] at h; exact Bool.noConfusion h, fun _ => ⟨fun h => Bool.noConfusion h, fun _ => ⟨⟨0, by decide, rfl, by rw [h0]; unfold laidZero; rw [small_len]; exact ⟨rfl, rfl, rfl, rfl, rfl, rfl, rfl, rfl, rfl, rfl, rfl⟩⟩, fun s => lett.mk fun y7 e7 => lett.mk fun y8 e8 => lett.mk fun y9 e9 => lett.mk fun y10 e10 => lett.mk fun y11 e11 => lett.mk fun y12 e12 => lett.mk fun y13 e13 => lett.mk fun y14 e14 => lett.mk fun y15 e15 => lett.mk fun y16 e16 => lett.mk fun y17 e17 => lett.mk fun y18 e18 => fun hs => ⟨fun h7 => ?_, fun h7 => ?_⟩⟩⟩⟩⟩
 ·have hs0 : s = 0 := by have := lt_of_y e7 h7; have : ([1] : List Int).length = 1 := rfl; omega
  subst hs0
  rw [h0] at e9 e10 e11 e12 e13 e14 e15 e17 e18 ⊢
  have h8 : y8 = 1 := e8
  have e16 : y16 = roadAt (laidZero smallP).1 1 := by rw [e16, h8]; exact e4 ▸ rfl
  have hm : y16 ∈ (fRoads smallP).1 := by rw [e16]; exact mem_getD zR (by rw [small_len]; decide)
  have hf := small_fits hm
  have hl := (road_len hG hm).1
  have hgood : planGood smallP := ⟨hG.check, hG.short⟩
  have i8 : InB y8 6 := by rw [h8]; exact ⟨by decide, by decide⟩
  refine ⟨⟨by decide, by decide⟩, by decide, ⟨⟨hgood, fun r hr => small_fits hr⟩, rbook_new _, rfl⟩, fun h9 => ⟨inR64 (by decide) (by decide), 1, by decide, by decide, rfl, ?_⟩, fun h9 => ⟨i8, ?_⟩⟩
  ·have hg : laidGo smallP (laidZero smallP) 1 = laidZero smallP := by
    unfold laidGo
    have : (!(fWhyR (laidZero smallP).1 (laidZero smallP).2.1 (laidZero smallP).2.2.2.2.1 (laidZero smallP).2.2.2.2.2 zIn 1 == 0)) = true := by rw [← h9, e9, h8]; rfl
    rw [this]
    rfl
   rw [h1, hg, e10, e11, e12, e13, e14, e15]
   exact ⟨rfl, rfl, rfl, rfl, rfl, rfl, rfl, rfl, rfl, rfl, rfl⟩
  ·have hg : laidGo smallP (laidZero smallP) 1 = ((laidZero smallP).1, (laidZero smallP).2.1.set (1 : Int).toNat (fBegin ((roadAt (laidZero smallP).1 1).2.2.2.1.length : Int)), fTakeB (laidZero smallP).2.2.1 1 (roadAt (laidZero smallP).1 1), fTakeT (laidZero smallP).2.2.2.1 (roadAt (laidZero smallP).1 1) [] (laidZero smallP).2.2.1, fTakeR (laidZero smallP).2.2.2.2.1 1 (roadAt (laidZero smallP).1 1), fTurnedR smallP (laidZero smallP).2.2.2.2.2 (roadAt (laidZero smallP).1 1)) := by
    unfold laidGo
    have : (!(fWhyR (laidZero smallP).1 (laidZero smallP).2.1 (laidZero smallP).2.2.2.2.1 (laidZero smallP).2.2.2.2.2 zIn 1 == 0)) = false := by rw [← h9, e9, h8]; rfl
    rw [this]
    rfl
   refine ⟨⟨⟨by rw [e12]; exact made_lined hG, by omega⟩, book_owners rfl⟩, i8, ⟨⟨book_new _, hf.1⟩, hf.2⟩, i8, ⟨⟨rbook_new _, hf.1⟩, hf.2⟩, i8, ⟨⟨hgood, hf.1⟩, rfl⟩, i8, ⟨by rw [h8]; decide, by rw [h8]; show (1 : Int) < ((List.replicate (fRoads smallP).1.length zLf).length : Int); rw [List.length_replicate, small_len]; decide⟩, inR64 (by decide) (by decide), 1, by decide, by decide, rfl, ?_⟩
   rw [h1, hg, e17, e18, e12, e13, h8, ← e16]
   exact ⟨rfl, rfl, rfl, rfl, rfl, rfl, by unfold fTakeT; rfl, by unfold fTakeT; rfl, rfl, rfl, rfl⟩
 ·have hs1 : s = 1 := by
   rw [e7] at h7
   have := of_decide_eq_false h7
   have e : ([1] : List Int).length = 1 := rfl
   rw [e] at this hs
   omega
  subst hs1
  have hc := laidUp_chart smallP [1] 1
  rw [e10, e11, e12, e13, e14, e15, e5]
  exact ⟨hc.symm, rfl, rfl, rfl, rfl, rfl, rfl, rfl, rfl, rfl, rfl, rfl⟩
theorem ok38 : OOk Tryz.prog 38 c38 :=
 OOk.of' (l := [(7, c7), (8, c8), (21, c21), (58, c58), (20, c20), (59, c59), (22, c22), (60, c60), (61, c61), (62, c62), (63, c63)]) (A := a38) tabOk ⟨ok7, ok8, ok21, ok58, ok20, ok59, ok22, ok60, ok61, ok62, ok63, trivial⟩ Tryz.func38 (by kernel_rfl) (by kernel_rfl) fun x hw hp => by
  obtain ⟨p, w, u⟩ := x
  obtain ⟨rfl, rfl⟩ := hp
  exact b38
theorem book_one {b : BookD} (hs : BookSmall b) (h1 : b.2.1.length ≤ 1) (h2 : b.2.2.1.length ≤ 1) (h3 : b.2.2.2.1.length ≤ 1) : BookOk b where
 small := hs
 owners := fun e x hx y hy _ _ => by rw [one_mem h1 hx hy]
 held := fun e x hx y hy u v hu hv => by
  rw [one_mem h3 hx hy, hv] at hu
  cases hu
  rfl
 few := fun e => by
  unfold fewZones zoneKeys
  rw [List.length_map]
  have := List.length_filter_le (fun x : Int × List Int => fMem x.2 e) b.2.2.1
  omega
theorem v14 : bodyVC (ctxOf tab [(39, c39), (38, c38), (40, c40), (41, c41), (15, c15f)]) Tryz.f14 c14 noAnn (()) = (
lett
([([(87 : UInt8)], (4 : Int), (0 : Int)), ([(65 : UInt8)], (1 : Int), (20 : Int)), ([(80 : UInt8)], (2 : Int), (10 : Int)), ([(66 : UInt8)], (1 : Int), (20 : Int)),
([(67 : UInt8)], (1 : Int), (30 : Int)), ([(69 : UInt8)], (4 : Int), (0 : Int))],
[(((0 : Int), (0 : Int)), (1 : Int), (0 : Int)), (((1 : Int), (1 : Int)), (2 : Int), (0 : Int)), (((2 : Int), (1 : Int)), (3 : Int), (0 : Int)), (((3 : Int), (1 : Int)), (5 : Int), (0 : Int)),
(((2 : Int), (2 : Int)), (4 : Int), (0 : Int))],
[([(119 : UInt8)], ((0 : Int), (0 : Int)), false), ([(97 : UInt8)], ((1 : Int), (1 : Int)), false), ([(101 : UInt8)], ((5 : Int), (0 : Int)), false),
([(98 : UInt8)], ((3 : Int), (0 : Int)), false), ([(99 : UInt8)], ((4 : Int), (0 : Int)), false)],
[], (10 : Int), (5 : Int), (15 : Int), (2 : Int), false)
fun (y0 : PlanD) =>
lett ((List.replicate (1 : Nat) (0 : Int)).set (0 : Nat) (1 : Int)) fun (y1 : List Int) =>
lett (laidUp y0 y1 y1.length).1
fun
(y2 :
(PlanD) ×
List (RoadD)) =>
lett (bif false then true else (↑y2.2.length : Int) != (6 : Int)) fun (y3 : Bool) =>
lett (laidUp y0 y1 y1.length).2
fun
(y4 :
List (Int × Int × Bool × List Bool) ×
(BookD) ×
(Option
(NetD) ×
List ((Int × Int) × Bool)) ×
(RBookD) × List Int) =>
lett
(((((((List.replicate (6 : Nat) (0 : Int)).set (0 : Nat) (0 : Int)).set (1 : Nat) (0 : Int)).set (2 : Nat) (1 : Int)).set (3 : Nat) (0 : Int)).set (4 : Nat) (0 : Int)).set (5 : Nat)
(0 : Int),
[], [])
fun (y5 : List Int × List Bool × List Bool) =>
lett (List.replicate (Int.toNat (6 : Int)) false, y5) fun (y6 : List Bool × List Int × List Bool × List Bool) =>
lett ((List.replicate (Int.toNat (6 : Int)) false).set (Int.toNat (1 : Int)) true, y5) fun (y7 : List Bool × List Int × List Bool × List Bool) =>
lett
(bif
bif
bif bif fWhyP y2 y4.1 y4.2.1 y4.2.2.1 y6 (0 : Int) == (0 : Int) then fWhyP y2 y4.1 y4.2.1 y4.2.2.1 y6 (2 : Int) == (12 : Int) else false then
fWhyP y2 y4.1 y4.2.1 y4.2.2.1 y6 (4 : Int) == (14 : Int)
else false then
fWhyP y2 y4.1 y4.2.1 y4.2.2.1 y6 (6 : Int) == (10 : Int)
else false then
fWhyP y2 y4.1 y4.2.1 y4.2.2.1 y7 (0 : Int) == (13 : Int)
else false)
fun (y8 : Bool) =>
lett (bif y8 then fMoves y2 y7 (2 : Int) == (List.replicate (1 : Nat) (0 : Int)).set (0 : Nat) (2 : Int) else false) fun (y9 : Bool) =>
True ∧
laidPre y0 y1 ∧
(y3 = true → false = true ∧ True) ∧
(y3 = false →
((0 : Int) ≤ (6 : Int) ∧ (6 : Int) ≤ (6 : Int)) ∧
(roomFor (Int.toNat (6 : Int)) (1 : Nat) ∧ (6 : Int) ≤ (↑maxLenI : Int)) ∧
(chartOk y2 ∧ BookOk y4.2.1 ∧ netLined y4.2.2.1.1) ∧
(chartOk y2 ∧ BookOk y4.2.1 ∧ netLined y4.2.2.1.1) ∧
(chartOk y2 ∧ BookOk y4.2.1 ∧ netLined y4.2.2.1.1) ∧
(chartOk y2 ∧ BookOk y4.2.1 ∧ netLined y4.2.2.1.1) ∧
InB (1 : Int) (List.replicate (Int.toNat (6 : Int)) false).length ∧
(chartOk y2 ∧ BookOk y4.2.1 ∧ netLined y4.2.2.1.1) ∧
(y8 = true → roadsSmall y2) ∧
(y8 = true → True) ∧ (y9 = true → roadsSmall y2) ∧ (bif y9 then (↑(fMoves y2 y7 (1 : Int)).length : Int) == (0 : Int) else false) = true ∧ True)) := by kernel_rfl
def laidD : DeskD := laidUp smallP [1] 1
def inA : InD := ([false, false, false, false, false, false], [0, 0, 1, 0, 0, 0], [], [])
def inB : InD := ([false, true, false, false, false, false], [0, 0, 1, 0, 0, 0], [], [])
theorem laid_whys : (fWhyP laidD.1 laidD.2.1 laidD.2.2.1 laidD.2.2.2.1 inA 0, fWhyP laidD.1 laidD.2.1 laidD.2.2.1 laidD.2.2.2.1 inA 2, fWhyP laidD.1 laidD.2.1 laidD.2.2.1 laidD.2.2.2.1 inA 4, fWhyP laidD.1 laidD.2.1 laidD.2.2.1 laidD.2.2.2.1 inA 6, fWhyP laidD.1 laidD.2.1 laidD.2.2.1 laidD.2.2.2.1 inB 0) = (0, 12, 14, 10, 13) := by kernel_rfl
theorem laid_moves : (fMoves laidD.1 inB 2, fMoves laidD.1 inB 1) = ([2], []) := by kernel_rfl
def bookSmallB (b : BookD) : Bool :=
 b.2.1.all (fun x => Nat.ble x.2.length 1000) && b.2.2.1.all (fun x => Nat.ble x.2.length 1000) && b.2.2.2.1.all (fun x => Nat.ble x.2.length 1000) && b.2.2.2.2.all (fun x => Nat.ble x.2.length 1000) &&
  Nat.ble b.2.1.length 1 && Nat.ble b.2.2.1.length 1 && Nat.ble b.2.2.2.1.length 1
theorem laid_book : bookSmallB laidD.2.2.1 = true := by kernel_rfl
theorem laid_ok : BookOk laidD.2.2.1 := by
 have h := laid_book
 unfold bookSmallB at h
 simp only [Bool.and_eq_true, List.all_eq_true] at h
 obtain ⟨⟨⟨⟨⟨⟨h1, h2⟩, h3⟩, h4⟩, h5⟩, h6⟩, h7⟩ := h
 have h5 := Nat.le_of_ble_eq_true h5
 have h6 := Nat.le_of_ble_eq_true h6
 have h7 := Nat.le_of_ble_eq_true h7
 exact book_one ⟨fun x hx => Nat.le_of_ble_eq_true (h1 x hx), fun x hx => Nat.le_of_ble_eq_true (h2 x hx), fun x hx => Nat.le_of_ble_eq_true (h3 x hx), fun x hx => Nat.le_of_ble_eq_true (h4 x hx), by omega, by omega, by omega⟩ h5 h6 h7
theorem b14 : bodyVC (ctxOf tab [(39, c39), (38, c38), (40, c40), (41, c41), (15, c15f)]) Tryz.f14 c14 noAnn (()) := by
 rw [v14]
 refine lett.mk fun y0 e0 => lett.mk fun y1 e1 => lett.mk fun y2 e2 => lett.mk fun y3 e3 => lett.mk fun y4 e4 => lett.mk fun y5 e5 => lett.mk fun y6 e6 => lett.mk fun y7 e7 => lett.mk fun y8 e8 => lett.mk fun y9 e9 => ?_
 have e0 : y0 = smallP := e0
 have e1 : y1 = [1] := e1
 subst e0 e1
 have e2 : y2 = laidD.1 := e2
 have e4 : y4 = laidD.2 := e4
 have e6 : y6 = inA := by rw [e6, e5]; rfl
 have e7 : y7 = inB := by rw [e7, e5]; rfl
 have hc : laidD.1 = (smallP, (fRoads smallP).1) := laidUp_chart smallP [1] 1
 have hG := small_good
 have h3 : y3 = false := by rw [e3, e2, hc, small_len]; rfl
 have hw := laid_whys
 simp only [Prod.mk.injEq] at hw
 obtain ⟨w0, w2, w4, w6, w1⟩ := hw
 have hm := laid_moves
 simp only [Prod.mk.injEq] at hm
 obtain ⟨m2, m1⟩ := hm
 have h8 : y8 = true := by rw [e8, e2, e4, e6, e7, w0, w2, w4, w6, w1]; rfl
 have h9 : y9 = true := by rw [e9, h8, e2, e7, m2]; rfl
 have hok : chartOk y2 := by rw [e2, hc]; exact ⟨⟨hG.check, hG.short⟩, fun r hr => small_fits hr⟩
 have hrs : roadsSmall y2 := fun r hr => (hok.2 r hr).1
 have hb : BookOk y4.2.1 := by rw [e4]; exact laid_ok
 have hn : netLined y4.2.2.1.1 := by rw [e4, show laidD.2.2.2.1.1 = fMade smallP from laidUp_net smallP [1] 1]; exact made_lined hG
 refine ⟨trivial, ⟨rfl, rfl⟩, fun h => by rw [h3] at h; exact Bool.noConfusion h, fun _ => ⟨⟨by decide, by decide⟩, ⟨by unfold roomFor; decide, by unfold maxLenI; decide⟩, ⟨hok, hb, hn⟩, ⟨hok, hb, hn⟩, ⟨hok, hb, hn⟩, ⟨hok, hb, hn⟩, ⟨by decide, by decide⟩, ⟨hok, hb, hn⟩, fun _ => hrs, fun _ => trivial, fun _ => hrs, ?_, trivial⟩⟩
 rw [h9, e2, e7, m1]
 rfl
theorem ok14 : DOk Tryz.prog 14 c14 :=
 DOk.of' (l := [(39, c39), (38, c38), (40, c40), (41, c41), (15, c15f)]) (A := fun _ => noAnn) tabOk ⟨ok39, ok38, ok40, ok41, ok15f, trivial⟩ Tryz.func14 (by kernel_rfl) (by kernel_rfl) fun x hw hp => b14
end YtpnnfimacblhgaaGreat
end Go.Proofs
end

section
set_option maxRecDepth 100000
set_option linter.unusedVariables false
set_option linter.unusedSimpArgs false
set_option maxHeartbeats 2000000
namespace Go.Proofs
open Go Go.Vc
namespace YtpnnfimacblhgaaGreat
theorem v5 (p : PlanD) (i : Int) (pos : List Int) : bodyVC (ctxOf tab [(14, c14), (7, c7), (15, c15f), (16, c16), (17, c17)]) Tryz.f5 c5 (a5 (p, i, pos, ())) (p, i, pos, ()) = (
lett (bif bif !(fRoads p).2 then true else (↑(fRoads p).1.length : Int) == (0 : Int) then true else decide ((↑pos.length : Int) > (60 : Int))) fun (y3 : Bool) =>
lett (i.tmod (↑(fRoads p).1.length : Int)) fun (y4 : Int) =>
lett ((fRoads p).1.getD y4.toNat ((0 : Int), (0 : Int), (0 : Int), [], [], [], [], [], false)).2.2.2.2 fun (y5 : List (Int × Int) × List (Int × Int) × List Int × List Int × Bool) =>
lett (List.replicate (0 : Nat) ((0 : Int), (0 : Int)) ++ y5.1) fun (y6 : List (Int × Int)) =>
lett (fMoves (p, (fRoads p).1) ([], pos, [], []) y4) fun (y7 : List Int) =>
lett (y6 ++ y5.2.1).length fun (y8 : Nat) =>
lett (decide ((↑y7.length : Int) ≤ (↑y8 : Int))) fun (y9 : Bool) =>
True ∧
((!true) = true → false = true ∧ True) ∧
((!true) = false →
True ∧
(y3 = true → true = true ∧ True) ∧
(y3 = false →
(↑(fRoads p).1.length : Int) ≠ (0 : Int) ∧
InB y4 (fRoads p).1.length ∧
roomFor ((List.replicate (0 : Nat) ((0 : Int), (0 : Int))).length + y5.1.length) (16 : Nat) ∧
InB y4 (fRoads p).1.length ∧
roomFor (y6.length + y5.2.1.length) (16 : Nat) ∧
roadsSmall (p, (fRoads p).1) ∧
(∃ (s010 : Nat),
(s010 ≤ (fNeedsAll (rAt p i)).length ∧ True) ∧
(↑s010 : Int) = (0 : Int) ∧
pos = pos ∧
y4 = y4 ∧
y7 = y7 ∧
keepP p (keepP p ((fRoads p).1 = (fRoads p).1 ∧ y6 ++ y5.2.1 = y6 ++ y5.2.1 ∧ True))) ∧
∀ (s10 : Nat),
lett (decide ((↑s10 : Int) < (↑y8 : Int))) fun (y11 : Bool) =>
lett ((y6 ++ y5.2.1).getD (↑s10 : Int).toNat ((0 : Int), (0 : Int))) fun (y12 : Int × Int) =>
lett (!fMem y7 y12.1 == (fLies pos y12.1 != y12.2)) fun (y13 : Bool) =>
s10 ≤ (fNeedsAll (rAt p i)).length ∧ True →
(y11 = true →
InB (↑s10 : Int) y8 ∧
True ∧
InB (↑s10 : Int) y8 ∧
True ∧
InB (↑s10 : Int) y8 ∧
(y13 = true → false = true ∧ True) ∧
(y13 = false →
InR IntKind.i64 ((↑s10 : Int) + (1 : Int)) ∧
∃ (s'14 : Nat),
(s'14 ≤ (fNeedsAll (rAt p i)).length ∧ True) ∧
(fNeedsAll (rAt p i)).length - s'14 < (fNeedsAll (rAt p i)).length - s10 ∧
(↑s'14 : Int) = (↑s10 : Int) + (1 : Int) ∧
pos = pos ∧
y4 = y4 ∧
y7 = y7 ∧
keepP p (keepP p ((fRoads p).1 = (fRoads p).1 ∧ y6 ++ y5.2.1 = y6 ++ y5.2.1 ∧ True)))) ∧
(y11 = false →
((0 : Int) ≤ (↑p.1.length : Int) ∧ (↑p.1.length : Int) ≤ (↑p.1.length : Int)) ∧
(roomFor (↑p.1.length : Int).toNat (8 : Nat) ∧ (↑p.1.length : Int) ≤ (↑maxLenI : Int)) ∧
(∃ (s014 : Nat),
s014 ≤ (fNeedsAll (rAt p i)).length ∧
(↑s014 : Int) = (0 : Int) ∧
y4 = y4 ∧
y7 = y7 ∧
lieUp (fNeedsAll (rAt p i)) p.1.length s014 = List.replicate (↑p.1.length : Int).toNat (0 : Int) ∧
keepP p (keepP p ((fRoads p).1 = (fRoads p).1 ∧ y6 ++ y5.2.1 = y6 ++ y5.2.1 ∧ True))) ∧
∀ (s14 : Nat),
lett (decide ((↑s14 : Int) < (↑y8 : Int))) fun (y15 : Bool) =>
lett ((y6 ++ y5.2.1).getD (↑s14 : Int).toNat ((0 : Int), (0 : Int))) fun (y16 : Int × Int) =>
lett (lieUp (fNeedsAll (rAt p i)) p.1.length s14) fun (y17 : List Int) =>
s14 ≤ (fNeedsAll (rAt p i)).length →
(y15 = true →
InB (↑s14 : Int) y8 ∧
InB (↑s14 : Int) y8 ∧
InB y16.1 y17.length ∧
InR IntKind.i64 ((↑s14 : Int) + (1 : Int)) ∧
∃ (s'18 : Nat),
s'18 ≤ (fNeedsAll (rAt p i)).length ∧
(fNeedsAll (rAt p i)).length - s'18 < (fNeedsAll (rAt p i)).length - s14 ∧
(↑s'18 : Int) = (↑s14 : Int) + (1 : Int) ∧
y4 = y4 ∧
y7 = y7 ∧
lieUp (fNeedsAll (rAt p i)) p.1.length s'18 = y17.set y16.1.toNat y16.2 ∧
keepP p (keepP p ((fRoads p).1 = (fRoads p).1 ∧
y6 ++ y5.2.1 = y6 ++ y5.2.1 ∧ True))) ∧
(y15 = false →
(y9 = true → roadsSmall (p, (fRoads p).1)) ∧
(bif y9 then (↑(fMoves (p, (fRoads p).1) ([], y17, [], []) y4).length : Int) == (0 : Int) else false) = true ∧ True))))) := by kernel_rfl
theorem b5 (p : PlanD) (i : Int) (pos : List Int) (hi : 0 ≤ i ∧ i ≤ 255) : bodyVC (ctxOf tab [(14, c14), (7, c7), (15, c15f), (16, c16), (17, c17)]) Tryz.f5 c5 (a5 (p, i, pos, ())) (p, i, pos, ()) := by
 rw [v5]
 refine lett.mk fun y3 e3 => lett.mk fun y4 e4 => lett.mk fun y5 e5 => lett.mk fun y6 e6 => lett.mk fun y7 e7 => lett.mk fun y8 e8 => lett.mk fun y9 e9 => ?_
 refine ⟨trivial, fun h => Bool.noConfusion h, fun _ => ⟨trivial, fun _ => ⟨rfl, trivial⟩, fun h2 => ?_⟩⟩
 rw [e3] at h2
 obtain ⟨h2, h60⟩ := bif_or h2
 obtain ⟨h2, hne⟩ := bif_or h2
 have hR := roads_ok (p := p) (by simpa using h2)
 rw [eqN' _ 0 0 rfl] at hne
 have hne := of_decide_eq_false hne
 have h4 := rem_in hi.1 hne
 rw [← e4] at h4
 have er : rAt p i = (fRoads p).1.getD y4.toNat zR := by rw [e4]; unfold rAt; rfl
 have hr : rAt p i ∈ (fRoads p).1 := by rw [er]; exact mem_getD zR (by omega)
 have hs := road_small hR hr
 have hN := road_needs hR hr
 have e5 : y5 = (rAt p i).2.2.2.2 := by rw [e5, er]; rfl
 have eN : y6 ++ y5.2.1 = fNeedsAll (rAt p i) := by rw [e6, e5]; unfold fNeedsAll; rfl
 have e6l : y6.length ≤ 1000 := by rw [e6, e5]; show ([] ++ (rAt p i).2.2.2.2.1).length ≤ 1000; exact hs.2.1
 have e5l : y5.1.length ≤ 1000 := by rw [e5]; exact hs.2.1
 have e5m : y5.2.1.length ≤ 1000 := by rw [e5]; exact hs.2.2
 rw [eN] at e8 ⊢
 have hm : ∀ q : List Int, fMoves (p, (fRoads p).1) ([], q, [], []) y4 = movesUp q (fNeedsAll (rAt p i)) (fNeedsAll (rAt p i)).length := fun q => by
  unfold fMoves roadIn roadAt
  rw [decide_eq_true h4.1, decide_eq_true h4.2, er]
  rfl
 rw [hm] at e7
 have hL := sizes_factsQ (check_zero hR.check).1
 have h9 : y9 = true := by
  rw [e9, e7, e8]
  have := moves_len pos (fNeedsAll (rAt p i)) (fNeedsAll (rAt p i)).length
  exact decide_eq_true (by omega)
 have hrs : roadsSmall (p, (fRoads p).1) := fun r hr => road_small hR hr
 have hlen : (fNeedsAll (rAt p i)).length ≤ 2000 := by unfold fNeedsAll; rw [List.length_append]; have := hs.2.1; have := hs.2.2; omega
 simp only [true_and, and_true, eq_self, keepP_eq]
 refine ⟨by omega, ⟨h4.1, h4.2⟩, by unfold roomFor; rw [List.length_replicate]; omega, ⟨h4.1, h4.2⟩, by unfold roomFor; omega, hrs, ⟨0, by omega, by omega⟩, fun s => lett.mk fun y11 e11 => lett.mk fun y12 e12 => lett.mk fun y13 e13 => fun hs => ⟨fun h11 => ?_, fun h11 => ⟨?_, ?_, ⟨0, by omega, by omega, rfl⟩, fun t => lett.mk fun y15 e15 => lett.mk fun y16 e16 => lett.mk fun y17 e17 => fun ht => ⟨fun h15 => ?_, fun h15 => ?_⟩⟩⟩⟩
 ·have hs' := lt_of_y e11 h11
  rw [Int.toNat_natCast] at e12
  have h13 : y13 = false := by
   rw [e13, e7, e12, need_moved hN pos (by omega)]
   show (!((!(fLies pos ((fNeedsAll (rAt p i)).getD s (0, 0)).1 == ((fNeedsAll (rAt p i)).getD s (0, 0)).2)) == (!(fLies pos ((fNeedsAll (rAt p i)).getD s (0, 0)).1 == ((fNeedsAll (rAt p i)).getD s (0, 0)).2)))) = false
   cases (fLies pos ((fNeedsAll (rAt p i)).getD s (0, 0)).1 == ((fNeedsAll (rAt p i)).getD s (0, 0)).2) <;> rfl
  exact ⟨⟨by omega, by omega⟩, ⟨by omega, by omega⟩, ⟨by omega, by omega⟩, fun h => by rw [h13] at h; exact Bool.noConfusion h, fun _ => ⟨inR64 (by omega) (by omega), s + 1, by omega, by omega, by omega⟩⟩
 ·omega
 ·refine ⟨by unfold roomFor; rw [Int.toNat_natCast]; omega, by have h := hL.1; unfold maxLenI; omega⟩
 ·have ht' := lt_of_y e15 h15
  rw [Int.toNat_natCast] at e16
  have hn := hN.each _ (mem_getD (0, 0) (show t < (fNeedsAll (rAt p i)).length by omega))
  rw [← e16] at hn
  have hl := lie_len (fNeedsAll (rAt p i)) p.1.length t
  rw [← e17] at hl
  refine ⟨⟨by omega, by omega⟩, ⟨by omega, by omega⟩, ⟨hn.2.1, by omega⟩, inR64 (by omega) (by omega), t + 1, by omega, by omega, by omega, ?_⟩
  rw [e17, e16]
  rfl
 ·have ht' : t = (fNeedsAll (rAt p i)).length := by
   rw [e15] at h15
   have := of_decide_eq_false h15
   omega
  subst ht'
  refine ⟨fun _ => hrs, ?_⟩
  rw [h9, hm, e17, lie_none hN]
  rfl
theorem ok5 : DOk Tryz.prog 5 c5 :=
 DOk.of' (l := [(14, c14), (7, c7), (15, c15f), (16, c16), (17, c17)]) (A := a5) tabOk ⟨ok14, ok7, ok15f, ok16, ok17, trivial⟩ Tryz.func5 (by kernel_rfl) (by kernel_rfl) fun x hw hp => b5 x.1 x.2.1 x.2.2.1 (inR_u8 hw.2.1)
end YtpnnfimacblhgaaGreat
end Go.Proofs
end

section
set_option maxRecDepth 100000
set_option linter.unusedVariables false
namespace Go.Proofs.YtpnnfimacblhgaaGreat
open Go Go.Vc
open Go.ChangeShapes Go.WideShapes Go.ChangeAt Go.RowKit
open Go.ChangeMaps (open_string shut_string)
theorem own : ownKnob Tryz.prog.godebug = none := by kernel_rfl
theorem laidOut : laidOutB Tryz.prog = true := by kernel_rfl
theorem law_calls {P : Program} {f : Nat} {ts : List Ty} (h : DOk P f (lawCon ts)) {W : World} {x : Tup ts} {vs : List Value} (hv : VReps (memOf W) ts x vs) :
  Calls P f vs.toArray W fun e w' => e = .returned (.bool true) ∧ Below W.heap.size W w' := by
 refine (h.calls (memOf W) W x vs (fun b o h => h) hv trivial).mono fun e w' => ?_
 rintro ⟨v, F', rfl, _, _, _, hk, hout⟩
 have hout : [v] = [Value.bool true] := hout
 simp only [List.cons.injEq, and_true] at hout
 exact ⟨by rw [hout], ⟨hk.os, hk.tape, hk.output, hk.size, fun k hk' => hk.block k hk' (fun h => h)⟩⟩
end Go.Proofs.YtpnnfimacblhgaaGreat
end
