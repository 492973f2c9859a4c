/-
  The reference's roads: written out and proved.
-/
import Derived.Test.YtpnnfimacblhgaaVle
import Derived.Test.YtpnnfimacblhgaaVlg
set_option maxRecDepth 100000
set_option linter.unusedVariables false
set_option linter.unusedSimpArgs false
set_option maxHeartbeats 2000000
namespace Go.Proofs
open Go Go.Vc
namespace Ytpnnfimacblhgaa

theorem v49 (r : RoadD) : bodyVC (ctxOf tab []) Try.f49 c49 (a49 (r, ())) (r, ()) = (
(∃ (s01 : Nat),
s01 ≤ r.snd.snd.snd.fst.length ∧
(↑s01 : Int) = (0 : Int) ∧
List.map (fun (s : StepD) => s.fst) (List.take s01 r.snd.snd.snd.fst) = [] ∧
keepP r (True)) ∧
∀ (s1 : Nat),
lett (decide ((↑s1 : Int) < (↑r.snd.snd.snd.fst.length : Int))) fun (y2 : Bool) =>
lett (List.map (fun (s : StepD) => s.fst) (List.take s1 r.snd.snd.snd.fst)) fun (y3 : List Int) =>
lett ((List.replicate (1 : Nat) (0 : Int)).set (0 : Nat) (r.snd.snd.snd.fst.getD (↑s1 : Int).toNat ((0 : Int), (0 : Int), (0 : Int))).fst) fun (y4 : List Int) =>
s1 ≤ r.snd.snd.snd.fst.length →
(y2 = true →
InB (↑s1 : Int) r.snd.snd.snd.fst.length ∧
roomFor (y3.length + y4.length) (8 : Nat) ∧
InR IntKind.i64 ((↑s1 : Int) + (1 : Int)) ∧
∃ (s'5 : Nat),
s'5 ≤ r.snd.snd.snd.fst.length ∧
r.snd.snd.snd.fst.length - s'5 < r.snd.snd.snd.fst.length - s1 ∧
(↑s'5 : Int) = (↑s1 : Int) + (1 : Int) ∧
List.map (fun (s : StepD) => s.fst) (List.take s'5 r.snd.snd.snd.fst) = y3 ++ y4 ∧
keepP r (True)) ∧
(y2 = false → y3 = fElems r ∧ True)) := by kernel_rfl

theorem b49 (r : RoadD) (hl : r.2.2.2.1.length ≤ 1000000) : bodyVC (ctxOf tab []) Try.f49 c49 (a49 (r, ())) (r, ()) := by
  rw [v49]
  simp only [keepP_eq, true_and, and_true, Int.toNat_natCast]
  refine ⟨⟨0, by omega, rfl, rfl⟩, fun s => lett.mk fun y2 e2 => lett.mk fun y3 e3 => lett.mk fun y4 e4 => ?_⟩
  intro hs
  have e4 : y4 = [(r.2.2.2.1.getD s zSt).1] := e4
  refine ⟨fun h => ?_, fun h => ?_⟩
  · have h := lt_of_y e2 h
    refine ⟨⟨by omega, by omega⟩, roomB (by rw [e3, e4]; simp; omega) (by omega), inR64 (by omega) (by omega), s + 1, by omega, by omega, by omega, ?_⟩
    rw [map_succ _ zSt h, e3, e4]
  · rw [e3, take_all e2 h]
    unfold fElems
    rfl

theorem ok49 : DOk Try.prog 49 c49 :=
  DOk.of' (l := []) (A := a49) tabOk trivial Try.func49 (by kernel_rfl) (by kernel_rfl) fun x _ hp => b49 x.1 hp

theorem v44 (r : RoadD) (e : Int) : bodyVC (ctxOf tab [(49, c49), (34, c34)]) Try.f44 c44 noAnn (r, e, ()) = (
r.snd.snd.snd.fst.length ≤ (1000000 : Nat) ∧ True ∧ fMem (fElems r) e = fOwn r e ∧ True) := by kernel_rfl

theorem ok44 : DOk Try.prog 44 c44 :=
  DOk.of' (l := [(49, c49), (34, c34)]) (A := fun _ => noAnn) tabOk ⟨ok49, ok34, trivial⟩ Try.func44 (by kernel_rfl) (by kernel_rfl) fun x _ hp => by
    obtain ⟨r, e, ⟨⟩⟩ := x
    rw [v44]
    refine ⟨hp, trivial, ?_, trivial⟩
    unfold fOwn
    rfl

theorem v45 (l : List (Int × Int)) (x : Int × Int) : bodyVC (ctxOf tab []) Try.f45 c45 (a45 (l, x, ())) (l, x, ()) = (
(∃ (s02 : Nat), (s02 ≤ l.length ∧ noneT (fun (y : PortD) => y == x) l s02) ∧ (↑s02 : Int) = (0 : Int) ∧ l = l ∧ x.fst = x.fst ∧ x.snd = x.snd ∧ True) ∧
∀ (s2 : Nat),
lett (decide ((↑s2 : Int) < (↑l.length : Int))) fun (y3 : Bool) =>
lett (l.getD (↑s2 : Int).toNat ((0 : Int), (0 : Int))) fun (y4 : Int × Int) =>
lett (y4.fst == x.fst && (y4.snd == x.snd && true)) fun (y5 : Bool) =>
s2 ≤ l.length ∧ noneT (fun (y : PortD) => y == x) l s2 →
(y3 = true →
InB (↑s2 : Int) l.length ∧
(y5 = true → true = fHasPort l x ∧ True) ∧
(y5 = false →
InR IntKind.i64 ((↑s2 : Int) + (1 : Int)) ∧
∃ (s'6 : Nat),
(s'6 ≤ l.length ∧ noneT (fun (y : PortD) => y == x) l s'6) ∧
l.length - s'6 < l.length - s2 ∧ (↑s'6 : Int) = (↑s2 : Int) + (1 : Int) ∧ l = l ∧ x.fst = x.fst ∧ x.snd = x.snd ∧ True)) ∧
(y3 = false → false = fHasPort l x ∧ True)) := by kernel_rfl

theorem b45 (l : List PortD) (x : PortD) (hw : l.length ≤ maxLenI) : bodyVC (ctxOf tab []) Try.f45 c45 (a45 (l, x, ())) (l, x, ()) := by
  rw [v45]
  simp only [true_and, and_true, Int.toNat_natCast]
  refine ⟨⟨0, ⟨by omega, rfl⟩, rfl⟩, fun s => lett.mk fun y3 e3 => lett.mk fun y4 e4 => lett.mk fun y5 e5 => ?_⟩
  rintro ⟨h1, h2⟩
  have h2 : (l.take s).any (fun y => y == x) = false := h2
  have e5 : y5 = (y4 == x) := by rw [e5]; exact portBeq _ _
  refine ⟨fun hs => ?_, fun hs => ?_⟩
  · have hs := lt_of_y e3 hs
    refine ⟨⟨by omega, by omega⟩, fun h => ?_, fun h => ⟨inRlen hs hw, s + 1, ⟨by omega, ?_⟩, by omega, by omega⟩⟩
    · unfold fHasPort
      exact (any_yes (p := fun y => y == x) (0, 0) hs (by rw [← h, e5, e4])).symm
    · exact any_succ (p := fun y => y == x) (0, 0) hs h2 (by rw [← h, e5, e4])
  · unfold fHasPort
    exact (any_full (le_of_y e3 hs) h2).symm

theorem ok45 : DOk Try.prog 45 c45 :=
  DOk.of' (l := []) (A := a45) tabOk trivial Try.func45 (by kernel_rfl) (by kernel_rfl) fun x hw _ => b45 x.1 x.2.1 hw.1.1

theorem v50 (l : List (Int × Int)) (x : Int × Int) : bodyVC (ctxOf tab []) Try.f50 c50 (a50 (l, x, ())) (l, x, ()) = (
(∃ (s02 : Nat), (s02 ≤ l.length ∧ noneT (fun (y : NeedD) => y == x) l s02) ∧ (↑s02 : Int) = (0 : Int) ∧ l = l ∧ x.fst = x.fst ∧ x.snd = x.snd ∧ True) ∧
∀ (s2 : Nat),
lett (decide ((↑s2 : Int) < (↑l.length : Int))) fun (y3 : Bool) =>
lett (l.getD (↑s2 : Int).toNat ((0 : Int), (0 : Int))) fun (y4 : Int × Int) =>
lett (y4.fst == x.fst && (y4.snd == x.snd && true)) fun (y5 : Bool) =>
s2 ≤ l.length ∧ noneT (fun (y : NeedD) => y == x) l s2 →
(y3 = true →
InB (↑s2 : Int) l.length ∧
(y5 = true → true = fHasNeed l x ∧ True) ∧
(y5 = false →
InR IntKind.i64 ((↑s2 : Int) + (1 : Int)) ∧
∃ (s'6 : Nat),
(s'6 ≤ l.length ∧ noneT (fun (y : NeedD) => y == x) l s'6) ∧
l.length - s'6 < l.length - s2 ∧ (↑s'6 : Int) = (↑s2 : Int) + (1 : Int) ∧ l = l ∧ x.fst = x.fst ∧ x.snd = x.snd ∧ True)) ∧
(y3 = false → false = fHasNeed l x ∧ True)) := by kernel_rfl

theorem b50 (l : List NeedD) (x : NeedD) (hw : l.length ≤ maxLenI) : bodyVC (ctxOf tab []) Try.f50 c50 (a50 (l, x, ())) (l, x, ()) := by
  rw [v50]
  simp only [true_and, and_true, Int.toNat_natCast]
  refine ⟨⟨0, ⟨by omega, rfl⟩, rfl⟩, fun s => lett.mk fun y3 e3 => lett.mk fun y4 e4 => lett.mk fun y5 e5 => ?_⟩
  rintro ⟨h1, h2⟩
  have h2 : (l.take s).any (fun y => y == x) = false := h2
  have e5 : y5 = (y4 == x) := by rw [e5]; exact portBeq _ _
  refine ⟨fun hs => ?_, fun hs => ?_⟩
  · have hs := lt_of_y e3 hs
    refine ⟨⟨by omega, by omega⟩, fun h => ?_, fun h => ⟨inRlen hs hw, s + 1, ⟨by omega, ?_⟩, by omega, by omega⟩⟩
    · unfold fHasNeed
      exact (any_yes (p := fun y => y == x) (0, 0) hs (by rw [← h, e5, e4])).symm
    · exact any_succ (p := fun y => y == x) (0, 0) hs h2 (by rw [← h, e5, e4])
  · unfold fHasNeed
    exact (any_full (le_of_y e3 hs) h2).symm

theorem ok50 : DOk Try.prog 50 c50 :=
  DOk.of' (l := []) (A := a50) tabOk trivial Try.func50 (by kernel_rfl) (by kernel_rfl) fun x hw _ => b50 x.1 x.2.1 hw.1.1

theorem v42 (r : RoadD) (s : Int × Int × Int) (pos : Int) (stop : Int) (to : Int) : bodyVC (ctxOf tab []) Try.f42 c42 noAnn (r, s, pos, stop, to, ()) = (
lett (List.replicate (0 : Nat) ((0 : Int), (0 : Int), (0 : Int))) fun (y5 : List (Int × Int × Int)) =>
lett (y5 ++ r.snd.snd.snd.fst) fun (y6 : List (Int × Int × Int)) =>
lett ((List.replicate (1 : Nat) ((0 : Int), (0 : Int), (0 : Int))).set (0 : Nat) s) fun (y7 : List (Int × Int × Int)) =>
lett (List.replicate (0 : Nat) ((0 : Int), (0 : Int)) ++ r.snd.snd.snd.snd.fst) fun (y8 : List (Int × Int)) =>
lett ((List.replicate (1 : Nat) ((0 : Int), (0 : Int))).set (0 : Nat) (s.fst, pos)) fun (y9 : List (Int × Int)) =>
lett ([], [], [], false) fun (y10 : List (Int × Int) × List Int × List Int × Bool) =>
lett (fWith r s pos stop to) fun (y11 : RoadD) =>
roomFor (y5.length + r.snd.snd.snd.fst.length) (24 : Nat) ∧
roomFor (y6.length + y7.length) (24 : Nat) ∧
roomFor ((List.replicate (0 : Nat) ((0 : Int), (0 : Int))).length + r.snd.snd.snd.snd.fst.length) (16 : Nat) ∧
((pos != (0 : Int)) = true → roomFor (y8.length + y9.length) (16 : Nat) ∧ (r.fst, to, stop, y6 ++ y7, y8 ++ y9, y10) = y11 ∧ True) ∧
((pos != (0 : Int)) = false → (r.fst, to, stop, y6 ++ y7, y8, y10) = y11 ∧ True)) := by kernel_rfl

theorem b42 (r : RoadD) (s : StepD) (pos stop to : Int) (hp : withPre r) : bodyVC (ctxOf tab []) Try.f42 c42 noAnn (r, s, pos, stop, to, ()) := by
  obtain ⟨h1, h2⟩ := hp
  rw [v42]
  refine lett.mk fun y5 e5 => lett.mk fun y6 e6 => lett.mk fun y7 e7 => lett.mk fun y8 e8 => lett.mk fun y9 e9 => lett.mk fun y10 e10 => lett.mk fun y11 e11 => ?_
  have e5 : y5 = [] := e5
  subst e5
  have e6 : y6 = r.2.2.2.1 := e6
  have e7 : y7 = [s] := e7
  have e8 : y8 = r.2.2.2.2.1 := e8
  have e9 : y9 = [(s.1, pos)] := e9
  have hW : y11 = (r.1, to, stop, r.2.2.2.1 ++ [s], r.2.2.2.2.1 ++ (bif pos == 0 then [] else [(s.1, pos)]), [], [], [], false) := by rw [e11]; unfold fWith; rfl
  refine ⟨roomB (by simp; omega) (by omega), roomB (by rw [e6, e7]; simp; omega) (by omega), roomB (by simp; omega) (by omega), fun h => ⟨roomB (by rw [e8, e9]; simp; omega) (by omega), ?_, trivial⟩, fun h => ⟨?_, trivial⟩⟩
  · have : (pos == 0) = false := by rw [bneB] at h; simpa using h
    rw [hW, this, e6, e7, e8, e9, e10]
    rfl
  · have : (pos == 0) = true := by rw [bneB] at h; simpa using h
    rw [hW, this, e6, e7, e8, e10]
    simp

theorem ok42 : DOk Try.prog 42 c42 :=
  DOk.of' (l := []) (A := fun _ => noAnn) tabOk trivial Try.func42 (by kernel_rfl) (by kernel_rfl) fun x _ hp => b42 x.1 x.2.1 x.2.2.1 x.2.2.2.1 x.2.2.2.2.1 hp

/-! ### All roads on -/

theorem with_steps (r : RoadD) (s : StepD) (pos stop to : Int) : (fWith r s pos stop to).2.2.2.1 = r.2.2.2.1 ++ [s] := by unfold fWith; rfl
theorem with_needs (r : RoadD) (s : StepD) (pos stop to : Int) : (fWith r s pos stop to).2.2.2.2.1.length ≤ r.2.2.2.2.1.length + 1 := by
  unfold fWith
  show (r.2.2.2.2.1 ++ (bif pos == 0 then [] else [(s.1, pos)])).length ≤ _
  cases pos == 0 <;> simp

theorem ways_succ {p : PlanD} {rec : RoadD → PortD → List Int → List RoadD} {r : RoadD} {x : PortD} {met : List Int} {k : Nat} (h : k < (fOuts p x.1 x.2).length) :
    onWays p rec r x met (k + 1) = onWays p rec r x met k ++ onWay p rec r x met ((fOuts p x.1 x.2).getD k (0, 0)) := by
  unfold onWays
  exact flat_succ _ (0, 0) h

theorem ways_zero {p : PlanD} {rec : RoadD → PortD → List Int → List RoadD} {r : RoadD} {x : PortD} {met : List Int} : onWays p rec r x met 0 = [] := by
  unfold onWays
  rfl

theorem way_len {p : PlanD} {rec : RoadD → PortD → List Int → List RoadD} {B : Nat} (hB : 1 ≤ B) (hrec : ∀ r x met, (rec r x met).length ≤ B) (r : RoadD) (x : PortD) (met : List Int) (w : Int × Int) : (onWay p rec r x met w).length ≤ B := by
  unfold onWay
  cases decide (0 ≤ fReads p (x.1, w.1)) <;> cases !(fNext p (x.1, w.1)).2
  · exact hrec _ _ _
  · exact hB
  · exact hB
  · exact hB

theorem ways_len {p : PlanD} {rec : RoadD → PortD → List Int → List RoadD} {B : Nat} (hB : 1 ≤ B) (hrec : ∀ r x met, (rec r x met).length ≤ B) (r : RoadD) (x : PortD) (met : List Int) : ∀ k, k ≤ (fOuts p x.1 x.2).length → (onWays p rec r x met k).length ≤ k * B
  | 0, _ => by rw [ways_zero]; simp
  | k + 1, h => by
    rw [ways_succ (by omega), List.length_append, Nat.succ_mul]
    have h1 := ways_len (p := p) hB hrec r x met k (by omega)
    have h2 := way_len (p := p) hB hrec r x met ((fOuts p x.1 x.2).getD k (0, 0))
    omega

theorem on_len (p : PlanD) : ∀ (n : Nat) (r : RoadD) (x : PortD) (met : List Int), (fOn p n r x met).length ≤ 2 ^ n
  | 0, _, _, _ => by show 0 ≤ _; omega
  | n + 1, r, x, met => by
    have h1 : 1 ≤ 2 ^ n := Nat.one_le_two_pow
    have hw := ways_len (p := p) h1 (on_len p n) r x (met ++ [x.1]) (fOuts p x.1 x.2).length (Nat.le_refl _)
    have ho := outs_len p x.1 x.2
    have hm : (fOuts p x.1 x.2).length * 2 ^ n ≤ 2 * 2 ^ n := Nat.mul_le_mul_right _ ho
    have hp : 2 ^ (n + 1) = 2 * 2 ^ n := by rw [Nat.pow_succ, Nat.mul_comm]
    show (onStep p (fOn p n) r x met).length ≤ _
    unfold onStep
    cases fMem met x.1 || decide (r.2.2.2.1.length = 12) <;> cases fKind p x.1 == 4
    · rw [cond_false, cond_false]; omega
    · rw [cond_false, cond_true]; show 1 ≤ _; omega
    · rw [cond_true]; show 0 ≤ _; omega
    · rw [cond_true]; show 0 ≤ _; omega

theorem v39 (n : Nat) (p : PlanD) (r : RoadD) (x : Int × Int) (met : List Int) : bodyVC (ctxOf tab [(34, c34), (40, c40), (42, c42), (43, c43), (33, c33), (31, c31), (39, c39 n)]) Try.f39 (c39 (n + 1)) (a39 n (p, r, x, met, ())) (p, r, x, met, ()) = (
lett (bif fMem met x.fst then true else (↑r.snd.snd.snd.fst.length : Int) == (12 : Int)) fun (y4 : Bool) =>
lett (fOn p (n + (1 : Nat)) r x met) fun (y5 : List RoadD) =>
lett ((List.replicate (1 : Nat) (0 : Int)).set (0 : Nat) x.fst) fun (y6 : List Int) =>
lett (fKind p x.fst == (4 : Int)) fun (y7 : Bool) =>
lett (List.replicate (1 : Nat) ((0 : Int), (0 : Int), (0 : Int), [], [], [], [], [], false))
fun (y8 : List (RoadD)) =>
lett (fOuts p x.fst x.snd) fun (y9 : List (Int × Int)) =>
lett (met ++ [x.fst]) fun (y10 : List Int) =>
True ∧
(y4 = true → [] = y5 ∧ True) ∧
(y4 = false →
roomFor ((List.replicate (0 : Nat) (0 : Int)).length + met.length) (8 : Nat) ∧
roomFor ((List.replicate (0 : Nat) (0 : Int) ++ met).length + y6.length) (8 : Nat) ∧
True ∧
(y7 = true → withPre r ∧ y8.set (0 : Nat) (fWith r (x.fst, x.snd, (-1 : Int)) (0 : Int) (2 : Int) (-1 : Int)) = y5 ∧ True) ∧
(y7 = false →
True ∧
(∃ (s011 : Nat),
s011 ≤ y9.length ∧
(↑s011 : Int) = (0 : Int) ∧
y9 = y9 ∧
onWays p (fOn p n) r x y10 s011 = [] ∧
y10 = List.replicate (0 : Nat) (0 : Int) ++ met ++ y6 ∧
keepP p (keepP r (x.fst = x.fst ∧ x.snd = x.snd ∧ True))) ∧
∀ (s11 : Nat),
lett (decide ((↑s11 : Int) < (↑y9.length : Int))) fun (y12 : Bool) =>
lett (y9.getD (↑s11 : Int).toNat ((0 : Int), (0 : Int))) fun (y13 : Int × Int) =>
lett (fReads p (x.fst, y13.fst)) fun (y14 : Int) =>
lett (onWays p (fOn p n) r x y10 s11) fun (y15 : List RoadD) =>
lett (x.fst, x.snd, y13.fst) fun (y16 : Int × Int × Int) =>
lett (y8.set (0 : Nat) (fWith r y16 y13.snd (1 : Int) y14))
fun (y17 : List (RoadD)) =>
lett (fNext p (x.fst, y13.fst)) fun (y18 : PortD × Bool) =>
lett (y8.set (0 : Nat) (fWith r y16 y13.snd (3 : Int) (-1 : Int)))
fun (y19 : List (RoadD)) =>
lett (fWith r y16 y13.snd (0 : Int) (-1 : Int)) fun (y20 : RoadD) =>
lett (fOn p n y20 y18.fst y10) fun (y21 : List RoadD) =>
s11 ≤ y9.length →
(y12 = true →
InB (↑s11 : Int) y9.length ∧
InB (↑s11 : Int) y9.length ∧
True ∧
(decide (y14 ≥ (0 : Int)) = true →
InB (↑s11 : Int) y9.length ∧
withPre r ∧
roomFor (y15.length + y17.length) (152 : Nat) ∧
InR IntKind.i64 ((↑s11 : Int) + (1 : Int)) ∧
∃ (s'22 : Nat),
s'22 ≤ y9.length ∧
y9.length - s'22 < y9.length - s11 ∧
(↑s'22 : Int) = (↑s11 : Int) + (1 : Int) ∧
y9 = y9 ∧
onWays p (fOn p n) r x y10 s'22 = y15 ++ y17 ∧
y10 = y10 ∧
keepP p (keepP r (x.fst = x.fst ∧ x.snd = x.snd ∧ True))) ∧
(decide (y14 ≥ (0 : Int)) = false →
True ∧
((!y18.snd) = true →
InB (↑s11 : Int) y9.length ∧
withPre r ∧
roomFor (y15.length + y19.length) (152 : Nat) ∧
InR IntKind.i64 ((↑s11 : Int) + (1 : Int)) ∧
∃ (s'22 : Nat),
s'22 ≤ y9.length ∧
y9.length - s'22 < y9.length - s11 ∧
(↑s'22 : Int) = (↑s11 : Int) + (1 : Int) ∧
y9 = y9 ∧
onWays p (fOn p n) r x y10 s'22 = y15 ++ y19 ∧
y10 = y10 ∧
keepP p (r.fst = r.fst ∧
r.snd.fst = r.snd.fst ∧
r.snd.snd.fst = r.snd.snd.fst ∧
r.snd.snd.snd.fst = r.snd.snd.snd.fst ∧
r.snd.snd.snd.snd.fst = r.snd.snd.snd.snd.fst ∧
r.snd.snd.snd.snd.snd.fst = r.snd.snd.snd.snd.snd.fst ∧
r.snd.snd.snd.snd.snd.snd.fst = r.snd.snd.snd.snd.snd.snd.fst ∧
r.snd.snd.snd.snd.snd.snd.snd.fst =
r.snd.snd.snd.snd.snd.snd.snd.fst ∧
r.snd.snd.snd.snd.snd.snd.snd.snd =
r.snd.snd.snd.snd.snd.snd.snd.snd ∧
x.fst = x.fst ∧ x.snd = x.snd ∧ True)) ∧
((!y18.snd) = false →
InB (↑s11 : Int) y9.length ∧
withPre r ∧
onPre n y20 y10 ∧
roomFor (y15.length + y21.length) (152 : Nat) ∧
InR IntKind.i64 ((↑s11 : Int) + (1 : Int)) ∧
∃ (s'22 : Nat),
s'22 ≤ y9.length ∧
y9.length - s'22 < y9.length - s11 ∧
(↑s'22 : Int) = (↑s11 : Int) + (1 : Int) ∧
y9 = y9 ∧
onWays p (fOn p n) r x y10 s'22 = y15 ++ y21 ∧
y10 = y10 ∧
keepP p (r.fst = r.fst ∧
r.snd.fst = r.snd.fst ∧
r.snd.snd.fst = r.snd.snd.fst ∧
r.snd.snd.snd.fst = r.snd.snd.snd.fst ∧
r.snd.snd.snd.snd.fst = r.snd.snd.snd.snd.fst ∧
r.snd.snd.snd.snd.snd.fst = r.snd.snd.snd.snd.snd.fst ∧
r.snd.snd.snd.snd.snd.snd.fst = r.snd.snd.snd.snd.snd.snd.fst ∧
r.snd.snd.snd.snd.snd.snd.snd.fst =
r.snd.snd.snd.snd.snd.snd.snd.fst ∧
r.snd.snd.snd.snd.snd.snd.snd.snd =
r.snd.snd.snd.snd.snd.snd.snd.snd ∧
x.fst = x.fst ∧ x.snd = x.snd ∧ True)))) ∧
(y12 = false → y15 = y5 ∧ True)))) := by kernel_rfl

theorem b39 (n : Nat) (p : PlanD) (r : RoadD) (x : PortD) (met : List Int) (hp : onPre (n + 1) r met) : bodyVC (ctxOf tab [(34, c34), (40, c40), (42, c42), (43, c43), (33, c33), (31, c31), (39, c39 n)]) Try.f39 (c39 (n + 1)) (a39 n (p, r, x, met, ())) (p, r, x, met, ()) := by
  obtain ⟨⟨p1, p2, p3⟩, p4, p5⟩ := hp
  have hwp : withPre r := ⟨by omega, by omega⟩
  have h2n : 2 ^ n ≤ 2 ^ 12 := Nat.pow_le_pow_right (by omega) (by omega)
  have h212 : 2 ^ 12 = 4096 := by decide
  have h1n : 1 ≤ 2 ^ n := Nat.one_le_two_pow
  rw [v39]
  refine lett.mk fun y4 e4 => lett.mk fun y5 e5 => lett.mk fun y6 e6 => lett.mk fun y7 e7 => lett.mk fun y8 e8 => lett.mk fun y9 e9 => lett.mk fun y10 e10 => ?_
  have e6 : y6 = [x.1] := e6
  rw [eqN' _ 12 12 rfl] at e4
  have hS : y5 = bif y4 then [] else bif y7 then [fWith r (x.1, x.2, -1) 0 2 (-1)] else onWays p (fOn p n) r x y10 (fOuts p x.1 x.2).length := by
    rw [e5, e4, e7, e10]
    show onStep p (fOn p n) r x met = _
    unfold onStep
    have key : ∀ a b : Bool, (a || b) = (bif a then true else b) := by decide
    rw [key]
  simp only [keepP_eq, true_and, and_true, Int.toNat_natCast]
  refine ⟨fun h => by rw [hS, h]; rfl, fun h4 => ⟨roomB (by simp; omega) (by omega), roomB (by rw [e6]; simp; omega) (by omega), fun h7 => ⟨hwp, by rw [hS, h4, h7, e8]; rfl⟩, fun h7 => ⟨⟨0, by omega, rfl, ways_zero, by rw [e10, e6]; rfl⟩, fun s => lett.mk fun y12 e12 => lett.mk fun y13 e13 => lett.mk fun y14 e14 => lett.mk fun y15 e15 => lett.mk fun y16 e16 => lett.mk fun y17 e17 => lett.mk fun y18 e18 => lett.mk fun y19 e19 => lett.mk fun y20 e20 => lett.mk fun y21 e21 => ?_⟩⟩⟩
  have hol := outs_len p x.1 x.2
  rw [← e9] at hol
  intro hs
  have hwl := ways_len (p := p) h1n (on_len p n) r x y10 s (by rw [← e9]; exact hs)
  rw [← e15] at hwl
  have hsm : s * 2 ^ n ≤ 2 * 4096 := Nat.mul_le_mul (by omega) (by omega)
  have e13 : y13 = (fOuts p x.1 x.2).getD s (0, 0) := by rw [e13, e9]
  have hway : onWay p (fOn p n) r x y10 y13 = bif decide (0 ≤ y14) then [fWith r y16 y13.2 1 y14] else bif !y18.2 then [fWith r y16 y13.2 3 (-1)] else fOn p n y20 y18.1 y10 := by
    rw [e20, e18, e16, e14]
    unfold onWay
    rfl
  rw [e8] at e17 e19
  have e17 : y17 = [fWith r y16 y13.2 1 y14] := e17
  have e19 : y19 = [fWith r y16 y13.2 3 (-1)] := e19
  refine ⟨fun h => ?_, fun h => ?_⟩
  · have h := lt_of_y e12 h
    have hin : InB (s : Int) y9.length := ⟨by omega, by omega⟩
    have hsucc := ways_succ (rec := fOn p n) (r := r) (met := y10) (k := s) (by rw [← e9]; exact h)
    rw [← e13, hway, ← e15] at hsucc
    refine ⟨hin, hin, fun h14 => ?_, fun h14 => ⟨fun h18 => ?_, fun h18 => ?_⟩⟩
    · refine ⟨hin, hwp, roomB (by rw [e17]; simp; omega) (by omega), inR64 (by omega) (by omega), s + 1, by omega, by omega, by omega, ?_⟩
      have h14 : decide (0 ≤ y14) = true := h14
      rw [hsucc, h14, e17]
      rfl
    · refine ⟨hin, hwp, roomB (by rw [e19]; simp; omega) (by omega), inR64 (by omega) (by omega), s + 1, by omega, by omega, by omega, ?_⟩
      have h14 : decide (0 ≤ y14) = false := h14
      rw [hsucc, h14, h18, e19]
      rfl
    · have hl21 : y21.length ≤ 2 ^ n := by rw [e21]; exact on_len p n _ _ _
      have hst : y20.2.2.2.1.length = r.2.2.2.1.length + 1 := by rw [e20, with_steps]; simp
      have hnd : y20.2.2.2.2.1.length ≤ r.2.2.2.2.1.length + 1 := by rw [e20]; exact with_needs _ _ _ _ _
      have hne : r.2.2.2.1.length ≠ 12 := by
        rw [e4] at h4
        exact of_decide_eq_false (bif_or h4).2
      have h10 : y10.length = met.length + 1 := by rw [e10]; simp
      refine ⟨hin, hwp, ⟨⟨by omega, by omega, by omega⟩, by omega, by omega⟩, roomB (by omega) (by omega), inR64 (by omega) (by omega), s + 1, by omega, by omega, by omega, ?_⟩
      have h14 : decide (0 ≤ y14) = false := h14
      rw [hsucc, h14, h18, e21]
      rfl
  · have hle := le_of_y e12 h
    have : s = (fOuts p x.1 x.2).length := by rw [← e9]; omega
    rw [hS, h4, h7, e15, this]
    rfl

theorem on_zero {r : RoadD} {met : List Int} : ¬ onPre 0 r met := fun hp => by
  obtain ⟨⟨p1, p2, p3⟩, _⟩ := hp
  omega

theorem ok39 : ∀ n : Nat, DOk Try.prog 39 (c39 n)
  | 0 => { fn := ⟨Try.f39, _, Try.func39, by kernel_rfl, rfl⟩, calls := fun F w x vs hF hx hp => absurd hp on_zero }
  | n + 1 => DOk.of' (l := [(34, c34), (40, c40), (42, c42), (43, c43), (33, c33), (31, c31), (39, c39 n)]) (A := a39 n) tabOk ⟨ok34, ok40, ok42, ok43, ok33, ok31, ok39 n, trivial⟩ Try.func39 (by kernel_rfl) (by kernel_rfl) fun x _ hp => b39 n x.1 x.2.1 x.2.2.1 x.2.2.2.1 hp

theorem v24 (p : PlanD) (s : Int) : bodyVC (ctxOf tab [(38, c38), (31, c31), (39, c39 13)]) Try.f24 c24 noAnn (p, s, ()) = (
lett (fNext p (fAt p s).fst) fun (y2 : PortD × Bool) =>
lett (s, (0 : Int), (0 : Int), [], [], [], [], [], false) fun (y3 : RoadD) =>
lett ((List.replicate (1 : Nat) (0 : Int)).set (0 : Nat) (fAt p s).fst.fst) fun (y4 : List Int) =>
True ∧
((!(fAt p s).snd) = true → [] = fOf p s ∧ True) ∧
((!(fAt p s).snd) = false → True ∧ ((!y2.snd) = true → [] = fOf p s ∧ True) ∧ ((!y2.snd) = false → onPre (13 : Nat) y3 y4 ∧ fOn p (13 : Nat) y3 y2.fst y4 = fOf p s ∧ True))) := by kernel_rfl

theorem of_pre (s e : Int) : onPre 13 (roadFrom s) [e] :=
  ⟨⟨show 12 < 0 + 13 by omega, show 0 ≤ 12 by omega, by omega⟩, show 0 ≤ 0 by omega, show 1 ≤ 0 + 1 by omega⟩

theorem ok24 : DOk Try.prog 24 c24 :=
  DOk.of' (l := [(38, c38), (31, c31), (39, c39 13)]) (A := fun _ => noAnn) tabOk ⟨ok38, ok31, ok39 13, trivial⟩ Try.func24 (by kernel_rfl) (by kernel_rfl) fun x _ hp => by
    obtain ⟨p, s, ⟨⟩⟩ := x
    rw [v24]
    refine lett.mk fun y2 e2 => lett.mk fun y3 e3 => lett.mk fun y4 e4 => ⟨trivial, fun h => ⟨?_, trivial⟩, fun h => ⟨trivial, fun h2 => ⟨?_, trivial⟩, fun h2 => ⟨by rw [e3, e4]; exact of_pre _ _, ?_, trivial⟩⟩⟩
    · unfold fOf
      rw [h]
      rfl
    · unfold fOf
      rw [h, ← e2, h2]
      rfl
    · unfold fOf
      rw [h, ← e2, h2, e3, e4]
      rfl

theorem of_len (p : PlanD) (s : Int) : (fOf p s).length ≤ 8192 := by
  unfold fOf
  have h := on_len p 13 (roadFrom s) (fNext p (fAt p s).1).1 [(fAt p s).1.1]
  have e : 2 ^ 13 = 8192 := by decide
  rw [e] at h
  cases !(fAt p s).2 <;> cases !(fNext p (fAt p s).1).2
  · exact h
  · exact Nat.zero_le _
  · exact Nat.zero_le _
  · exact Nat.zero_le _

theorem all_up_succ (p : PlanD) (k : Nat) : allUp p (k + 1) = allUp p k ++ fOf p (k : Int) := by
  unfold allUp
  rw [List.range_succ, List.flatMap_append]
  simp

theorem all_up_len {p : PlanD} {k : Nat} (h : anyTo (allLong p) k = false) : (allUp p k).length ≤ 64 := by
  cases k with
  | zero => unfold allUp; simp
  | succ k =>
    have := anyTo_none.1 h k (by omega)
    have := of_decide_eq_false this
    omega

theorem v13 (p : PlanD) : obodyVC (ctxOf tab [(24, c24)]) Try.f13 c13 (a13 (p, ())) (p, ()) = (
(∃ (s01 : Nat),
(s01 ≤ p.snd.snd.fst.length ∧ noneOf (allLong p) s01) ∧
(↑s01 : Int) = (0 : Int) ∧
allUp p s01 = [] ∧
keepP p (True)) ∧
∀ (s1 : Nat),
lett (decide ((↑s1 : Int) < (↑p.snd.snd.fst.length : Int))) fun (y2 : Bool) =>
lett (allUp p s1 ++ fOf p (↑s1 : Int)) fun (y3 : List (RoadD)) =>
lett (decide ((↑y3.length : Int) > (64 : Int))) fun (y4 : Bool) =>
s1 ≤ p.snd.snd.fst.length ∧ noneOf (allLong p) s1 →
(y2 = true →
True ∧
roomFor ((allUp p s1).length + (fOf p (↑s1 : Int)).length) (152 : Nat) ∧
(y4 = true → [] = (fAll p).fst ∧ (3 : Int) = (fAll p).snd ∧ True) ∧
(y4 = false →
InR IntKind.i64 ((↑s1 : Int) + (1 : Int)) ∧
∃ (s'5 : Nat),
(s'5 ≤ p.snd.snd.fst.length ∧ noneOf (allLong p) s'5) ∧
p.snd.snd.fst.length - s'5 < p.snd.snd.fst.length - s1 ∧
(↑s'5 : Int) = (↑s1 : Int) + (1 : Int) ∧
allUp p s'5 = y3 ∧
keepP p (True))) ∧
(y2 = false → allUp p s1 = (fAll p).fst ∧ (0 : Int) = (fAll p).snd ∧ True)) := by kernel_rfl

theorem b13 (p : PlanD) (hl : p.2.2.1.length ≤ 1000) : obodyVC (ctxOf tab [(24, c24)]) Try.f13 c13 (a13 (p, ())) (p, ()) := by
  have hA : fAll p = bif anyTo (allLong p) p.2.2.1.length then ([], 3) else (allUp p p.2.2.1.length, 0) := by unfold fAll; rfl
  rw [v13]
  simp only [keepP_eq, true_and, and_true, Int.toNat_natCast]
  refine ⟨⟨0, ⟨by omega, rfl⟩, rfl, by unfold allUp; rfl⟩, fun s => lett.mk fun y2 e2 => lett.mk fun y3 e3 => lett.mk fun y4 e4 => ?_⟩
  rintro ⟨h1, h2⟩
  have h2 : anyTo (allLong p) s = false := h2
  have hl2 := all_up_len h2
  have hol := of_len p s
  have e3 : y3 = allUp p (s + 1) := by rw [all_up_succ]; exact e3
  have e4 : allLong p s = y4 := by
    rw [e4, gtN _ 64 64 rfl, e3]
    unfold allLong
    by_cases h : (allUp p (s + 1)).length ≤ 64
    · rw [decide_eq_true h, decide_eq_false (by omega)]; rfl
    · rw [decide_eq_false h, decide_eq_true (by omega)]; rfl
  refine ⟨fun h => ?_, fun h => ?_⟩
  · have h := lt_of_y e2 h
    refine ⟨roomB (by omega) (by omega), fun h4 => ?_, fun h4 => ⟨inR64 (by omega) (by omega), s + 1, ⟨by omega, ?_⟩, by omega, by omega, e3.symm⟩⟩
    · rw [hA, anyTo_yes h (by rw [e4, h4])]
      exact ⟨rfl, rfl⟩
    · exact anyTo_succ h2 (by rw [e4, h4])
  · have hle := le_of_y e2 h
    have : s = p.2.2.1.length := by omega
    subst this
    rw [hA, h2]
    exact ⟨rfl, rfl⟩

theorem ok13 : OOk Try.prog 13 c13 :=
  OOk.of' (l := [(24, c24)]) (A := a13) tabOk ⟨ok24, trivial⟩ Try.func13 (by kernel_rfl) (by kernel_rfl) fun x _ hp => b13 x.1 hp

/-! ### What could come in -/

theorem ports_on_succ {p : PlanD} {l : List PortD} {s : Nat} (h : s < l.length) : portsOn p (l.take (s + 1)) = portsOn p (l.take s) ++ (bif (fNext p (l.getD s (0, 0))).2 then [l.getD s (0, 0)] else []) := by
  unfold portsOn
  rw [take_succ' (0, 0) h, List.filter_append]
  congr 1

theorem ports_up_succ {p : PlanD} {r : RoadD} {s : Nat} (h : s < r.2.2.2.1.length) : portsUp p r (s + 1) = portsUp p r s ++ portsOn p (portsAt p (r.2.2.2.1.getD s zSt)) := by
  unfold portsUp
  exact flat_succ _ zSt h

theorem ports_at_len (p : PlanD) (s : StepD) : (portsAt p s).length ≤ 2 := by
  unfold portsAt
  cases fKind p s.1 == 2 <;> cases fKind p s.1 == 3 <;> simp

theorem ports_on_len (p : PlanD) (l : List PortD) : (portsOn p l).length ≤ l.length := by
  unfold portsOn
  exact List.length_filter_le _ _

theorem ports_up_len (p : PlanD) (r : RoadD) : ∀ k, k ≤ r.2.2.2.1.length → (portsUp p r k).length ≤ 2 * k
  | 0, _ => by unfold portsUp; simp
  | k + 1, h => by
    rw [ports_up_succ (by omega), List.length_append]
    have h1 := ports_up_len p r k (by omega)
    have h2 := ports_on_len p (portsAt p (r.2.2.2.1.getD k zSt))
    have h3 := ports_at_len p (r.2.2.2.1.getD k zSt)
    omega

theorem v25 (p : PlanD) (r : RoadD) : bodyVC (ctxOf tab [(40, c40), (31, c31)]) Try.f25 c25 (a25 (p, r, ())) (p, r, ()) = (
(∃ (s02 : Nat),
s02 ≤ r.snd.snd.snd.fst.length ∧
(↑s02 : Int) = (0 : Int) ∧
portsUp p r s02 = [] ∧
keepP p (keepP r (True))) ∧
∀ (s2 : Nat),
lett (decide ((↑s2 : Int) < (↑r.snd.snd.snd.fst.length : Int))) fun (y3 : Bool) =>
lett (r.snd.snd.snd.fst.getD (↑s2 : Int).toNat ((0 : Int), (0 : Int), (0 : Int))) fun (y4 : Int × Int × Int) =>
lett (fKind p y4.fst == (2 : Int)) fun (y5 : Bool) =>
lett ((3 : Int) - max y4.snd.fst y4.snd.snd) fun (y6 : Int) =>
lett ((List.replicate (1 : Nat) ((0 : Int), (0 : Int))).set (0 : Nat) (y4.fst, y6)) fun (y7 : List (Int × Int)) =>
lett (portsAt p (r.snd.snd.snd.fst.getD (↑s2 : Int).toNat zSt)) fun (y8 : List PortD) =>
lett (portsUp p r (↑s2 : Int).toNat) fun (y9 : List PortD) =>
lett (fKind p y4.fst == (3 : Int)) fun (y10 : Bool) =>
lett (bif decide (y4.snd.fst ≥ (2 : Int)) then (0 : Int) else (2 : Int)) fun (y11 : Int) =>
lett (((List.replicate (2 : Nat) ((0 : Int), (0 : Int))).set (0 : Nat) (y4.fst, y11)).set (1 : Nat) (y4.fst, y11 + (1 : Int))) fun (y12 : List (Int × Int)) =>
s2 ≤ r.snd.snd.snd.fst.length →
(y3 = true →
InB (↑s2 : Int) r.snd.snd.snd.fst.length ∧
True ∧
(y5 = true →
InR IntKind.i64 y6 ∧
roomFor y7.length (16 : Nat) ∧
(∃ (s013 : Nat),
s013 ≤ y8.length ∧
(↑s013 : Int) = (0 : Int) ∧
(↑s2 : Int) = (↑s2 : Int) ∧
y9 ++ portsOn p (List.take s013 y8) = portsUp p r s2 ∧
y8 = y7 ∧
keepP p (keepP r (True))) ∧
∀ (s13 : Nat),
lett (decide ((↑s13 : Int) < (↑y8.length : Int))) fun (y14 : Bool) =>
lett (y8.getD (↑s13 : Int).toNat ((0 : Int), (0 : Int))) fun (y15 : Int × Int) =>
lett (y9 ++ portsOn p (List.take s13 y8)) fun (y16 : List PortD) =>
lett ((List.replicate (1 : Nat) ((0 : Int), (0 : Int))).set (0 : Nat) y15) fun (y17 : List (Int × Int)) =>
s13 ≤ y8.length →
(y14 = true →
InB (↑s13 : Int) y8.length ∧
True ∧
((fNext p y15).snd = true →
InB (↑s13 : Int) y8.length ∧
roomFor (y16.length + y17.length) (16 : Nat) ∧
InR IntKind.i64 ((↑s13 : Int) + (1 : Int)) ∧
∃ (s'18 : Nat),
s'18 ≤ y8.length ∧
y8.length - s'18 < y8.length - s13 ∧
(↑s'18 : Int) = (↑s13 : Int) + (1 : Int) ∧
(↑s2 : Int) = (↑s2 : Int) ∧
y9 ++ portsOn p (List.take s'18 y8) = y16 ++ y17 ∧
y8 = y8 ∧
keepP p (keepP r (True))) ∧
((fNext p y15).snd = false →
InR IntKind.i64 ((↑s13 : Int) + (1 : Int)) ∧
∃ (s'18 : Nat),
s'18 ≤ y8.length ∧
y8.length - s'18 < y8.length - s13 ∧
(↑s'18 : Int) = (↑s13 : Int) + (1 : Int) ∧
(↑s2 : Int) = (↑s2 : Int) ∧
y9 ++ portsOn p (List.take s'18 y8) = y16 ∧
y8 = y8 ∧
keepP p (keepP r (True)))) ∧
(y14 = false →
InR IntKind.i64 ((↑s2 : Int) + (1 : Int)) ∧
∃ (s'18 : Nat),
s'18 ≤ r.snd.snd.snd.fst.length ∧
r.snd.snd.snd.fst.length - s'18 < r.snd.snd.snd.fst.length - s2 ∧
(↑s'18 : Int) = (↑s2 : Int) + (1 : Int) ∧
portsUp p r s'18 = y16 ∧
keepP p (keepP r (True)))) ∧
(y5 = false →
(y10 = true →
InR IntKind.i64 (y11 + (1 : Int)) ∧
roomFor y12.length (16 : Nat) ∧
(∃ (s013 : Nat),
s013 ≤ y8.length ∧
(↑s013 : Int) = (0 : Int) ∧
(↑s2 : Int) = (↑s2 : Int) ∧
y9 ++ portsOn p (List.take s013 y8) = portsUp p r s2 ∧
y8 = y12 ∧
keepP p (keepP r (True))) ∧
∀ (s13 : Nat),
lett (decide ((↑s13 : Int) < (↑y8.length : Int))) fun (y14 : Bool) =>
lett (y8.getD (↑s13 : Int).toNat ((0 : Int), (0 : Int))) fun (y15 : Int × Int) =>
lett (y9 ++ portsOn p (List.take s13 y8)) fun (y16 : List PortD) =>
lett ((List.replicate (1 : Nat) ((0 : Int), (0 : Int))).set (0 : Nat) y15) fun (y17 : List (Int × Int)) =>
s13 ≤ y8.length →
(y14 = true →
InB (↑s13 : Int) y8.length ∧
True ∧
((fNext p y15).snd = true →
InB (↑s13 : Int) y8.length ∧
roomFor (y16.length + y17.length) (16 : Nat) ∧
InR IntKind.i64 ((↑s13 : Int) + (1 : Int)) ∧
∃ (s'18 : Nat),
s'18 ≤ y8.length ∧
y8.length - s'18 < y8.length - s13 ∧
(↑s'18 : Int) = (↑s13 : Int) + (1 : Int) ∧
(↑s2 : Int) = (↑s2 : Int) ∧
y9 ++ portsOn p (List.take s'18 y8) = y16 ++ y17 ∧
y8 = y8 ∧
keepP p (keepP r (True))) ∧
((fNext p y15).snd = false →
InR IntKind.i64 ((↑s13 : Int) + (1 : Int)) ∧
∃ (s'18 : Nat),
s'18 ≤ y8.length ∧
y8.length - s'18 < y8.length - s13 ∧
(↑s'18 : Int) = (↑s13 : Int) + (1 : Int) ∧
(↑s2 : Int) = (↑s2 : Int) ∧
y9 ++ portsOn p (List.take s'18 y8) = y16 ∧
y8 = y8 ∧
keepP p (keepP r (True)))) ∧
(y14 = false →
InR IntKind.i64 ((↑s2 : Int) + (1 : Int)) ∧
∃ (s'18 : Nat),
s'18 ≤ r.snd.snd.snd.fst.length ∧
r.snd.snd.snd.fst.length - s'18 < r.snd.snd.snd.fst.length - s2 ∧
(↑s'18 : Int) = (↑s2 : Int) + (1 : Int) ∧
portsUp p r s'18 = y16 ∧
keepP p (keepP r (True)))) ∧
(y10 = false →
(∃ (s013 : Nat),
s013 ≤ y8.length ∧
(↑s013 : Int) = (0 : Int) ∧
(↑s2 : Int) = (↑s2 : Int) ∧
y9 ++ portsOn p (List.take s013 y8) = portsUp p r s2 ∧
y8 = [] ∧
keepP p (keepP r (True))) ∧
∀ (s13 : Nat),
lett (decide ((↑s13 : Int) < (↑y8.length : Int))) fun (y14 : Bool) =>
lett (y8.getD (↑s13 : Int).toNat ((0 : Int), (0 : Int))) fun (y15 : Int × Int) =>
lett (y9 ++ portsOn p (List.take s13 y8)) fun (y16 : List PortD) =>
lett ((List.replicate (1 : Nat) ((0 : Int), (0 : Int))).set (0 : Nat) y15) fun (y17 : List (Int × Int)) =>
s13 ≤ y8.length →
(y14 = true →
InB (↑s13 : Int) y8.length ∧
True ∧
((fNext p y15).snd = true →
InB (↑s13 : Int) y8.length ∧
roomFor (y16.length + y17.length) (16 : Nat) ∧
InR IntKind.i64 ((↑s13 : Int) + (1 : Int)) ∧
∃ (s'18 : Nat),
s'18 ≤ y8.length ∧
y8.length - s'18 < y8.length - s13 ∧
(↑s'18 : Int) = (↑s13 : Int) + (1 : Int) ∧
(↑s2 : Int) = (↑s2 : Int) ∧
y9 ++ portsOn p (List.take s'18 y8) = y16 ++ y17 ∧
y8 = y8 ∧
keepP p (keepP r (True))) ∧
((fNext p y15).snd = false →
InR IntKind.i64 ((↑s13 : Int) + (1 : Int)) ∧
∃ (s'18 : Nat),
s'18 ≤ y8.length ∧
y8.length - s'18 < y8.length - s13 ∧
(↑s'18 : Int) = (↑s13 : Int) + (1 : Int) ∧
(↑s2 : Int) = (↑s2 : Int) ∧
y9 ++ portsOn p (List.take s'18 y8) = y16 ∧
y8 = y8 ∧
keepP p (keepP r (True)))) ∧
(y14 = false →
InR IntKind.i64 ((↑s2 : Int) + (1 : Int)) ∧
∃ (s'18 : Nat),
s'18 ≤ r.snd.snd.snd.fst.length ∧
r.snd.snd.snd.fst.length - s'18 < r.snd.snd.snd.fst.length - s2 ∧
(↑s'18 : Int) = (↑s2 : Int) + (1 : Int) ∧
portsUp p r s'18 = y16 ∧
keepP p (keepP r (True)))))) ∧
(y3 = false → portsUp p r s2 = fPorts p r ∧ True)) := by kernel_rfl

theorem ports_inner {p : PlanD} {r : RoadD} {s j : Nat} {y8 y9 y16 : List PortD} {y14 : Bool} {y15 : PortD} {y17 : List PortD} (hl : r.2.2.2.1.length ≤ 1000) (hs : s < r.2.2.2.1.length)
    (e8 : y8 = portsAt p (r.2.2.2.1.getD s zSt)) (e9 : y9 = portsUp p r s) (hj : j ≤ y8.length)
    (e14 : y14 = decide ((j : Int) < (y8.length : Int))) (e15 : y15 = y8.getD j (0, 0)) (e16 : y16 = y9 ++ portsOn p (y8.take j)) (e17 : y17 = [y15]) :
    (y14 = true → InB (j : Int) y8.length ∧
      ((fNext p y15).2 = true → InB (j : Int) y8.length ∧ roomFor (y16.length + y17.length) 16 ∧ InR IntKind.i64 ((j : Int) + 1) ∧
        ∃ s', s' ≤ y8.length ∧ y8.length - s' < y8.length - j ∧ (s' : Int) = (j : Int) + 1 ∧ y9 ++ portsOn p (y8.take s') = y16 ++ y17) ∧
      ((fNext p y15).2 = false → InR IntKind.i64 ((j : Int) + 1) ∧
        ∃ s', s' ≤ y8.length ∧ y8.length - s' < y8.length - j ∧ (s' : Int) = (j : Int) + 1 ∧ y9 ++ portsOn p (y8.take s') = y16)) ∧
    (y14 = false → InR IntKind.i64 ((s : Int) + 1) ∧ ∃ s', s' ≤ r.2.2.2.1.length ∧ r.2.2.2.1.length - s' < r.2.2.2.1.length - s ∧ (s' : Int) = (s : Int) + 1 ∧ portsUp p r s' = y16) := by
  have hl8 : y8.length ≤ 2 := by rw [e8]; exact ports_at_len _ _
  have hl9 : y9.length ≤ 2 * s := by rw [e9]; exact ports_up_len p r s (by omega)
  have hl16 : y16.length ≤ 4000 := by
    have := ports_on_len p (y8.take j)
    rw [List.length_take] at this
    rw [e16, List.length_append]
    omega
  refine ⟨fun h => ?_, fun h => ?_⟩
  · have h := lt_of_y e14 h
    have hsucc := ports_on_succ (p := p) h
    rw [← e15] at hsucc
    refine ⟨⟨by omega, by omega⟩, fun hn => ⟨⟨by omega, by omega⟩, roomB (by rw [e17]; simp; omega) (by omega), inR64 (by omega) (by omega), j + 1, by omega, by omega, by omega, ?_⟩, fun hn => ⟨inR64 (by omega) (by omega), j + 1, by omega, by omega, by omega, ?_⟩⟩
    · rw [hsucc, hn, e16, e17, List.append_assoc]
      rfl
    · rw [hsucc, hn, e16, cond_false, List.append_nil]
  · refine ⟨inR64 (by omega) (by omega), s + 1, by omega, by omega, by omega, ?_⟩
    rw [ports_up_succ hs, ← e8, ← e9, e16, take_all e14 h]

theorem b25 (p : PlanD) (r : RoadD) (hp : stepsOk r) : bodyVC (ctxOf tab [(40, c40), (31, c31)]) Try.f25 c25 (a25 (p, r, ())) (p, r, ()) := by
  obtain ⟨hl, hst⟩ := hp
  rw [v25]
  simp only [keepP_eq, true_and, and_true, Int.toNat_natCast]
  refine ⟨⟨0, by omega, rfl, by unfold portsUp; rfl⟩, fun s => lett.mk fun y3 e3 => lett.mk fun y4 e4 => lett.mk fun y5 e5 => lett.mk fun y6 e6 => lett.mk fun y7 e7 => lett.mk fun y8 e8 => lett.mk fun y9 e9 => lett.mk fun y10 e10 => lett.mk fun y11 e11 => lett.mk fun y12 e12 => ?_⟩
  intro hs
  have e4 : y4 = r.2.2.2.1.getD s zSt := e4
  have hP : y8 = bif y5 then [(y4.1, 3 - max y4.2.1 y4.2.2)] else bif y10 then [(y4.1, crossOf y4), (y4.1, crossOf y4 + 1)] else [] := by
    rw [e8, ← e4, e5, e10]
    unfold portsAt
    rfl
  refine ⟨fun h => ?_, fun h => ?_⟩
  · have h := lt_of_y e3 h
    obtain ⟨⟨q1, q2⟩, q3, q4⟩ := hst y4 (by rw [e4]; exact mem_getD zSt h)
    have e7 : y7 = [(y4.1, y6)] := e7
    have e12 : y12 = [(y4.1, y11), (y4.1, y11 + 1)] := e12
    have e11 : y11 = crossOf y4 := e11
    have hc : crossOf y4 = 0 ∨ crossOf y4 = 2 := by
      unfold crossOf
      cases decide (2 ≤ y4.2.1)
      · exact .inr rfl
      · exact .inl rfl
    have h0 : y9 ++ portsOn p (List.take 0 y8) = portsUp p r s := by
      rw [e9]
      unfold portsOn
      simp
    refine ⟨⟨by omega, by omega⟩, fun h5 => ⟨inR64 (by omega) (by omega), roomB (by rw [e7]; simp) (by omega), ⟨0, by omega, rfl, h0, by rw [hP, h5, e7, e6]; rfl⟩, fun j => lett.mk fun y14 e14 => lett.mk fun y15 e15 => lett.mk fun y16 e16 => lett.mk fun y17 e17 => fun hj => ports_inner hl h e8 e9 hj e14 e15 e16 e17⟩, fun h5 => ⟨fun h10 => ⟨inR64 (by omega) (by omega), roomB (by rw [e12]; simp) (by omega), ⟨0, by omega, rfl, h0, by rw [hP, h5, h10, e12, e11]; rfl⟩, fun j => lett.mk fun y14 e14 => lett.mk fun y15 e15 => lett.mk fun y16 e16 => lett.mk fun y17 e17 => fun hj => ports_inner hl h e8 e9 hj e14 e15 e16 e17⟩, fun h10 => ⟨⟨0, by omega, rfl, h0, by rw [hP, h5, h10]; rfl⟩, fun j => lett.mk fun y14 e14 => lett.mk fun y15 e15 => lett.mk fun y16 e16 => lett.mk fun y17 e17 => fun hj => ports_inner hl h e8 e9 hj e14 e15 e16 e17⟩⟩⟩
  · have hle := le_of_y e3 h
    have : s = r.2.2.2.1.length := by omega
    subst this
    unfold fPorts
    rfl

theorem ok25 : DOk Try.prog 25 c25 :=
  DOk.of' (l := [(40, c40), (31, c31)]) (A := a25) tabOk ⟨ok40, ok31, trivial⟩ Try.func25 (by kernel_rfl) (by kernel_rfl) fun x _ hp => b25 x.1 x.2.1 hp

end Ytpnnfimacblhgaa
end Go.Proofs
