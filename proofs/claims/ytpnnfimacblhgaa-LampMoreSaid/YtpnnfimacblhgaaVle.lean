/-
  The reference's check of plans: written out and proved.
-/
import Derived.Test.YtpnnfimacblhgaaVld
set_option maxRecDepth 100000
set_option linter.unusedVariables false
set_option linter.unusedSimpArgs false
set_option maxHeartbeats 2000000
namespace Go.Proofs
open Go Go.Vc
namespace Ytpnnfimacblhgaa

theorem v17 (p : PlanD) : bodyVC (ctxOf tab []) Try.f17 c17 (a17 (p, ())) (p, ()) = (
lett ([], ((0 : Int), (0 : Int)), false) fun (y1 : List UInt8 × (Int × Int) × Bool) =>
(∃ (s02 : Nat),
s02 ≤ p.fst.length ∧
(↑s02 : Int) = (0 : Int) ∧
List.map (fun (e : ElemD) => e.fst) (List.take s02 p.fst) = [] ∧
keepP p (True)) ∧
∀ (s2 : Nat),
lett (decide ((↑s2 : Int) < (↑p.fst.length : Int))) fun (y3 : Bool) =>
lett (List.map (fun (e : ElemD) => e.fst) (List.take s2 p.fst)) fun (y4 : List (List UInt8)) =>
lett ((List.replicate (1 : Nat) []).set (0 : Nat) (p.fst.getD (↑s2 : Int).toNat ([], (0 : Int), (0 : Int))).fst) fun (y5 : List (List UInt8)) =>
s2 ≤ p.fst.length →
(y3 = true →
InB (↑s2 : Int) p.fst.length ∧
roomFor (y4.length + y5.length) (16 : Nat) ∧
InR IntKind.i64 ((↑s2 : Int) + (1 : Int)) ∧
∃ (s'6 : Nat),
s'6 ≤ p.fst.length ∧
p.fst.length - s'6 < p.fst.length - s2 ∧
(↑s'6 : Int) = (↑s2 : Int) + (1 : Int) ∧
List.map (fun (e : ElemD) => e.fst) (List.take s'6 p.fst) = y4 ++ y5 ∧
keepP p (True)) ∧
(y3 = false →
(∃ (s06 : Nat),
s06 ≤ p.snd.snd.fst.length ∧
(↑s06 : Int) = (0 : Int) ∧
List.map (fun (e : SignalD) => e.fst) (List.take s06 p.snd.snd.fst) = [] ∧
keepP p (y4 = y4 ∧ True)) ∧
∀ (s6 : Nat),
lett (decide ((↑s6 : Int) < (↑p.snd.snd.fst.length : Int))) fun (y7 : Bool) =>
lett (List.map (fun (e : SignalD) => e.fst) (List.take s6 p.snd.snd.fst)) fun (y8 : List (List UInt8)) =>
lett ((List.replicate (1 : Nat) []).set (0 : Nat) (p.snd.snd.fst.getD (↑s6 : Int).toNat y1).fst) fun (y9 : List (List UInt8)) =>
s6 ≤ p.snd.snd.fst.length →
(y7 = true →
InB (↑s6 : Int) p.snd.snd.fst.length ∧
roomFor (y8.length + y9.length) (16 : Nat) ∧
InR IntKind.i64 ((↑s6 : Int) + (1 : Int)) ∧
∃ (s'10 : Nat),
s'10 ≤ p.snd.snd.fst.length ∧
p.snd.snd.fst.length - s'10 < p.snd.snd.fst.length - s6 ∧
(↑s'10 : Int) = (↑s6 : Int) + (1 : Int) ∧
List.map (fun (e : SignalD) => e.fst) (List.take s'10 p.snd.snd.fst) = y8 ++ y9 ∧
keepP p (y4 = y4 ∧ True)) ∧
(y7 = false →
(∃ (s010 : Nat),
s010 ≤ p.snd.snd.snd.fst.length ∧
(↑s010 : Int) = (0 : Int) ∧
List.map (fun (e : LineD) => e.fst) (List.take s010 p.snd.snd.snd.fst) = [] ∧
keepP p (y4 = y4 ∧ y8 = y8 ∧ True)) ∧
∀ (s10 : Nat),
lett (decide ((↑s10 : Int) < (↑p.snd.snd.snd.fst.length : Int))) fun (y11 : Bool) =>
lett (List.map (fun (e : LineD) => e.fst) (List.take s10 p.snd.snd.snd.fst)) fun (y12 : List (List UInt8)) =>
lett ((List.replicate (1 : Nat) []).set (0 : Nat) (p.snd.snd.snd.fst.getD (↑s10 : Int).toNat ([], [])).fst) fun (y13 : List (List UInt8)) =>
s10 ≤ p.snd.snd.snd.fst.length →
(y11 = true →
InB (↑s10 : Int) p.snd.snd.snd.fst.length ∧
roomFor (y12.length + y13.length) (16 : Nat) ∧
InR IntKind.i64 ((↑s10 : Int) + (1 : Int)) ∧
∃ (s'14 : Nat),
s'14 ≤ p.snd.snd.snd.fst.length ∧
p.snd.snd.snd.fst.length - s'14 < p.snd.snd.snd.fst.length - s10 ∧
(↑s'14 : Int) = (↑s10 : Int) + (1 : Int) ∧
List.map (fun (e : LineD) => e.fst) (List.take s'14 p.snd.snd.snd.fst) = y12 ++ y13 ∧
keepP p (y4 = y4 ∧ y8 = y8 ∧ True)) ∧
(y11 = false →
y4 = List.map (fun (e : ElemD) => e.fst) p.fst ∧
y8 = List.map (fun (s : SignalD) => s.fst) p.snd.snd.fst ∧ y12 = List.map (fun (l : LineD) => l.fst) p.snd.snd.snd.fst ∧ True)))) := by kernel_rfl

theorem b17 (p : PlanD) (hp : namesPre p) : bodyVC (ctxOf tab []) Try.f17 c17 (a17 (p, ())) (p, ()) := by
  obtain ⟨p1, p2, p3⟩ := hp
  rw [v17]
  refine lett.mk fun y1 e1 => ?_
  simp only [keepP_eq, true_and, and_true, Int.toNat_natCast]
  refine ⟨⟨0, by omega, rfl, rfl⟩, fun s => lett.mk fun y3 e3 => lett.mk fun y4 e4 => lett.mk fun y5 e5 => ?_⟩
  intro hs
  have e5 : y5 = [(p.1.getD s zE).1] := e5
  refine ⟨fun h => ?_, fun h => ?_⟩
  · have h := lt_of_y e3 h
    refine ⟨⟨by omega, by omega⟩, roomB (by rw [e4, e5]; simp; omega) (by omega), inR64 (by omega) (by omega), s + 1, by omega, by omega, by omega, ?_⟩
    rw [map_succ _ zE h, e4, e5]
  have a1 := take_all e3 h
  refine ⟨⟨0, by omega, rfl, rfl⟩, fun t => lett.mk fun y7 e7 => lett.mk fun y8 e8 => lett.mk fun y9 e9 => ?_⟩
  intro ht
  have e9 : y9 = [(p.2.2.1.getD t zS).1] := by rw [e9, e1]; rfl
  refine ⟨fun h => ?_, fun h => ?_⟩
  · have h := lt_of_y e7 h
    refine ⟨⟨by omega, by omega⟩, roomB (by rw [e8, e9]; simp; omega) (by omega), inR64 (by omega) (by omega), t + 1, by omega, by omega, by omega, ?_⟩
    rw [map_succ _ zS h, e8, e9]
  have a2 := take_all e7 h
  refine ⟨⟨0, by omega, rfl, rfl⟩, fun u => lett.mk fun y11 e11 => lett.mk fun y12 e12 => lett.mk fun y13 e13 => ?_⟩
  intro hu
  have e13 : y13 = [(p.2.2.2.1.getD u zL).1] := e13
  refine ⟨fun h => ?_, fun h => ?_⟩
  · have h := lt_of_y e11 h
    refine ⟨⟨by omega, by omega⟩, roomB (by rw [e12, e13]; simp; omega) (by omega), inR64 (by omega) (by omega), u + 1, by omega, by omega, by omega, ?_⟩
    rw [map_succ _ zL h, e12, e13]
  have a3 := take_all e11 h
  rw [e4, e8, e12, a1, a2, a3]
  exact ⟨rfl, rfl, rfl⟩

theorem ok17 : DOk Try.prog 17 c17 :=
  DOk.of' (l := []) (A := a17) tabOk trivial Try.func17 (by kernel_rfl) (by kernel_rfl) fun x _ hp => b17 x.1 hp

theorem v18 (p : PlanD) : bodyVC (ctxOf tab [(27, c27), (28, c28), (29, c29)]) Try.f18 c18 (a18 (p, ())) (p, ()) = (
lett (!fIn (1 : Int) (60 : Int) p.snd.snd.snd.snd.fst) fun (y1 : Bool) =>
lett (bif y1 then true else !fIn (1 : Int) (10 : Int) p.snd.snd.snd.snd.snd.fst) fun (y2 : Bool) =>
lett (bif y2 then true else !fIn (1 : Int) (4000 : Int) p.snd.snd.snd.snd.snd.snd.fst) fun (y3 : Bool) =>
lett (bif bif y3 then true else !fIn (1 : Int) (20 : Int) p.snd.snd.snd.snd.snd.snd.snd.fst then true else (↑p.fst.length : Int) == (0 : Int)) fun (y4 : Bool) =>
True ∧
(y1 = false → True) ∧
(y2 = false → True) ∧
(y3 = false → True) ∧
(y4 = true → false = fArgs p ∧ True) ∧
(y4 = false →
(∃ (s05 : Nat),
(s05 ≤ p.fst.length ∧ allT fElemOk p.fst s05) ∧
(↑s05 : Int) = (0 : Int) ∧
keepP p (True)) ∧
∀ (s5 : Nat),
lett (decide ((↑s5 : Int) < (↑p.fst.length : Int))) fun (y6 : Bool) =>
lett (p.fst.getD (↑s5 : Int).toNat ([], (0 : Int), (0 : Int))) fun (y7 : List UInt8 × Int × Int) =>
lett (bif bif !fName y7.fst then true else fEnds y7.snd.fst == (0 : Int) then true else bif y7.snd.fst == (4 : Int) then y7.snd.snd != (0 : Int) else false)
fun (y8 : Bool) =>
lett (bif y8 then true else bif y7.snd.fst != (4 : Int) then !fIn (1 : Int) (4000 : Int) y7.snd.snd else false) fun (y9 : Bool) =>
s5 ≤ p.fst.length ∧ allT fElemOk p.fst s5 →
(y6 = true →
InB (↑s5 : Int) p.fst.length ∧
True ∧
((!fName y7.fst) = false → True) ∧
(y8 = false → (y7.snd.fst != (4 : Int)) = true → True) ∧
(y9 = true → false = fArgs p ∧ True) ∧
(y9 = false →
InR IntKind.i64 ((↑s5 : Int) + (1 : Int)) ∧
∃ (s'10 : Nat),
(s'10 ≤ p.fst.length ∧ allT fElemOk p.fst s'10) ∧
p.fst.length - s'10 < p.fst.length - s5 ∧
(↑s'10 : Int) = (↑s5 : Int) + (1 : Int) ∧
keepP p (True))) ∧
(y6 = false →
(∃ (s010 : Nat),
(s010 ≤ p.snd.snd.fst.length ∧ allT sigName p.snd.snd.fst s010) ∧
(↑s010 : Int) = (0 : Int) ∧
keepP p (True)) ∧
∀ (s10 : Nat),
lett (decide ((↑s10 : Int) < (↑p.snd.snd.fst.length : Int))) fun (y11 : Bool) =>
lett (!fName (p.snd.snd.fst.getD (↑s10 : Int).toNat ([], ((0 : Int), (0 : Int)), false)).fst) fun (y12 : Bool) =>
s10 ≤ p.snd.snd.fst.length ∧ allT sigName p.snd.snd.fst s10 →
(y11 = true →
InB (↑s10 : Int) p.snd.snd.fst.length ∧
True ∧
(y12 = true → false = fArgs p ∧ True) ∧
(y12 = false →
InR IntKind.i64 ((↑s10 : Int) + (1 : Int)) ∧
∃ (s'13 : Nat),
(s'13 ≤ p.snd.snd.fst.length ∧ allT sigName p.snd.snd.fst s'13) ∧
p.snd.snd.fst.length - s'13 < p.snd.snd.fst.length - s10 ∧
(↑s'13 : Int) = (↑s10 : Int) + (1 : Int) ∧
keepP p (True))) ∧
(y11 = false →
(∃ (s013 : Nat),
(s013 ≤ p.snd.snd.snd.fst.length ∧ allT lineName p.snd.snd.snd.fst s013) ∧
(↑s013 : Int) = (0 : Int) ∧
keepP p (True)) ∧
∀ (s13 : Nat),
lett (decide ((↑s13 : Int) < (↑p.snd.snd.snd.fst.length : Int))) fun (y14 : Bool) =>
lett (!fName (p.snd.snd.snd.fst.getD (↑s13 : Int).toNat ([], [])).fst) fun (y15 : Bool) =>
s13 ≤ p.snd.snd.snd.fst.length ∧ allT lineName p.snd.snd.snd.fst s13 →
(y14 = true →
InB (↑s13 : Int) p.snd.snd.snd.fst.length ∧
True ∧
(y15 = true → false = fArgs p ∧ True) ∧
(y15 = false →
InR IntKind.i64 ((↑s13 : Int) + (1 : Int)) ∧
∃ (s'16 : Nat),
(s'16 ≤ p.snd.snd.snd.fst.length ∧ allT lineName p.snd.snd.snd.fst s'16) ∧
p.snd.snd.snd.fst.length - s'16 < p.snd.snd.snd.fst.length - s13 ∧
(↑s'16 : Int) = (↑s13 : Int) + (1 : Int) ∧
keepP p (True))) ∧
(y14 = false → true = fArgs p ∧ True))))) := by kernel_rfl

theorem elem_key : ∀ n z g l0 f : Bool, (n && (!z && (bif g then l0 else f))) = !(bif (bif (bif !n then true else z) then true else (bif g then !l0 else false)) then true else (bif !g then !f else false)) := by decide

theorem b18 (p : PlanD) (hw : planWf p) : bodyVC (ctxOf tab [(27, c27), (28, c28), (29, c29)]) Try.f18 c18 (a18 (p, ())) (p, ()) := by
  rw [v18]
  refine lett.mk fun y1 e1 => lett.mk fun y2 e2 => lett.mk fun y3 e3 => lett.mk fun y4 e4 => ?_
  simp only [keepP_eq, true_and, and_true, Int.toNat_natCast]
  have hN : fNums p = !y4 := by
    rw [e4, e3, e2, e1, eqN' _ 0 0 rfl]
    unfold fNums
    have key : ∀ a b c d e : Bool, (a && (b && (c && (d && !e)))) = !(bif (bif (bif (bif !a then true else !b) then true else !c) then true else !d) then true else e) := by decide
    exact key _ _ _ _ _
  refine ⟨fun _ => trivial, fun _ => trivial, fun _ => trivial, fun h => ?_, fun h => ?_⟩
  · unfold fArgs
    rw [hN, h]
    rfl
  have hA : fArgs p = (p.1.all fElemOk && (p.2.2.1.all sigName && p.2.2.2.1.all lineName)) := by
    unfold fArgs
    rw [hN, h]
    rfl
  rw [hA]
  refine ⟨⟨0, ⟨by omega, rfl⟩, rfl⟩, fun s => lett.mk fun y6 e6 => lett.mk fun y7 e7 => lett.mk fun y8 e8 => lett.mk fun y9 e9 => ?_⟩
  rintro ⟨h1, h2⟩
  have h2 : (p.1.take s).all fElemOk = true := h2
  have e7 : y7 = p.1.getD s zE := e7
  have hE : fElemOk y7 = !y9 := by
    rw [e9, e8, bneB, bneB]
    unfold fElemOk
    exact elem_key _ _ _ _ _
  refine ⟨fun h => ?_, fun h => ?_⟩
  · have h := lt_of_y e6 h
    refine ⟨⟨by omega, by omega⟩, fun _ => trivial, fun _ _ => trivial, fun h9 => ?_, fun h9 => ⟨inRlen h hw.1, s + 1, ⟨by omega, ?_⟩, by omega, by omega⟩⟩
    · rw [all_no zE h (by rw [← e7, hE, h9]; rfl)]
      rfl
    · exact all_succ zE h h2 (by rw [← e7, hE, h9]; rfl)
  rw [all_full (le_of_y e6 h) h2, Bool.true_and]
  refine ⟨⟨0, ⟨by omega, rfl⟩, rfl⟩, fun t => lett.mk fun y11 e11 => lett.mk fun y12 e12 => ?_⟩
  rintro ⟨h1, h2⟩
  have h2 : (p.2.2.1.take t).all sigName = true := h2
  have e12 : sigName (p.2.2.1.getD t zS) = !y12 := by rw [e12, Bool.not_not]; rfl
  refine ⟨fun h => ?_, fun h => ?_⟩
  · have h := lt_of_y e11 h
    refine ⟨⟨by omega, by omega⟩, fun h9 => ?_, fun h9 => ⟨inRlen h hw.2.2.1, t + 1, ⟨by omega, ?_⟩, by omega, by omega⟩⟩
    · rw [all_no zS h (by rw [e12, h9]; rfl)]
      rfl
    · exact all_succ zS h h2 (by rw [e12, h9]; rfl)
  rw [all_full (le_of_y e11 h) h2, Bool.true_and]
  refine ⟨⟨0, ⟨by omega, rfl⟩, rfl⟩, fun u => lett.mk fun y14 e14 => lett.mk fun y15 e15 => ?_⟩
  rintro ⟨h1, h2⟩
  have h2 : (p.2.2.2.1.take u).all lineName = true := h2
  have e15 : lineName (p.2.2.2.1.getD u zL) = !y15 := by rw [e15, Bool.not_not]; rfl
  refine ⟨fun h => ?_, fun h => ?_⟩
  · have h := lt_of_y e14 h
    refine ⟨⟨by omega, by omega⟩, fun h9 => ?_, fun h9 => ⟨inRlen h hw.2.2.2, u + 1, ⟨by omega, ?_⟩, by omega, by omega⟩⟩
    · rw [all_no zL h (by rw [e15, h9]; rfl)]
    · exact all_succ zL h h2 (by rw [e15, h9]; rfl)
  rw [all_full (le_of_y e14 h) h2]

theorem ok18 : DOk Try.prog 18 c18 :=
  DOk.of' (l := [(27, c27), (28, c28), (29, c29)]) (A := a18) tabOk ⟨ok27, ok28, ok29, trivial⟩ Try.func18 (by kernel_rfl) (by kernel_rfl) fun x hw hp => b18 x.1 (plan_wf hw.1)

theorem args_nums {p : PlanD} (h : fArgs p = true) : fNums p = true := by
  unfold fArgs at h
  rw [Bool.and_eq_true] at h
  exact h.1

theorem v20 (p : PlanD) : bodyVC (ctxOf tab [(30, c30), (31, c31), (32, c32)]) Try.f20 c20 (a20 (p, ())) (p, ()) = (
lett (((0 : Int), (0 : Int)), (0 : Int), (0 : Int)) fun (y1 : (Int × Int) × Int × Int) =>
(∃ (s02 : Nat),
s02 ≤ p.snd.fst.length ∧
(↑s02 : Int) = (0 : Int) ∧
List.flatMap (fun (j : JoinD) => [j.fst, j.snd]) (List.take s02 p.snd.fst) = [] ∧
keepP p (True)) ∧
∀ (s2 : Nat),
lett (decide ((↑s2 : Int) < (↑p.snd.fst.length : Int))) fun (y3 : Bool) =>
lett (List.flatMap (fun (j : JoinD) => [j.fst, j.snd]) (List.take s2 p.snd.fst)) fun (y4 : List (Int × Int)) =>
lett (p.snd.fst.getD (↑s2 : Int).toNat y1) fun (y5 : (Int × Int) × Int × Int) =>
lett (((List.replicate (2 : Nat) ((0 : Int), (0 : Int))).set (0 : Nat) y5.fst).set (1 : Nat) y5.snd) fun (y6 : List (Int × Int)) =>
s2 ≤ p.snd.fst.length →
(y3 = true →
InB (↑s2 : Int) p.snd.fst.length ∧
InB (↑s2 : Int) p.snd.fst.length ∧
roomFor (y4.length + y6.length) (16 : Nat) ∧
InR IntKind.i64 ((↑s2 : Int) + (1 : Int)) ∧
∃ (s'7 : Nat),
s'7 ≤ p.snd.fst.length ∧
p.snd.fst.length - s'7 < p.snd.fst.length - s2 ∧
(↑s'7 : Int) = (↑s2 : Int) + (1 : Int) ∧
List.flatMap (fun (j : JoinD) => [j.fst, j.snd]) (List.take s'7 p.snd.fst) = y4 ++ y6 ∧
keepP p (True)) ∧
(y3 = false →
(∃ (s07 : Nat),
(s07 ≤ (joinEnds p).length ∧ allOf (endOk p) s07) ∧
(↑s07 : Int) = (0 : Int) ∧
keepP p (y4 = y4 ∧ True)) ∧
∀ (s7 : Nat),
lett (decide ((↑s7 : Int) < (↑y4.length : Int))) fun (y8 : Bool) =>
lett (y4.getD (↑s7 : Int).toNat ((0 : Int), (0 : Int))) fun (y9 : Int × Int) =>
s7 ≤ (joinEnds p).length ∧ allOf (endOk p) s7 →
(y8 = true →
InB (↑s7 : Int) y4.length ∧
True ∧
((!fHas p y9) = true → false = fJoined p ∧ True) ∧
((!fHas p y9) = false →
(∃ (s010 : Nat),
(s010 ≤ (↑s7 : Int).toNat ∧ noneOf (sameEnd p (↑s7 : Int).toNat) s010) ∧
(↑s010 : Int) = (0 : Int) ∧
(↑s7 : Int) = (↑s7 : Int) ∧
keepP p (y4 = y4 ∧ True)) ∧
∀ (s10 : Nat),
lett (decide ((↑s10 : Int) < (↑s7 : Int))) fun (y11 : Bool) =>
lett (y4.getD (↑s10 : Int).toNat ((0 : Int), (0 : Int))) fun (y12 : Int × Int) =>
lett (y12.fst == y9.fst && (y12.snd == y9.snd && true)) fun (y13 : Bool) =>
s10 ≤ (↑s7 : Int).toNat ∧ noneOf (sameEnd p (↑s7 : Int).toNat) s10 →
(y11 = true →
InB (↑s10 : Int) y4.length ∧
InB (↑s7 : Int) y4.length ∧
(y13 = true → false = fJoined p ∧ True) ∧
(y13 = false →
InR IntKind.i64 ((↑s10 : Int) + (1 : Int)) ∧
∃ (s'14 : Nat),
(s'14 ≤ (↑s7 : Int).toNat ∧ noneOf (sameEnd p (↑s7 : Int).toNat) s'14) ∧
(↑s7 : Int).toNat - s'14 < (↑s7 : Int).toNat - s10 ∧
(↑s'14 : Int) = (↑s10 : Int) + (1 : Int) ∧
(↑s7 : Int) = (↑s7 : Int) ∧
keepP p (y4 = y4 ∧ True))) ∧
(y11 = false →
InR IntKind.i64 ((↑s7 : Int) + (1 : Int)) ∧
∃ (s'14 : Nat),
(s'14 ≤ (joinEnds p).length ∧ allOf (endOk p) s'14) ∧
(joinEnds p).length - s'14 < (joinEnds p).length - s7 ∧
(↑s'14 : Int) = (↑s7 : Int) + (1 : Int) ∧
keepP p (y4 = y4 ∧ True)))) ∧
(y8 = false →
(∃ (s010 : Nat),
(s010 ≤ p.fst.length ∧ allOf (gateOk p) s010) ∧
(↑s010 : Int) = (0 : Int) ∧
keepP p (True)) ∧
∀ (s10 : Nat),
lett (decide ((↑s10 : Int) < (↑p.fst.length : Int))) fun (y11 : Bool) =>
lett ((p.fst.getD (↑s10 : Int).toNat ([], (0 : Int), (0 : Int))).snd.fst == (4 : Int)) fun (y12 : Bool) =>
lett (fNext p ((↑s10 : Int), (0 : Int))) fun (y13 : PortD × Bool) =>
lett (bif !y13.snd then true else fKind p y13.fst.fst == (4 : Int)) fun (y14 : Bool) =>
s10 ≤ p.fst.length ∧ allOf (gateOk p) s10 →
(y11 = true →
InB (↑s10 : Int) p.fst.length ∧
(y12 = true →
True ∧
((!y13.snd) = false → True) ∧
(y14 = true → false = fJoined p ∧ True) ∧
(y14 = false →
InR IntKind.i64 ((↑s10 : Int) + (1 : Int)) ∧
∃ (s'15 : Nat),
(s'15 ≤ p.fst.length ∧ allOf (gateOk p) s'15) ∧
p.fst.length - s'15 < p.fst.length - s10 ∧
(↑s'15 : Int) = (↑s10 : Int) + (1 : Int) ∧
keepP p (True))) ∧
(y12 = false →
InR IntKind.i64 ((↑s10 : Int) + (1 : Int)) ∧
∃ (s'15 : Nat),
(s'15 ≤ p.fst.length ∧ allOf (gateOk p) s'15) ∧
p.fst.length - s'15 < p.fst.length - s10 ∧
(↑s'15 : Int) = (↑s10 : Int) + (1 : Int) ∧
keepP p (True))) ∧
(y11 = false → true = fJoined p ∧ True)))) := by kernel_rfl

theorem b20 (p : PlanD) (hp : p.2.1.length ≤ 1000) (hw : planWf p) : bodyVC (ctxOf tab [(30, c30), (31, c31), (32, c32)]) Try.f20 c20 (a20 (p, ())) (p, ()) := by
  have hJ : fJoined p = (allTo (endOk p) (joinEnds p).length && allTo (gateOk p) p.1.length) := by unfold fJoined; rfl
  have hlen : ∀ l : List JoinD, (l.flatMap fun j => [j.1, j.2]).length = 2 * l.length := fun l => by
    induction l with
    | nil => rfl
    | cons x l ih => rw [List.flatMap_cons, List.length_append, ih, List.length_cons]; simp; omega
  have hEl : (joinEnds p).length = 2 * p.2.1.length := hlen p.2.1
  rw [v20, hJ]
  refine lett.mk fun y1 e1 => ?_
  simp only [keepP_eq, true_and, and_true, Int.toNat_natCast]
  refine ⟨⟨0, by omega, rfl, rfl⟩, fun s => lett.mk fun y3 e3 => lett.mk fun y4 e4 => lett.mk fun y5 e5 => lett.mk fun y6 e6 => ?_⟩
  intro hs
  have e6 : y6 = [y5.1, y5.2] := e6
  have e5 : y5 = p.2.1.getD s zJ := by rw [e5, e1]; rfl
  refine ⟨fun h => ?_, fun h => ?_⟩
  · have h := lt_of_y e3 h
    refine ⟨⟨by omega, by omega⟩, ⟨by omega, by omega⟩, roomB (by rw [e4, e6, hlen, List.length_take]; simp; omega) (by omega), inR64 (by omega) (by omega), s + 1, by omega, by omega, by omega, ?_⟩
    rw [flat_succ _ zJ h, e4, e6, e5]
  have hall := take_all e3 h
  have e4 : y4 = joinEnds p := by rw [e4, hall]; rfl
  subst e4
  refine ⟨⟨0, ⟨by omega, rfl⟩, rfl⟩, fun t => lett.mk fun y8 e8 => lett.mk fun y9 e9 => ?_⟩
  rintro ⟨h1, h2⟩
  have h2 : allTo (endOk p) t = true := h2
  have e9 : y9 = (joinEnds p).getD t zP := e9
  refine ⟨fun h => ?_, fun h => ?_⟩
  · have h := lt_of_y e8 h
    refine ⟨⟨by omega, by omega⟩, fun hh => ?_, fun hh => ⟨⟨0, ⟨by omega, rfl⟩, rfl⟩, fun u => lett.mk fun y11 e11 => lett.mk fun y12 e12 => lett.mk fun y13 e13 => ?_⟩⟩
    · simp only [Bool.not_eq_true'] at hh
      rw [allTo_no (p := endOk p) h (by unfold endOk; rw [← e9, hh]; rfl)]
      rfl
    simp only [Bool.not_eq_false'] at hh
    rintro ⟨g1, g2⟩
    have g2 : anyTo (sameEnd p t) u = false := g2
    have e13 : sameEnd p t u = y13 := by rw [e13, portBeq, e12, e9]; rfl
    refine ⟨fun hu => ?_, fun hu => ?_⟩
    · have hu := lt_of_y e11 hu
      refine ⟨⟨by omega, by omega⟩, ⟨by omega, by omega⟩, fun h13 => ?_, fun h13 => ⟨inR64 (by omega) (by omega), u + 1, ⟨by omega, ?_⟩, by omega, by omega⟩⟩
      · have hn : anyTo (sameEnd p t) t = true := anyTo_yes hu (by rw [e13, h13])
        rw [allTo_no (p := endOk p) h (by
          show (fHas p _ && !anyTo (sameEnd p t) t) = false
          rw [hn, Bool.not_true, Bool.and_false])]
        rfl
      · exact anyTo_succ g2 (by rw [e13, h13])
    · have hu := le_of_y e11 hu
      have : u = t := by omega
      subst this
      refine ⟨inR64 (by omega) (by omega), u + 1, ⟨by omega, ?_⟩, by omega, by omega⟩
      exact allTo_succ h2 (by
        show (fHas p _ && !anyTo (sameEnd p u) u) = true
        rw [← e9, hh, g2]; rfl)
  have hle := le_of_y e8 h
  have ht : t = (joinEnds p).length := by omega
  subst ht
  rw [h2, Bool.true_and]
  refine ⟨⟨0, ⟨by omega, rfl⟩, rfl⟩, fun u => lett.mk fun y11 e11 => lett.mk fun y12 e12 => lett.mk fun y13 e13 => lett.mk fun y14 e14 => ?_⟩
  rintro ⟨g1, g2⟩
  have g2 : allTo (gateOk p) u = true := g2
  have hG : gateOk p u = !(bif y12 then y14 else false) := by
    rw [e14, e12, e13]
    unfold gateOk
    have key : ∀ a b c : Bool, (bif a then (b && !c) else true) = !(bif a then (bif !b then true else c) else false) := by decide
    exact key _ _ _
  refine ⟨fun h => ?_, fun h => ?_⟩
  · have h := lt_of_y e11 h
    refine ⟨⟨by omega, by omega⟩, fun h12 => ⟨fun _ => trivial, fun h14 => ?_, fun h14 => ⟨inRlen h hw.1, u + 1, ⟨by omega, ?_⟩, by omega, by omega⟩⟩, fun h12 => ⟨inRlen h hw.1, u + 1, ⟨by omega, ?_⟩, by omega, by omega⟩⟩
    · exact (allTo_no h (by rw [hG, h12, h14]; rfl)).symm
    · exact allTo_succ g2 (by rw [hG, h12, h14]; rfl)
    · exact allTo_succ g2 (by rw [hG, h12]; rfl)
  have hle := le_of_y e11 h
  have hu : u = p.1.length := by omega
  subst hu
  exact g2.symm

theorem ok20 : DOk Try.prog 20 c20 :=
  DOk.of' (l := [(30, c30), (31, c31), (32, c32)]) (A := a20) tabOk ⟨ok30, ok31, ok32, trivial⟩ Try.func20 (by kernel_rfl) (by kernel_rfl) fun x hw hp => b20 x.1 hp (plan_wf hw.1)

/-- In a joined plan whatever is joined is an end. -/
theorem next_has {p : PlanD} (hj : fJoined p = true) {x : PortD} (h : (fNext p x).2 = true) : fHas p (fNext p x).1 = true := by
  have hm := next_mem h
  obtain ⟨i, hi, he⟩ := List.mem_iff_getElem.1 hm
  unfold fJoined at hj
  rw [Bool.and_eq_true] at hj
  have := allTo_iff.1 hj.1 i hi
  unfold endOk at this
  rw [Bool.and_eq_true, getD_at zP hi, he] at this
  exact this.1

theorem v21 (p : PlanD) : bodyVC (ctxOf tab [(30, c30), (31, c31), (32, c32), (33, c33)]) Try.f21 c21 (a21 (p, ())) (p, ()) = (
lett ([], ((0 : Int), (0 : Int)), false) fun (y1 : List UInt8 × (Int × Int) × Bool) =>
(∃ (s02 : Nat),
(s02 ≤ p.snd.snd.fst.length ∧ allOf (sigOk p) s02) ∧
(↑s02 : Int) = (0 : Int) ∧
keepP p (True)) ∧
∀ (s2 : Nat),
lett (decide ((↑s2 : Int) < (↑p.snd.snd.fst.length : Int))) fun (y3 : Bool) =>
lett (p.snd.snd.fst.getD (↑s2 : Int).toNat y1).snd.fst fun (y4 : Int × Int) =>
lett (bif !fHas p y4 then true else bif fKind p y4.fst != (1 : Int) then fKind p y4.fst != (4 : Int) else false) fun (y5 : Bool) =>
lett (bif !(fNext p y4).snd then true else fKind p (fNext p y4).fst.fst == (4 : Int)) fun (y6 : Bool) =>
lett (bif y6 then true else fReads p y4 != (↑s2 : Int)) fun (y7 : Bool) =>
s2 ≤ p.snd.snd.fst.length ∧ allOf (sigOk p) s2 →
(y3 = true →
InB (↑s2 : Int) p.snd.snd.fst.length ∧
True ∧
True ∧
(y5 = true → false = fSignals p ∧ True) ∧
(y5 = false →
True ∧
((!(fNext p y4).snd) = false → True) ∧
(y6 = false → True) ∧
(y7 = true → false = fSignals p ∧ True) ∧
(y7 = false →
InR IntKind.i64 ((↑s2 : Int) + (1 : Int)) ∧
∃ (s'8 : Nat),
(s'8 ≤ p.snd.snd.fst.length ∧ allOf (sigOk p) s'8) ∧
p.snd.snd.fst.length - s'8 < p.snd.snd.fst.length - s2 ∧
(↑s'8 : Int) = (↑s2 : Int) + (1 : Int) ∧
keepP p (True)))) ∧
(y3 = false →
(∃ (s08 : Nat),
(s08 ≤ p.fst.length ∧ allOf (gateSig p) s08) ∧
(↑s08 : Int) = (0 : Int) ∧
keepP p (True)) ∧
∀ (s8 : Nat),
lett (decide ((↑s8 : Int) < (↑p.fst.length : Int))) fun (y9 : Bool) =>
lett ((p.fst.getD (↑s8 : Int).toNat ([], (0 : Int), (0 : Int))).snd.fst == (4 : Int)) fun (y10 : Bool) =>
lett (fReads p ((↑s8 : Int), (0 : Int))) fun (y11 : Int) =>
lett (bif y10 then decide (y11 < (0 : Int)) else false) fun (y12 : Bool) =>
s8 ≤ p.fst.length ∧ allOf (gateSig p) s8 →
(y9 = true →
InB (↑s8 : Int) p.fst.length ∧
(y10 = true → True) ∧
(y12 = true → false = fSignals p ∧ True) ∧
(y12 = false →
InR IntKind.i64 ((↑s8 : Int) + (1 : Int)) ∧
∃ (s'13 : Nat),
(s'13 ≤ p.fst.length ∧ allOf (gateSig p) s'13) ∧
p.fst.length - s'13 < p.fst.length - s8 ∧
(↑s'13 : Int) = (↑s8 : Int) + (1 : Int) ∧
keepP p (True))) ∧
(y9 = false → true = fSignals p ∧ True))) := by kernel_rfl

theorem b21 (p : PlanD) (hw : planWf p) : bodyVC (ctxOf tab [(30, c30), (31, c31), (32, c32), (33, c33)]) Try.f21 c21 (a21 (p, ())) (p, ()) := by
  have hJ : fSignals p = (allTo (sigOk p) p.2.2.1.length && allTo (gateSig p) p.1.length) := by unfold fSignals; rfl
  rw [v21, hJ]
  refine lett.mk fun y1 e1 => ?_
  simp only [keepP_eq, true_and, and_true, Int.toNat_natCast]
  refine ⟨⟨0, ⟨by omega, rfl⟩, rfl⟩, fun s => lett.mk fun y3 e3 => lett.mk fun y4 e4 => lett.mk fun y5 e5 => lett.mk fun y6 e6 => lett.mk fun y7 e7 => ?_⟩
  rintro ⟨h1, h2⟩
  have h2 : allTo (sigOk p) s = true := h2
  have e4 : y4 = (p.2.2.1.getD s zS).2.1 := by rw [e4, e1]; rfl
  have hS : sigOk p s = (!y5 && !y7) := by
    rw [e7, e6, e5, bneB, bneB, bneB]
    unfold sigOk sigOkX
    rw [← e4]
    have key : ∀ a b c d e f : Bool, (a && ((b || c) && (d && (!e && f)))) = (!(bif !a then true else (bif !b then !c else false)) && !(bif (bif !d then true else e) then true else !f)) := by decide
    exact key _ _ _ _ _ _
  refine ⟨fun h => ?_, fun h => ?_⟩
  · have h := lt_of_y e3 h
    refine ⟨⟨by omega, by omega⟩, fun h5 => ?_, fun h5 => ⟨fun _ => trivial, fun _ => trivial, fun h7 => ?_, fun h7 => ⟨inRlen h hw.2.2.1, s + 1, ⟨by omega, ?_⟩, by omega, by omega⟩⟩⟩
    · rw [allTo_no (p := sigOk p) h (by rw [hS, h5]; rfl)]
      rfl
    · rw [allTo_no (p := sigOk p) h (by rw [hS, h5, h7]; rfl)]
      rfl
    · exact allTo_succ h2 (by rw [hS, h5, h7]; rfl)
  have hle := le_of_y e3 h
  have ht : s = p.2.2.1.length := by omega
  subst ht
  rw [h2, Bool.true_and]
  refine ⟨⟨0, ⟨by omega, rfl⟩, rfl⟩, fun u => lett.mk fun y9 e9 => lett.mk fun y10 e10 => lett.mk fun y11 e11 => lett.mk fun y12 e12 => ?_⟩
  rintro ⟨g1, g2⟩
  have g2 : allTo (gateSig p) u = true := g2
  have hG : gateSig p u = !y12 := by
    rw [e12, e10, ltI, e11]
    unfold gateSig
    have key : ∀ a b : Bool, (bif a then b else true) = !(bif a then !b else false) := by decide
    exact key _ _
  refine ⟨fun h => ?_, fun h => ?_⟩
  · have h := lt_of_y e9 h
    refine ⟨⟨by omega, by omega⟩, fun _ => trivial, fun h12 => ?_, fun h12 => ⟨inRlen h hw.1, u + 1, ⟨by omega, ?_⟩, by omega, by omega⟩⟩
    · exact (allTo_no h (by rw [hG, h12]; rfl)).symm
    · exact allTo_succ g2 (by rw [hG, h12]; rfl)
  have hle := le_of_y e9 h
  have hu : u = p.1.length := by omega
  subst hu
  exact g2.symm

theorem ok21 : DOk Try.prog 21 c21 :=
  DOk.of' (l := [(30, c30), (31, c31), (32, c32), (33, c33)]) (A := a21) tabOk ⟨ok30, ok31, ok32, ok33, trivial⟩ Try.func21 (by kernel_rfl) (by kernel_rfl) fun x hw hp => b21 x.1 (plan_wf hw.1)

theorem v35 (p : PlanD) (l : List Int) : bodyVC (ctxOf tab [(31, c31), (32, c32)]) Try.f35 c35 (a35 (p, l, ())) (p, l, ()) = (
(((↑l.length : Int) == (0 : Int)) = true → [] = (fEnters p l).fst ∧ false = (fEnters p l).snd ∧ True) ∧
(((↑l.length : Int) == (0 : Int)) = false →
(∃ (s02 : Nat),
(s02 ≤ l.length ∧ allT (isTrack p) l s02) ∧
(↑s02 : Int) = (0 : Int) ∧
l = l ∧
keepP p (True)) ∧
∀ (s2 : Nat),
lett (decide ((↑s2 : Int) < (↑l.length : Int))) fun (y3 : Bool) =>
lett (fKind p (l.getD (↑s2 : Int).toNat (0 : Int)) != (1 : Int)) fun (y4 : Bool) =>
s2 ≤ l.length ∧ allT (isTrack p) l s2 →
(y3 = true →
InB (↑s2 : Int) l.length ∧
True ∧
(y4 = true → [] = (fEnters p l).fst ∧ false = (fEnters p l).snd ∧ True) ∧
(y4 = false →
InR IntKind.i64 ((↑s2 : Int) + (1 : Int)) ∧
∃ (s'5 : Nat),
(s'5 ≤ l.length ∧ allT (isTrack p) l s'5) ∧
l.length - s'5 < l.length - s2 ∧
(↑s'5 : Int) = (↑s2 : Int) + (1 : Int) ∧
l = l ∧
keepP p (True))) ∧
(y3 = false →
(((↑l.length : Int) == (1 : Int)) = true → (List.replicate (1 : Nat) (0 : Int)).set (0 : Nat) (0 : Int) = (fEnters p l).fst ∧ true = (fEnters p l).snd ∧ True) ∧
(((↑l.length : Int) == (1 : Int)) = false →
(∃ (s05 : Nat),
s05 ≤ (2 : Nat) ∧
(1 : Int) - (↑s05 : Int) = (1 : Int) ∧
outAt p l s05 = (-1 : Int) ∧
l = l ∧
keepP p (True)) ∧
∀ (s5 : Nat),
lett (decide ((1 : Int) - (↑s5 : Int) ≥ (0 : Int))) fun (y6 : Bool) =>
lett (fNext p (l.getD (Int.toNat (0 : Int)) (0 : Int), (1 : Int) - (↑s5 : Int))) fun (y7 : PortD × Bool) =>
lett ((1 : Int) - (↑s5 : Int) - (1 : Int)) fun (y8 : Int) =>
lett (decide (outAt p l s5 < (0 : Int))) fun (y9 : Bool) =>
lett ((1 : Int) - outAt p l s5) fun (y10 : Int) =>
s5 ≤ (2 : Nat) →
(y6 = true →
InB (0 : Int) l.length ∧
True ∧
(y7.snd = true → InB (1 : Int) l.length) ∧
InR IntKind.i64 y8 ∧
∃ (s'11 : Nat),
s'11 ≤ (2 : Nat) ∧
(2 : Nat) - s'11 < (2 : Nat) - s5 ∧
(1 : Int) - (↑s'11 : Int) = y8 ∧
(outAt p l s'11 =
bif bif y7.snd then y7.fst.fst == l.getD (Int.toNat (1 : Int)) (0 : Int) else false then (1 : Int) - (↑s5 : Int) else outAt p l s5) ∧
l = l ∧
keepP p (True)) ∧
(y6 = false →
(y9 = true → [] = (fEnters p l).fst ∧ false = (fEnters p l).snd ∧ True) ∧
(y9 = false →
InR IntKind.i64 y10 ∧
(∃ (s011 : Nat),
(s011 < l.length ∧ (fEnt p l (fOut0 p l) s011).snd.snd = true) ∧
(↑s011 : Int) + (1 : Int) = (1 : Int) ∧
(fEnt p l (fOut0 p l) s011).snd.fst = outAt p l s5 ∧
l = l ∧
(fEnt p l (fOut0 p l) s011).fst = (List.replicate (1 : Nat) (0 : Int)).set (0 : Nat) y10 ∧
keepP p (True)) ∧
∀ (s11 : Nat),
lett (fEnt p l (fOut0 p l) s11) fun (y12 : List Int × Int × Bool) =>
lett (decide ((↑s11 : Int) + (1 : Int) < (↑l.length : Int))) fun (y13 : Bool) =>
lett ((↑s11 : Int) + (1 : Int) - (1 : Int)) fun (y14 : Int) =>
lett (fNext p (l.getD y14.toNat (0 : Int), y12.snd.fst)) fun (y15 : PortD × Bool) =>
lett (bif !y15.snd then true else y15.fst.fst != l.getD ((↑s11 : Int) + (1 : Int)).toNat (0 : Int)) fun (y16 : Bool) =>
lett ((List.replicate (1 : Nat) (0 : Int)).set (0 : Nat) y15.fst.snd) fun (y17 : List Int) =>
lett ((↑s11 : Int) + (1 : Int) + (1 : Int)) fun (y18 : Int) =>
s11 < l.length ∧ y12.snd.snd = true →
(y13 = true →
InR IntKind.i64 y14 ∧
InB y14 l.length ∧
True ∧
((!y15.snd) = false → InB ((↑s11 : Int) + (1 : Int)) l.length) ∧
(y16 = true → [] = (fEnters p l).fst ∧ false = (fEnters p l).snd ∧ True) ∧
(y16 = false →
roomFor (y12.fst.length + y17.length) (8 : Nat) ∧
InR IntKind.i64 ((1 : Int) - y15.fst.snd) ∧
InR IntKind.i64 y18 ∧
∃ (s'19 : Nat),
(s'19 < l.length ∧ (fEnt p l (fOut0 p l) s'19).snd.snd = true) ∧
l.length - s'19 < l.length - s11 ∧
(↑s'19 : Int) + (1 : Int) = y18 ∧
(fEnt p l (fOut0 p l) s'19).snd.fst = (1 : Int) - y15.fst.snd ∧
l = l ∧
(fEnt p l (fOut0 p l) s'19).fst = y12.fst ++ y17 ∧
keepP p (True))) ∧
(y13 = false → y12.fst = (fEnters p l).fst ∧ true = (fEnters p l).snd ∧ True))))))) := by kernel_rfl

theorem ent_false {p : PlanD} {l : List Int} {o : Int} {k : Nat} (h : (fEnt p l o k).2.2 = false) : ∀ m, k ≤ m → (fEnt p l o m).2.2 = false
  | 0, hm => by
    have : k = 0 := by omega
    rw [this] at h
    exact h
  | m + 1, hm => by
    by_cases e : k = m + 1
    · rw [← e]; exact h
    · have ih := ent_false h m (by omega)
      show (bif (fEnt p l o m).2.2 && _ then _ else _ : List Int × Int × Bool).2.2 = false
      rw [ih]
      rfl

theorem ent_len {p : PlanD} {l : List Int} {o : Int} : ∀ k, (fEnt p l o k).1.length ≤ k + 1
  | 0 => Nat.le_refl _
  | k + 1 => by
    have := ent_len (p := p) (l := l) (o := o) k
    show (bif (fEnt p l o k).2.2 && _ then _ else _ : List Int × Int × Bool).1.length ≤ _
    cases (fEnt p l o k).2.2 && ((entGo p l k (fEnt p l o k).2.1).2 && (entGo p l k (fEnt p l o k).2.1).1.1 == l.getD (k + 1) 0) with
    | true => rw [cond_true, List.length_append]; show _ + 1 ≤ _; omega
    | false => rw [cond_false]; show (fEnt p l o k).1.length ≤ _; omega

theorem out_range (p : PlanD) (l : List Int) (k : Nat) : -1 ≤ outAt p l k ∧ outAt p l k ≤ 1 := by
  match k with
  | 0 => show -1 ≤ (-1 : Int) ∧ (-1 : Int) ≤ 1; exact ⟨by decide, by decide⟩
  | 1 => show -1 ≤ (bif outTo p l 1 then 1 else -1 : Int) ∧ (bif outTo p l 1 then 1 else -1 : Int) ≤ 1; cases outTo p l 1 <;> exact ⟨by decide, by decide⟩
  | _ + 2 => show -1 ≤ fOut0 p l ∧ fOut0 p l ≤ 1; unfold fOut0; cases outTo p l 0 <;> cases outTo p l 1 <;> exact ⟨by decide, by decide⟩

theorem b35 (p : PlanD) (l : List Int) (hj : fJoined p = true) (hl : l.length ≤ 1000) : bodyVC (ctxOf tab [(31, c31), (32, c32)]) Try.f35 c35 (a35 (p, l, ())) (p, l, ()) := by
  have hE : fEnters p l = bif decide (l.length = 0) || !l.all (isTrack p) then ([], false) else bif decide (l.length = 1) then ([0], true) else bif decide (fOut0 p l < 0) then ([], false) else
    bif (fEnt p l (fOut0 p l) (l.length - 1)).2.2 then ((fEnt p l (fOut0 p l) (l.length - 1)).1, true) else ([], false) := by unfold fEnters; rfl
  rw [v35, eqN' _ 0 0 rfl, eqN' _ 1 1 rfl]
  simp only [keepP_eq, true_and, and_true, Int.toNat_natCast]
  refine ⟨fun h => ?_, fun h0 => ⟨⟨0, ⟨by omega, rfl⟩, rfl⟩, fun s => lett.mk fun y3 e3 => lett.mk fun y4 e4 => ?_⟩⟩
  · rw [hE, h]
    exact ⟨rfl, rfl⟩
  rintro ⟨h1, h2⟩
  have h2 : (l.take s).all (isTrack p) = true := h2
  have hl0 := of_decide_eq_false h0
  have e4 : isTrack p (l.getD s 0) = !y4 := by rw [e4, bneB, Bool.not_not]; rfl
  refine ⟨fun h => ?_, fun h => ?_⟩
  · have h := lt_of_y e3 h
    refine ⟨⟨by omega, by omega⟩, fun h4 => ?_, fun h4 => ⟨inR64 (by omega) (by omega), s + 1, ⟨by omega, ?_⟩, by omega, by omega⟩⟩
    · rw [hE, all_no 0 h (by rw [e4, h4]; rfl), h0]
      exact ⟨rfl, rfl⟩
    · exact all_succ 0 h h2 (by rw [e4, h4]; rfl)
  have hall := all_full (le_of_y e3 h) h2
  rw [h0, hall] at hE
  refine ⟨fun h1 => ?_, fun h1 => ⟨⟨0, by omega, rfl, rfl⟩, fun t => lett.mk fun y6 e6 => lett.mk fun y7 e7 => lett.mk fun y8 e8 => lett.mk fun y9 e9 => lett.mk fun y10 e10 => ?_⟩⟩
  · rw [hE, h1]
    exact ⟨rfl, rfl⟩
  rw [h1] at hE
  have hl1 := of_decide_eq_false h1
  intro ht
  have hor := out_range p l t
  refine ⟨fun h6 => ?_, fun h6 => ?_⟩
  · rw [e6] at h6
    have h6 := of_decide_eq_true h6
    refine ⟨⟨by omega, by omega⟩, fun _ => ⟨by omega, by omega⟩, inR64 (by omega) (by omega), t + 1, by omega, by omega, by omega, ?_⟩
    have hb : (bif y7.2 then y7.1.1 == l.getD (Int.toNat 1) 0 else false) = outTo p l (1 - (t : Int)) := by
      rw [e7]
      unfold outTo
      have key : ∀ a b : Bool, (bif a then b else false) = (a && b) := by decide
      exact key _ _
    rw [hb]
    have hc : t = 0 ∨ t = 1 := by omega
    rcases hc with rfl | rfl
    · rfl
    · show fOut0 p l = _
      unfold fOut0
      rfl
  · rw [e6] at h6
    have h6 := of_decide_eq_false h6
    have ht2 : t = 2 := by omega
    subst ht2
    have hO : outAt p l 2 = fOut0 p l := rfl
    rw [hO] at e9 e10 hor
    refine ⟨fun h9 => ?_, fun h9 => ?_⟩
    · rw [hE, ← e9, h9]
      exact ⟨rfl, rfl⟩
    rw [← e9, h9] at hE
    have hE : fEnters p l = bif (fEnt p l (fOut0 p l) (l.length - 1)).2.2 then ((fEnt p l (fOut0 p l) (l.length - 1)).1, true) else ([], false) := hE
    refine ⟨inR64 (by omega) (by omega), ⟨0, ⟨by omega, rfl⟩, rfl, rfl, by rw [e10]; rfl⟩, fun u => lett.mk fun y12 e12 => lett.mk fun y13 e13 => lett.mk fun y14 e14 => lett.mk fun y15 e15 => lett.mk fun y16 e16 => lett.mk fun y17 e17 => lett.mk fun y18 e18 => ?_⟩
    rintro ⟨g1, g2⟩
    have hut : ((u : Int) + 1).toNat = u + 1 := by omega
    have hu14 : y14.toNat = u := by omega
    rw [hut] at e16
    rw [hu14] at e15
    have e17 : y17 = [y15.1.2] := e17
    have hgo : fEnt p l (fOut0 p l) (u + 1) = bif !y16 then (y12.1 ++ [y15.1.2], 1 - y15.1.2, true) else (y12.1, y12.2.1, false) := by
      have hb : ((fEnt p l (fOut0 p l) u).2.2 && ((entGo p l u (fEnt p l (fOut0 p l) u).2.1).2 && (entGo p l u (fEnt p l (fOut0 p l) u).2.1).1.1 == l.getD (u + 1) 0)) = !y16 := by
        rw [e16, bneB, e15, ← e12, g2]
        unfold entGo
        have key : ∀ a b : Bool, (true && (a && b)) = !(bif !a then true else !b) := by decide
        exact key _ _
      show (bif _ then _ else _) = _
      rw [hb, ← e12, e15]
      rfl
    refine ⟨fun h13 => ?_, fun h13 => ?_⟩
    · rw [e13] at h13
      have h13 := of_decide_eq_true h13
      refine ⟨inR64 (by omega) (by omega), ⟨by omega, by omega⟩, fun _ => ⟨by omega, by omega⟩, fun h16 => ?_, fun h16 => ?_⟩
      · have hf : (fEnt p l (fOut0 p l) (u + 1)).2.2 = false := by rw [hgo, h16]; rfl
        rw [hE, ent_false hf (l.length - 1) (by omega)]
        exact ⟨rfl, rfl⟩
      · have h15 : y15.2 = true := by
          rw [h16] at e16
          have := (bif_or e16.symm).1
          simpa using this
        have he : 0 ≤ y15.1.2 ∧ y15.1.2 ≤ 3 := by
          rw [e15] at h15 ⊢
          exact has_end (next_has hj h15)
        have hln := ent_len (p := p) (l := l) (o := fOut0 p l) u
        rw [← e12] at hln
        rw [h16] at hgo
        refine ⟨roomB (by rw [e17]; simp; omega) (by omega), inR64 (by omega) (by omega), inR64 (by omega) (by omega), u + 1, ⟨by omega, by rw [hgo]; rfl⟩, by omega, by omega, ?_, ?_⟩
        · rw [hgo]; rfl
        · rw [hgo, e17]; rfl
    · rw [e13] at h13
      have h13 := of_decide_eq_false h13
      have hu : u = l.length - 1 := by omega
      subst hu
      rw [hE, ← e12, g2]
      exact ⟨rfl, rfl⟩

theorem ok35 : DOk Try.prog 35 c35 :=
  DOk.of' (l := [(31, c31), (32, c32)]) (A := a35) tabOk ⟨ok31, ok32, trivial⟩ Try.func35 (by kernel_rfl) (by kernel_rfl) fun x hw hp => b35 x.1 x.2.1 hp.1 hp.2

theorem v22 (p : PlanD) : bodyVC (ctxOf tab [(34, c34), (35, c35)]) Try.f22 c22 (a22 (p, ())) (p, ()) = (
(∃ (s01 : Nat),
(s01 ≤ p.snd.snd.snd.fst.length ∧ allOf (lineOk p) s01) ∧
(↑s01 : Int) = (0 : Int) ∧
metBy p s01 = [] ∧
keepP p (True)) ∧
∀ (s1 : Nat),
lett (decide ((↑s1 : Int) < (↑p.snd.snd.snd.fst.length : Int))) fun (y2 : Bool) =>
lett (p.snd.snd.snd.fst.getD (↑s1 : Int).toNat zL).snd fun (y3 : List Int) =>
lett (p.snd.snd.snd.fst.getD (↑s1 : Int).toNat ([], [])).snd fun (y4 : List Int) =>
s1 ≤ p.snd.snd.snd.fst.length ∧ allOf (lineOk p) s1 →
(y2 = true →
InB (↑s1 : Int) p.snd.snd.snd.fst.length ∧
(∃ (s05 : Nat),
(s05 ≤ y3.length ∧ allOf (lineNew p (↑s1 : Int).toNat) s05) ∧
(↑s05 : Int) = (0 : Int) ∧
(↑s1 : Int) = (↑s1 : Int) ∧
y4 = y4 ∧
metBy p (↑s1 : Int).toNat ++ List.take s05 y3 = metBy p s1 ∧
keepP p (True)) ∧
∀ (s5 : Nat),
lett (decide ((↑s5 : Int) < (↑y4.length : Int))) fun (y6 : Bool) =>
lett (metBy p (↑s1 : Int).toNat ++ List.take s5 y3) fun (y7 : List Int) =>
lett (y4.getD (↑s5 : Int).toNat (0 : Int)) fun (y8 : Int) =>
lett ((List.replicate (1 : Nat) (0 : Int)).set (0 : Nat) y8) fun (y9 : List Int) =>
s5 ≤ y3.length ∧ allOf (lineNew p (↑s1 : Int).toNat) s5 →
(y6 = true →
InB (↑s5 : Int) y4.length ∧
True ∧
(fMem y7 y8 = true → false = fLines p ∧ True) ∧
(fMem y7 y8 = false →
InB (↑s5 : Int) y4.length ∧
roomFor (y7.length + y9.length) (8 : Nat) ∧
InR IntKind.i64 ((↑s5 : Int) + (1 : Int)) ∧
∃ (s'10 : Nat),
(s'10 ≤ y3.length ∧ allOf (lineNew p (↑s1 : Int).toNat) s'10) ∧
y3.length - s'10 < y3.length - s5 ∧
(↑s'10 : Int) = (↑s5 : Int) + (1 : Int) ∧
(↑s1 : Int) = (↑s1 : Int) ∧
y4 = y4 ∧
metBy p (↑s1 : Int).toNat ++ List.take s'10 y3 = y7 ++ y9 ∧
keepP p (True))) ∧
(y6 = false →
(fJoined p = true ∧ y4.length ≤ (1000 : Nat)) ∧
((!(fEnters p y4).snd) = true → false = fLines p ∧ True) ∧
((!(fEnters p y4).snd) = false →
InR IntKind.i64 ((↑s1 : Int) + (1 : Int)) ∧
∃ (s'10 : Nat),
(s'10 ≤ p.snd.snd.snd.fst.length ∧ allOf (lineOk p) s'10) ∧
p.snd.snd.snd.fst.length - s'10 < p.snd.snd.snd.fst.length - s1 ∧
(↑s'10 : Int) = (↑s1 : Int) + (1 : Int) ∧
metBy p s'10 = y7 ∧
keepP p (True)))) ∧
(y2 = false → true = fLines p ∧ True)) := by kernel_rfl

theorem met_len {p : PlanD} (hs : shortLines p) : ∀ i, (metBy p i).length ≤ i * 1000
  | 0 => Nat.le_refl _
  | i + 1 => by
    have ih := met_len hs i
    by_cases h : i < p.2.2.2.1.length
    · have := hs _ (mem_getD zL h)
      show ((p.2.2.2.1.take (i + 1)).flatMap fun l => l.2).length ≤ _
      rw [flat_succ _ zL h, List.length_append]
      show (metBy p i).length + _ ≤ _
      omega
    · have e : metBy p (i + 1) = metBy p i := by
        unfold metBy
        rw [List.take_of_length_le (by omega), List.take_of_length_le (by omega)]
      rw [e]
      omega

theorem b22 (p : PlanD) (hj : fJoined p = true) (hs : shortLines p) (hl : p.2.2.2.1.length ≤ 1000) : bodyVC (ctxOf tab [(34, c34), (35, c35)]) Try.f22 c22 (a22 (p, ())) (p, ()) := by
  have hF : fLines p = allTo (lineOk p) p.2.2.2.1.length := by unfold fLines; rfl
  rw [v22, hF]
  simp only [keepP_eq, true_and, and_true, Int.toNat_natCast]
  refine ⟨⟨0, ⟨by omega, rfl⟩, rfl, rfl⟩, fun s => lett.mk fun y2 e2 => lett.mk fun y3 e3 => lett.mk fun y4 e4 => ?_⟩
  rintro ⟨h1, h2⟩
  have h2 : allTo (lineOk p) s = true := h2
  have e4 : y4 = y3 := by rw [e4, e3]; rfl
  subst e4
  refine ⟨fun h => ?_, fun h => ?_⟩
  · have h := lt_of_y e2 h
    have hsh : y4.length ≤ 1000 := by rw [e3]; exact hs _ (mem_getD zL h)
    have hml := met_len hs s
    refine ⟨⟨by omega, by omega⟩, ⟨0, ⟨by omega, rfl⟩, rfl, by simp⟩, fun t => lett.mk fun y6 e6 => lett.mk fun y7 e7 => lett.mk fun y8 e8 => lett.mk fun y9 e9 => ?_⟩
    rintro ⟨g1, g2⟩
    have g2 : allTo (lineNew p s) t = true := g2
    have e9 : y9 = [y8] := e9
    have hN : lineNew p s t = !fMem y7 y8 := by rw [e7, e8, e3]; rfl
    refine ⟨fun ht => ?_, fun ht => ?_⟩
    · have ht := lt_of_y e6 ht
      refine ⟨⟨by omega, by omega⟩, fun hm => ?_, fun hm => ⟨⟨by omega, by omega⟩, roomB (by rw [e7, e9, List.length_append, List.length_take]; simp; omega) (by omega), inR64 (by omega) (by omega), t + 1, ⟨by omega, ?_⟩, by omega, by omega, ?_⟩⟩
      · refine (allTo_no h ?_).symm
        unfold lineOk
        rw [← e3, allTo_no ht (by rw [hN, hm]; rfl)]
        rfl
      · exact allTo_succ g2 (by rw [hN, hm]; rfl)
      · rw [take_succ' 0 ht, ← List.append_assoc, ← e7, e9, e8]
    · have hle := le_of_y e6 ht
      have hte : t = y4.length := by omega
      have hall : allTo (lineNew p s) (p.2.2.2.1.getD s zL).2.length = true := by rw [← e3, ← hte]; exact g2
      refine ⟨⟨hj, hsh⟩, fun hb => ?_, fun hb => ⟨inR64 (by omega) (by omega), s + 1, ⟨by omega, ?_⟩, by omega, by omega, ?_⟩⟩
      · refine (allTo_no h ?_).symm
        unfold lineOk
        simp only [Bool.not_eq_true'] at hb
        rw [← e3, hb, Bool.and_false]
      · refine allTo_succ h2 ?_
        unfold lineOk
        simp only [Bool.not_eq_false'] at hb
        rw [hall, ← e3, hb]
        rfl
      · show ((p.2.2.2.1.take (s + 1)).flatMap fun l => l.2) = _
        have ht2 : y4.take t = y4 := List.take_of_length_le hle
        rw [flat_succ _ zL h, e7, ht2, e3]
        rfl
  · have hle := le_of_y e2 h
    have : s = p.2.2.2.1.length := by omega
    subst this
    exact h2.symm

theorem ok22 : DOk Try.prog 22 c22 :=
  DOk.of' (l := [(34, c34), (35, c35)]) (A := a22) tabOk ⟨ok34, ok35, trivial⟩ Try.func22 (by kernel_rfl) (by kernel_rfl) fun x hw hp => b22 x.1 hp.1 hp.2.1 hp.2.2

theorem v23 (p : PlanD) : bodyVC (ctxOf tab [(36, c36), (32, c32), (37, c37)]) Try.f23 c23 (a23 (p, ())) (p, ()) = (
lett (p.snd.snd.snd.snd.fst + fStop p.snd.snd.snd.snd.fst p.snd.snd.snd.snd.snd.fst) fun (y1 : Int) =>
lett (decide (p.snd.snd.snd.snd.snd.snd.fst < y1)) fun (y2 : Bool) =>
True ∧
InR IntKind.i64 y1 ∧
(y2 = true → false = fLong p ∧ True) ∧
(y2 = false →
(∃ (s03 : Nat),
(s03 ≤ p.snd.snd.fst.length ∧ allT (sigLong p) p.snd.snd.fst s03) ∧
(↑s03 : Int) = (0 : Int) ∧
keepP p (True)) ∧
∀ (s3 : Nat),
lett (decide ((↑s3 : Int) < (↑p.snd.snd.fst.length : Int))) fun (y4 : Bool) =>
lett (p.snd.snd.fst.getD (↑s3 : Int).toNat ([], ((0 : Int), (0 : Int)), false)).snd.fst.fst fun (y5 : Int) =>
lett (bif fKind p y5 == (1 : Int) then decide (fLength p y5 < p.snd.snd.snd.snd.snd.snd.fst) else false) fun (y6 : Bool) =>
s3 ≤ p.snd.snd.fst.length ∧ allT (sigLong p) p.snd.snd.fst s3 →
(y4 = true →
InB (↑s3 : Int) p.snd.snd.fst.length ∧
True ∧
((fKind p y5 == (1 : Int)) = true → True) ∧
(y6 = true → false = fLong p ∧ True) ∧
(y6 = false →
InR IntKind.i64 ((↑s3 : Int) + (1 : Int)) ∧
∃ (s'7 : Nat),
(s'7 ≤ p.snd.snd.fst.length ∧ allT (sigLong p) p.snd.snd.fst s'7) ∧
p.snd.snd.fst.length - s'7 < p.snd.snd.fst.length - s3 ∧
(↑s'7 : Int) = (↑s3 : Int) + (1 : Int) ∧
keepP p (True))) ∧
(y4 = false →
(∃ (s07 : Nat),
(s07 ≤ p.fst.length ∧ allT (elemLong p) p.fst s07) ∧
(↑s07 : Int) = (0 : Int) ∧
keepP p (True)) ∧
∀ (s7 : Nat),
lett (decide ((↑s7 : Int) < (↑p.fst.length : Int))) fun (y8 : Bool) =>
lett (p.fst.getD (↑s7 : Int).toNat ([], (0 : Int), (0 : Int))).snd fun (y9 : Int × Int) =>
lett (bif y9.fst != (4 : Int) then decide (y9.snd < p.snd.snd.snd.snd.fst) else false) fun (y10 : Bool) =>
s7 ≤ p.fst.length ∧ allT (elemLong p) p.fst s7 →
(y8 = true →
InB (↑s7 : Int) p.fst.length ∧
((y9.fst != (4 : Int)) = true → InB (↑s7 : Int) p.fst.length) ∧
(y10 = true → false = fLong p ∧ True) ∧
(y10 = false →
InR IntKind.i64 ((↑s7 : Int) + (1 : Int)) ∧
∃ (s'11 : Nat),
(s'11 ≤ p.fst.length ∧ allT (elemLong p) p.fst s'11) ∧
p.fst.length - s'11 < p.fst.length - s7 ∧
(↑s'11 : Int) = (↑s7 : Int) + (1 : Int) ∧
keepP p (True))) ∧
(y8 = false → true = fLong p ∧ True)))) := by kernel_rfl

theorem nums_facts {p : PlanD} (h : fNums p = true) : (1 ≤ p.2.2.2.2.1 ∧ p.2.2.2.2.1 ≤ 60) ∧ (1 ≤ p.2.2.2.2.2.1 ∧ p.2.2.2.2.2.1 ≤ 10) ∧ (1 ≤ p.2.2.2.2.2.2.1 ∧ p.2.2.2.2.2.2.1 ≤ 4000) := by
  unfold fNums fIn at h
  simp only [Bool.and_eq_true] at h
  obtain ⟨⟨h1, h2⟩, ⟨h3, h4⟩, ⟨h5, h6⟩, _⟩ := h
  exact ⟨⟨of_decide_eq_true h1, of_decide_eq_true h2⟩, ⟨of_decide_eq_true h3, of_decide_eq_true h4⟩, of_decide_eq_true h5, of_decide_eq_true h6⟩

theorem b23 (p : PlanD) (hn : fNums p = true) (hw : planWf p) : bodyVC (ctxOf tab [(36, c36), (32, c32), (37, c37)]) Try.f23 c23 (a23 (p, ())) (p, ()) := by
  have hL : fLong p = (!decide (p.2.2.2.2.2.2.1 < p.2.2.2.2.1 + fStop p.2.2.2.2.1 p.2.2.2.2.2.1) && (p.2.2.1.all (sigLong p) && p.1.all (elemLong p))) := by unfold fLong; rfl
  obtain ⟨n1, n2, n3⟩ := nums_facts hn
  have hst := fStop_range p.2.2.2.2.1 p.2.2.2.2.2.1
  rw [v23, hL]
  refine lett.mk fun y1 e1 => lett.mk fun y2 e2 => ?_
  rw [← e1, ← e2]
  simp only [keepP_eq, true_and, and_true, Int.toNat_natCast]
  refine ⟨inR64 (by omega) (by omega), fun h => by rw [h]; rfl, fun h => ?_⟩
  rw [h, Bool.not_false, Bool.true_and]
  refine ⟨⟨0, ⟨by omega, rfl⟩, rfl⟩, fun s => lett.mk fun y4 e4 => lett.mk fun y5 e5 => lett.mk fun y6 e6 => ?_⟩
  rintro ⟨h1, h2⟩
  have h2 : (p.2.2.1.take s).all (sigLong p) = true := h2
  have hS : sigLong p (p.2.2.1.getD s zS) = !y6 := by
    have e5 : y5 = (p.2.2.1.getD s zS).2.1.1 := e5
    rw [e6]
    unfold sigLong
    rw [← e5]
    have key : ∀ a b : Bool, (!(a && b)) = !(bif a then b else false) := by decide
    exact key _ _
  refine ⟨fun h => ?_, fun h => ?_⟩
  · have h := lt_of_y e4 h
    refine ⟨⟨by omega, by omega⟩, fun _ => trivial, fun h6 => ?_, fun h6 => ⟨inRlen h hw.2.2.1, s + 1, ⟨by omega, ?_⟩, by omega, by omega⟩⟩
    · rw [all_no zS h (by rw [hS, h6]; rfl)]
      rfl
    · exact all_succ zS h h2 (by rw [hS, h6]; rfl)
  rw [all_full (le_of_y e4 h) h2, Bool.true_and]
  refine ⟨⟨0, ⟨by omega, rfl⟩, rfl⟩, fun u => lett.mk fun y8 e8 => lett.mk fun y9 e9 => lett.mk fun y10 e10 => ?_⟩
  rintro ⟨g1, g2⟩
  have g2 : (p.1.take u).all (elemLong p) = true := g2
  have hS : elemLong p (p.1.getD u zE) = !y10 := by
    have e9 : y9 = (p.1.getD u zE).2 := e9
    rw [e10, bneB]
    unfold elemLong
    rw [← e9]
    have key : ∀ a b : Bool, (!(!a && b)) = !(bif !a then b else false) := by decide
    exact key _ _
  refine ⟨fun h => ?_, fun h => ?_⟩
  · have h := lt_of_y e8 h
    refine ⟨⟨by omega, by omega⟩, fun _ => ⟨by omega, by omega⟩, fun h6 => ?_, fun h6 => ⟨inRlen h hw.1, u + 1, ⟨by omega, ?_⟩, by omega, by omega⟩⟩
    · rw [all_no zE h (by rw [hS, h6]; rfl)]
    · exact all_succ zE h g2 (by rw [hS, h6]; rfl)
  rw [all_full (le_of_y e8 h) g2]

theorem ok23 : DOk Try.prog 23 c23 :=
  DOk.of' (l := [(36, c36), (32, c32), (37, c37)]) (A := a23) tabOk ⟨ok36, ok32, ok37, trivial⟩ Try.func23 (by kernel_rfl) (by kernel_rfl) fun x hw hp => b23 x.1 hp (plan_wf hw.1)

theorem v12 (p : PlanD) : bodyVC (ctxOf tab [(17, c17), (18, c18), (19, c19), (20, c20), (21, c21), (22, c22), (23, c23)]) Try.f12 c12 noAnn (p, ()) = (
lett
(bif bif bif decide ((↑p.fst.length : Int) > (40 : Int)) then true else decide ((↑p.snd.snd.fst.length : Int) > (24 : Int)) then true else decide ((↑p.snd.snd.snd.fst.length : Int) > (4 : Int)) then
true
else decide ((↑p.snd.fst.length : Int) > (80 : Int)))
fun (y1 : Bool) =>
lett (fTwice (List.map (fun (e : ElemD) => e.fst) p.fst)) fun (y2 : Bool) =>
lett (bif y2 then true else fTwice (List.map (fun (s : SignalD) => s.fst) p.snd.snd.fst)) fun (y3 : Bool) =>
lett (bif y3 then true else fTwice (List.map (fun (l : LineD) => l.fst) p.snd.snd.snd.fst)) fun (y4 : Bool) =>
(y1 = true → (3 : Int) = fCheck p ∧ True) ∧
(y1 = false →
namesPre p ∧
True ∧
((!fArgs p) = true → (1 : Int) = fCheck p ∧ True) ∧
((!fArgs p) = false →
True ∧
(y2 = false → True) ∧
(y3 = false → True) ∧
(y4 = true → (4 : Int) = fCheck p ∧ True) ∧
(y4 = false →
p.snd.fst.length ≤ (1000 : Nat) ∧
((!fJoined p) = true → (6 : Int) = fCheck p ∧ True) ∧
((!fJoined p) = false →
True ∧
((!fSignals p) = true → (7 : Int) = fCheck p ∧ True) ∧
((!fSignals p) = false →
(fJoined p = true ∧ shortLines p ∧ p.snd.snd.snd.fst.length ≤ (1000 : Nat)) ∧
((!fLines p) = true → (8 : Int) = fCheck p ∧ True) ∧
((!fLines p) = false → fNums p = true ∧ ((!fLong p) = true → (9 : Int) = fCheck p ∧ True) ∧ ((!fLong p) = false → (0 : Int) = fCheck p ∧ True)))))))) := by kernel_rfl

theorem b12 (p : PlanD) (hp : shortLines p) : bodyVC (ctxOf tab [(17, c17), (18, c18), (19, c19), (20, c20), (21, c21), (22, c22), (23, c23)]) Try.f12 c12 noAnn (p, ()) := by
  rw [v12]
  refine lett.mk fun y1 e1 => lett.mk fun y2 e2 => lett.mk fun y3 e3 => lett.mk fun y4 e4 => ?_
  have hz : fSizes p = !y1 := by
    rw [e1, gtN _ 40 40 rfl, gtN _ 24 24 rfl, gtN _ 4 4 rfl, gtN _ 80 80 rfl]
    unfold fSizes
    have key : ∀ a b c d : Bool, (a && (b && (c && d))) = !(bif (bif (bif !a then true else !b) then true else !c) then true else !d) := by decide
    exact key _ _ _ _
  have hC : fCheck p = bif y1 then 3 else bif !fArgs p then 1 else bif y4 then 4 else
      bif !fJoined p then 6 else bif !fSignals p then 7 else bif !fLines p then 8 else bif !fLong p then 9 else 0 := by
    have h4 : (fTwice (p.1.map fun e => e.1) || (fTwice (p.2.2.1.map fun s => s.1) || fTwice (p.2.2.2.1.map fun l => l.1))) = y4 := by
      rw [e4, e3, e2]
      have key : ∀ a b c : Bool, (a || (b || c)) = (bif (bif a then true else b) then true else c) := by decide
      exact key _ _ _
    unfold fCheck
    rw [hz, Bool.not_not, h4]
  rw [hC]
  refine ⟨fun h => by rw [h]; exact ⟨rfl, trivial⟩, fun h => ?_⟩
  have hsz : fSizes p = true := by rw [hz, h]; rfl
  unfold fSizes at hsz
  simp only [Bool.and_eq_true] at hsz
  obtain ⟨z1, z2, z3, z4⟩ := hsz
  have z1 := of_decide_eq_true z1
  have z2 := of_decide_eq_true z2
  have z3 := of_decide_eq_true z3
  have z4 := of_decide_eq_true z4
  rw [h]
  refine ⟨⟨by omega, by omega, by omega⟩, trivial, fun ha => by rw [ha]; exact ⟨rfl, trivial⟩, fun ha => ?_⟩
  rw [ha]
  refine ⟨trivial, fun _ => trivial, fun _ => trivial, fun h4 => by rw [h4]; exact ⟨rfl, trivial⟩, fun h4 => ?_⟩
  rw [h4]
  refine ⟨by omega, fun hj => by rw [hj]; exact ⟨rfl, trivial⟩, fun hj => ?_⟩
  rw [hj]
  have hj' : fJoined p = true := by simpa using hj
  refine ⟨trivial, fun hs => by rw [hs]; exact ⟨rfl, trivial⟩, fun hs => ?_⟩
  rw [hs]
  refine ⟨⟨hj', hp, by omega⟩, fun hl => by rw [hl]; exact ⟨rfl, trivial⟩, fun hl => ?_⟩
  rw [hl]
  have ha' : fArgs p = true := by simpa using ha
  refine ⟨args_nums ha', fun hg => by rw [hg]; exact ⟨rfl, trivial⟩, fun hg => by rw [hg]; exact ⟨rfl, trivial⟩⟩

theorem ok12 : DOk Try.prog 12 c12 :=
  DOk.of' (l := [(17, c17), (18, c18), (19, c19), (20, c20), (21, c21), (22, c22), (23, c23)]) (A := fun _ => noAnn) tabOk ⟨ok17, ok18, ok19, ok20, ok21, ok22, ok23, trivial⟩ Try.func12 (by kernel_rfl) (by kernel_rfl) fun x hw hp => b12 x.1 hp

theorem v16 (p : PlanD) : bodyVC (ctxOf tab []) Try.f16 c16 (a16 (p, ())) (p, ()) = (
lett
(bif bif bif decide ((↑p.fst.length : Int) > (60 : Int)) then true else decide ((↑p.snd.fst.length : Int) > (120 : Int)) then true else decide ((↑p.snd.snd.fst.length : Int) > (60 : Int)) then true
else decide ((↑p.snd.snd.snd.fst.length : Int) > (20 : Int)))
fun (y1 : Bool) =>
(y1 = true → false = fFew p ∧ True) ∧
(y1 = false →
(∃ (s02 : Nat),
(s02 ≤ p.snd.snd.snd.fst.length ∧ allT fewLine p.snd.snd.snd.fst s02) ∧
(↑s02 : Int) = (0 : Int) ∧
keepP p (True)) ∧
∀ (s2 : Nat),
lett (decide ((↑s2 : Int) < (↑p.snd.snd.snd.fst.length : Int))) fun (y3 : Bool) =>
lett (p.snd.snd.snd.fst.getD (↑s2 : Int).toNat ([], [])) fun (y4 : List UInt8 × List Int) =>
lett (decide ((↑y4.snd.length : Int) > (60 : Int))) fun (y5 : Bool) =>
lett (bif y5 then true else decide ((↑y4.fst.length : Int) > (100 : Int))) fun (y6 : Bool) =>
s2 ≤ p.snd.snd.snd.fst.length ∧ allT fewLine p.snd.snd.snd.fst s2 →
(y3 = true →
InB (↑s2 : Int) p.snd.snd.snd.fst.length ∧
(y5 = false → InB (↑s2 : Int) p.snd.snd.snd.fst.length) ∧
(y6 = true → false = fFew p ∧ True) ∧
(y6 = false →
InR IntKind.i64 ((↑s2 : Int) + (1 : Int)) ∧
∃ (s'7 : Nat),
(s'7 ≤ p.snd.snd.snd.fst.length ∧ allT fewLine p.snd.snd.snd.fst s'7) ∧
p.snd.snd.snd.fst.length - s'7 < p.snd.snd.snd.fst.length - s2 ∧
(↑s'7 : Int) = (↑s2 : Int) + (1 : Int) ∧
keepP p (True))) ∧
(y3 = false →
(∃ (s07 : Nat),
(s07 ≤ p.fst.length ∧ allT fewElem p.fst s07) ∧
(↑s07 : Int) = (0 : Int) ∧
keepP p (True)) ∧
∀ (s7 : Nat),
lett (decide ((↑s7 : Int) < (↑p.fst.length : Int))) fun (y8 : Bool) =>
lett (decide ((↑(p.fst.getD (↑s7 : Int).toNat ([], (0 : Int), (0 : Int))).fst.length : Int) > (100 : Int))) fun (y9 : Bool) =>
s7 ≤ p.fst.length ∧ allT fewElem p.fst s7 →
(y8 = true →
InB (↑s7 : Int) p.fst.length ∧
(y9 = true → false = fFew p ∧ True) ∧
(y9 = false →
InR IntKind.i64 ((↑s7 : Int) + (1 : Int)) ∧
∃ (s'10 : Nat),
(s'10 ≤ p.fst.length ∧ allT fewElem p.fst s'10) ∧
p.fst.length - s'10 < p.fst.length - s7 ∧
(↑s'10 : Int) = (↑s7 : Int) + (1 : Int) ∧
keepP p (True))) ∧
(y8 = false →
(∃ (s010 : Nat),
(s010 ≤ p.snd.snd.fst.length ∧ allT fewSig p.snd.snd.fst s010) ∧
(↑s010 : Int) = (0 : Int) ∧
keepP p (True)) ∧
∀ (s10 : Nat),
lett (decide ((↑s10 : Int) < (↑p.snd.snd.fst.length : Int))) fun (y11 : Bool) =>
lett (decide ((↑(p.snd.snd.fst.getD (↑s10 : Int).toNat ([], ((0 : Int), (0 : Int)), false)).fst.length : Int) > (100 : Int))) fun (y12 : Bool) =>
s10 ≤ p.snd.snd.fst.length ∧ allT fewSig p.snd.snd.fst s10 →
(y11 = true →
InB (↑s10 : Int) p.snd.snd.fst.length ∧
(y12 = true → false = fFew p ∧ True) ∧
(y12 = false →
InR IntKind.i64 ((↑s10 : Int) + (1 : Int)) ∧
∃ (s'13 : Nat),
(s'13 ≤ p.snd.snd.fst.length ∧ allT fewSig p.snd.snd.fst s'13) ∧
p.snd.snd.fst.length - s'13 < p.snd.snd.fst.length - s10 ∧
(↑s'13 : Int) = (↑s10 : Int) + (1 : Int) ∧
keepP p (True))) ∧
(y11 = false → true = fFew p ∧ True))))) := by kernel_rfl

theorem b16 (p : PlanD) (hw : planWf p) : bodyVC (ctxOf tab []) Try.f16 c16 (a16 (p, ())) (p, ()) := by
  have hF : fFew p = (decide (p.1.length ≤ 60) && (decide (p.2.1.length ≤ 120) && (decide (p.2.2.1.length ≤ 60) && (decide (p.2.2.2.1.length ≤ 20) && (p.2.2.2.1.all fewLine && (p.1.all fewElem && p.2.2.1.all fewSig)))))) := by unfold fFew; rfl
  rw [v16]
  refine lett.mk fun y1 e1 => ?_
  rw [gtN _ 60 60 rfl, gtN _ 120 120 rfl, gtN _ 60 60 rfl, gtN _ 20 20 rfl] at e1
  have hF : fFew p = (!y1 && (p.2.2.2.1.all fewLine && (p.1.all fewElem && p.2.2.1.all fewSig))) := by
    rw [hF, e1]
    have key : ∀ a b c d e : Bool, (a && (b && (c && (d && e)))) = (!(bif (bif (bif !a then true else !b) then true else !c) then true else !d) && e) := by decide
    exact key _ _ _ _ _
  rw [hF]
  simp only [keepP_eq, true_and, and_true, Int.toNat_natCast]
  refine ⟨fun h => by rw [h]; rfl, fun h => ?_⟩
  rw [h, Bool.not_false, Bool.true_and]
  refine ⟨⟨0, ⟨by omega, rfl⟩, rfl⟩, fun s => lett.mk fun y3 e3 => lett.mk fun y4 e4 => lett.mk fun y5 e5 => lett.mk fun y6 e6 => ?_⟩
  rintro ⟨h1, h2⟩
  have h2 : (p.2.2.2.1.take s).all fewLine = true := h2
  have hS : fewLine (p.2.2.2.1.getD s zL) = !y6 := by
    have e4 : y4 = p.2.2.2.1.getD s zL := e4
    rw [e6, e5, gtN _ 60 60 rfl, gtN _ 100 100 rfl]
    unfold fewLine
    rw [← e4]
    have key : ∀ a b : Bool, (a && b) = !(bif !a then true else !b) := by decide
    exact key _ _
  refine ⟨fun h => ?_, fun h => ?_⟩
  · have h := lt_of_y e3 h
    refine ⟨⟨by omega, by omega⟩, fun _ => ⟨by omega, by omega⟩, fun h6 => ?_, fun h6 => ⟨inRlen h hw.2.2.2, s + 1, ⟨by omega, ?_⟩, by omega, by omega⟩⟩
    · rw [all_no zL h (by rw [hS, h6]; rfl)]
      rfl
    · exact all_succ zL h h2 (by rw [hS, h6]; rfl)
  rw [all_full (le_of_y e3 h) h2, Bool.true_and]
  refine ⟨⟨0, ⟨by omega, rfl⟩, rfl⟩, fun t => lett.mk fun y8 e8 => lett.mk fun y9 e9 => ?_⟩
  rintro ⟨h1, h2⟩
  have h2 : (p.1.take t).all fewElem = true := h2
  have hS : fewElem (p.1.getD t zE) = !y9 := by
    rw [e9, gtN _ 100 100 rfl, Bool.not_not]
    rfl
  refine ⟨fun h => ?_, fun h => ?_⟩
  · have h := lt_of_y e8 h
    refine ⟨⟨by omega, by omega⟩, fun h6 => ?_, fun h6 => ⟨inRlen h hw.1, t + 1, ⟨by omega, ?_⟩, by omega, by omega⟩⟩
    · rw [all_no zE h (by rw [hS, h6]; rfl)]
      rfl
    · exact all_succ zE h h2 (by rw [hS, h6]; rfl)
  rw [all_full (le_of_y e8 h) h2, Bool.true_and]
  refine ⟨⟨0, ⟨by omega, rfl⟩, rfl⟩, fun u => lett.mk fun y11 e11 => lett.mk fun y12 e12 => ?_⟩
  rintro ⟨h1, h2⟩
  have h2 : (p.2.2.1.take u).all fewSig = true := h2
  have hS : fewSig (p.2.2.1.getD u zS) = !y12 := by
    rw [e12, gtN _ 100 100 rfl, Bool.not_not]
    rfl
  refine ⟨fun h => ?_, fun h => ?_⟩
  · have h := lt_of_y e11 h
    refine ⟨⟨by omega, by omega⟩, fun h6 => ?_, fun h6 => ⟨inRlen h hw.2.2.1, u + 1, ⟨by omega, ?_⟩, by omega, by omega⟩⟩
    · rw [all_no zS h (by rw [hS, h6]; rfl)]
    · exact all_succ zS h h2 (by rw [hS, h6]; rfl)
  rw [all_full (le_of_y e11 h) h2]

theorem ok16 : DOk Try.prog 16 c16 :=
  DOk.of' (l := []) (A := a16) tabOk trivial Try.func16 (by kernel_rfl) (by kernel_rfl) fun x hw hp => b16 x.1 (plan_wf hw.1)

theorem few_lines {p : PlanD} (h : fFew p = true) : shortLines p := by
  unfold fFew at h
  simp only [Bool.and_eq_true, List.all_eq_true] at h
  intro l hl
  have := of_decide_eq_true (h.2.2.2.2.1 l hl).1
  omega

theorem v11 (p : PlanD) : bodyVC (ctxOf tab [(16, c16), (12, c12)]) Try.f11 c11 noAnn (p, ()) = (
True ∧ (fFew p = true → shortLines p) ∧ (bif fFew p then fCheck p == (0 : Int) else false) = fFine p ∧ True) := by kernel_rfl

theorem ok11 : DOk Try.prog 11 c11 :=
  DOk.of' (l := [(16, c16), (12, c12)]) (A := fun _ => noAnn) tabOk ⟨ok16, ok12, trivial⟩ Try.func11 (by kernel_rfl) (by kernel_rfl) fun x hw hp => by
    obtain ⟨p, ⟨⟩⟩ := x
    rw [v11]
    refine ⟨trivial, fun h => few_lines h, ?_, trivial⟩
    unfold fFine
    have key : ∀ a b : Bool, (bif a then b else false) = (a && b) := by decide
    exact key _ _

end Ytpnnfimacblhgaa
end Go.Proofs
