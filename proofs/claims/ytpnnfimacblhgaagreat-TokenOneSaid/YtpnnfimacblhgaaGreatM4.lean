/-
  The reference's check of plans: written out and proved; Contracts of the reference's roads and flanks (chapters 7 to 11), as far as they are reached; Annotations of the reference's roads and flanks; The reference's roads: written out and proved; The reference's flanks and charts: written out and proved; Contracts of the program's plans and nets (layers 2 and 4), as far as they are reached; Annotations of the program's plans; Plain facts about maps as lists, and about a plan's joins and signals, for the proofs of the program's plans; The program's plans: small functions, names, numbers, rows, lengths; The program's plans: numbers, joins, signals, rows, lines, lengths; Check; The program's plans: rows, lines, lengths; Check; The program's Check of a plan.
-/
import Derived.Test.YtpnnfimacblhgaaGreatM3

section
set_option maxRecDepth 100000
set_option linter.unusedVariables false
set_option linter.unusedSimpArgs false
set_option maxHeartbeats 2000000
namespace Go.Proofs
open Go Go.Vc
namespace YtpnnfimacblhgaaGreat

theorem v69 (p : PlanD) : bodyVC (ctxOf tab []) Tryz.f69 c69 (a69 (p, ())) (p, ()) = (
lett ([], ((0 : Int), (0 : Int)), false) fun (y1 : List UInt8 × (Int × Int) × Bool) =>
(∃ (s02 : Nat),
s02 ≤ p.fst.length ∧
(↑s02 : Int) = (0 : Int) ∧
List.map (fun (e : ElemD) => e.fst) (List.take s02 p.fst) = [] ∧
keepP p (True)) ∧
∀ (s2 : Nat),
lett (decide ((↑s2 : Int) < (↑p.fst.length : Int))) fun (y3 : Bool) =>
lett (List.map (fun (e : ElemD) => e.fst) (List.take s2 p.fst)) fun (y4 : List (List UInt8)) =>
lett ((List.replicate (1 : Nat) []).set (0 : Nat) (p.fst.getD (↑s2 : Int).toNat ([], (0 : Int), (0 : Int))).fst) fun (y5 : List (List UInt8)) =>
s2 ≤ p.fst.length →
(y3 = true →
InB (↑s2 : Int) p.fst.length ∧
roomFor (y4.length + y5.length) (16 : Nat) ∧
InR IntKind.i64 ((↑s2 : Int) + (1 : Int)) ∧
∃ (s'6 : Nat),
s'6 ≤ p.fst.length ∧
p.fst.length - s'6 < p.fst.length - s2 ∧
(↑s'6 : Int) = (↑s2 : Int) + (1 : Int) ∧
List.map (fun (e : ElemD) => e.fst) (List.take s'6 p.fst) = y4 ++ y5 ∧
keepP p (True)) ∧
(y3 = false →
(∃ (s06 : Nat),
s06 ≤ p.snd.snd.fst.length ∧
(↑s06 : Int) = (0 : Int) ∧
List.map (fun (e : SignalD) => e.fst) (List.take s06 p.snd.snd.fst) = [] ∧
keepP p (y4 = y4 ∧ True)) ∧
∀ (s6 : Nat),
lett (decide ((↑s6 : Int) < (↑p.snd.snd.fst.length : Int))) fun (y7 : Bool) =>
lett (List.map (fun (e : SignalD) => e.fst) (List.take s6 p.snd.snd.fst)) fun (y8 : List (List UInt8)) =>
lett ((List.replicate (1 : Nat) []).set (0 : Nat) (p.snd.snd.fst.getD (↑s6 : Int).toNat y1).fst) fun (y9 : List (List UInt8)) =>
s6 ≤ p.snd.snd.fst.length →
(y7 = true →
InB (↑s6 : Int) p.snd.snd.fst.length ∧
roomFor (y8.length + y9.length) (16 : Nat) ∧
InR IntKind.i64 ((↑s6 : Int) + (1 : Int)) ∧
∃ (s'10 : Nat),
s'10 ≤ p.snd.snd.fst.length ∧
p.snd.snd.fst.length - s'10 < p.snd.snd.fst.length - s6 ∧
(↑s'10 : Int) = (↑s6 : Int) + (1 : Int) ∧
List.map (fun (e : SignalD) => e.fst) (List.take s'10 p.snd.snd.fst) = y8 ++ y9 ∧
keepP p (y4 = y4 ∧ True)) ∧
(y7 = false →
(∃ (s010 : Nat),
s010 ≤ p.snd.snd.snd.fst.length ∧
(↑s010 : Int) = (0 : Int) ∧
List.map (fun (e : LineD) => e.fst) (List.take s010 p.snd.snd.snd.fst) = [] ∧
keepP p (y4 = y4 ∧ y8 = y8 ∧ True)) ∧
∀ (s10 : Nat),
lett (decide ((↑s10 : Int) < (↑p.snd.snd.snd.fst.length : Int))) fun (y11 : Bool) =>
lett (List.map (fun (e : LineD) => e.fst) (List.take s10 p.snd.snd.snd.fst)) fun (y12 : List (List UInt8)) =>
lett ((List.replicate (1 : Nat) []).set (0 : Nat) (p.snd.snd.snd.fst.getD (↑s10 : Int).toNat ([], [])).fst) fun (y13 : List (List UInt8)) =>
s10 ≤ p.snd.snd.snd.fst.length →
(y11 = true →
InB (↑s10 : Int) p.snd.snd.snd.fst.length ∧
roomFor (y12.length + y13.length) (16 : Nat) ∧
InR IntKind.i64 ((↑s10 : Int) + (1 : Int)) ∧
∃ (s'14 : Nat),
s'14 ≤ p.snd.snd.snd.fst.length ∧
p.snd.snd.snd.fst.length - s'14 < p.snd.snd.snd.fst.length - s10 ∧
(↑s'14 : Int) = (↑s10 : Int) + (1 : Int) ∧
List.map (fun (e : LineD) => e.fst) (List.take s'14 p.snd.snd.snd.fst) = y12 ++ y13 ∧
keepP p (y4 = y4 ∧ y8 = y8 ∧ True)) ∧
(y11 = false →
y4 = List.map (fun (e : ElemD) => e.fst) p.fst ∧
y8 = List.map (fun (s : SignalD) => s.fst) p.snd.snd.fst ∧ y12 = List.map (fun (l : LineD) => l.fst) p.snd.snd.snd.fst ∧ True)))) := by kernel_rfl

theorem b69 (p : PlanD) (hp : namesPre p) : bodyVC (ctxOf tab []) Tryz.f69 c69 (a69 (p, ())) (p, ()) := by
  obtain ⟨p1, p2, p3⟩ := hp
  rw [v69]
  refine lett.mk fun y1 e1 => ?_
  simp only [keepP_eq, true_and, and_true, Int.toNat_natCast]
  refine ⟨⟨0, by omega, rfl, rfl⟩, fun s => lett.mk fun y3 e3 => lett.mk fun y4 e4 => lett.mk fun y5 e5 => ?_⟩
  intro hs
  have e5 : y5 = [(p.1.getD s zE).1] := e5
  refine ⟨fun h => ?_, fun h => ?_⟩
  · have h := lt_of_y e3 h
    refine ⟨⟨by omega, by omega⟩, roomB (by rw [e4, e5]; simp; omega) (by omega), inR64 (by omega) (by omega), s + 1, by omega, by omega, by omega, ?_⟩
    rw [map_succ _ zE h, e4, e5]
  have a1 := take_all e3 h
  refine ⟨⟨0, by omega, rfl, rfl⟩, fun t => lett.mk fun y7 e7 => lett.mk fun y8 e8 => lett.mk fun y9 e9 => ?_⟩
  intro ht
  have e9 : y9 = [(p.2.2.1.getD t zS).1] := by rw [e9, e1]; rfl
  refine ⟨fun h => ?_, fun h => ?_⟩
  · have h := lt_of_y e7 h
    refine ⟨⟨by omega, by omega⟩, roomB (by rw [e8, e9]; simp; omega) (by omega), inR64 (by omega) (by omega), t + 1, by omega, by omega, by omega, ?_⟩
    rw [map_succ _ zS h, e8, e9]
  have a2 := take_all e7 h
  refine ⟨⟨0, by omega, rfl, rfl⟩, fun u => lett.mk fun y11 e11 => lett.mk fun y12 e12 => lett.mk fun y13 e13 => ?_⟩
  intro hu
  have e13 : y13 = [(p.2.2.2.1.getD u zL).1] := e13
  refine ⟨fun h => ?_, fun h => ?_⟩
  · have h := lt_of_y e11 h
    refine ⟨⟨by omega, by omega⟩, roomB (by rw [e12, e13]; simp; omega) (by omega), inR64 (by omega) (by omega), u + 1, by omega, by omega, by omega, ?_⟩
    rw [map_succ _ zL h, e12, e13]
  have a3 := take_all e11 h
  rw [e4, e8, e12, a1, a2, a3]
  exact ⟨rfl, rfl, rfl⟩

theorem ok69 : DOk Tryz.prog 69 c69 :=
  DOk.of' (l := []) (A := a69) tabOk trivial Tryz.func69 (by kernel_rfl) (by kernel_rfl) fun x _ hp => b69 x.1 hp

theorem v70 (p : PlanD) : bodyVC (ctxOf tab [(118, c118), (119, c119), (105, c105)]) Tryz.f70 c70 (a70 (p, ())) (p, ()) = (
lett (!fIn (1 : Int) (60 : Int) p.snd.snd.snd.snd.fst) fun (y1 : Bool) =>
lett (bif y1 then true else !fIn (1 : Int) (10 : Int) p.snd.snd.snd.snd.snd.fst) fun (y2 : Bool) =>
lett (bif y2 then true else !fIn (1 : Int) (4000 : Int) p.snd.snd.snd.snd.snd.snd.fst) fun (y3 : Bool) =>
lett (bif bif y3 then true else !fIn (1 : Int) (20 : Int) p.snd.snd.snd.snd.snd.snd.snd.fst then true else (↑p.fst.length : Int) == (0 : Int)) fun (y4 : Bool) =>
True ∧
(y1 = false → True) ∧
(y2 = false → True) ∧
(y3 = false → True) ∧
(y4 = true → false = fArgs p ∧ True) ∧
(y4 = false →
(∃ (s05 : Nat),
(s05 ≤ p.fst.length ∧ allT fElemOk p.fst s05) ∧
(↑s05 : Int) = (0 : Int) ∧
keepP p (True)) ∧
∀ (s5 : Nat),
lett (decide ((↑s5 : Int) < (↑p.fst.length : Int))) fun (y6 : Bool) =>
lett (p.fst.getD (↑s5 : Int).toNat ([], (0 : Int), (0 : Int))) fun (y7 : List UInt8 × Int × Int) =>
lett (bif bif !fName y7.fst then true else fEnds y7.snd.fst == (0 : Int) then true else bif y7.snd.fst == (4 : Int) then y7.snd.snd != (0 : Int) else false)
fun (y8 : Bool) =>
lett (bif y8 then true else bif y7.snd.fst != (4 : Int) then !fIn (1 : Int) (4000 : Int) y7.snd.snd else false) fun (y9 : Bool) =>
s5 ≤ p.fst.length ∧ allT fElemOk p.fst s5 →
(y6 = true →
InB (↑s5 : Int) p.fst.length ∧
True ∧
((!fName y7.fst) = false → True) ∧
(y8 = false → (y7.snd.fst != (4 : Int)) = true → True) ∧
(y9 = true → false = fArgs p ∧ True) ∧
(y9 = false →
InR IntKind.i64 ((↑s5 : Int) + (1 : Int)) ∧
∃ (s'10 : Nat),
(s'10 ≤ p.fst.length ∧ allT fElemOk p.fst s'10) ∧
p.fst.length - s'10 < p.fst.length - s5 ∧
(↑s'10 : Int) = (↑s5 : Int) + (1 : Int) ∧
keepP p (True))) ∧
(y6 = false →
(∃ (s010 : Nat),
(s010 ≤ p.snd.snd.fst.length ∧ allT sigName p.snd.snd.fst s010) ∧
(↑s010 : Int) = (0 : Int) ∧
keepP p (True)) ∧
∀ (s10 : Nat),
lett (decide ((↑s10 : Int) < (↑p.snd.snd.fst.length : Int))) fun (y11 : Bool) =>
lett (!fName (p.snd.snd.fst.getD (↑s10 : Int).toNat ([], ((0 : Int), (0 : Int)), false)).fst) fun (y12 : Bool) =>
s10 ≤ p.snd.snd.fst.length ∧ allT sigName p.snd.snd.fst s10 →
(y11 = true →
InB (↑s10 : Int) p.snd.snd.fst.length ∧
True ∧
(y12 = true → false = fArgs p ∧ True) ∧
(y12 = false →
InR IntKind.i64 ((↑s10 : Int) + (1 : Int)) ∧
∃ (s'13 : Nat),
(s'13 ≤ p.snd.snd.fst.length ∧ allT sigName p.snd.snd.fst s'13) ∧
p.snd.snd.fst.length - s'13 < p.snd.snd.fst.length - s10 ∧
(↑s'13 : Int) = (↑s10 : Int) + (1 : Int) ∧
keepP p (True))) ∧
(y11 = false →
(∃ (s013 : Nat),
(s013 ≤ p.snd.snd.snd.fst.length ∧ allT lineName p.snd.snd.snd.fst s013) ∧
(↑s013 : Int) = (0 : Int) ∧
keepP p (True)) ∧
∀ (s13 : Nat),
lett (decide ((↑s13 : Int) < (↑p.snd.snd.snd.fst.length : Int))) fun (y14 : Bool) =>
lett (!fName (p.snd.snd.snd.fst.getD (↑s13 : Int).toNat ([], [])).fst) fun (y15 : Bool) =>
s13 ≤ p.snd.snd.snd.fst.length ∧ allT lineName p.snd.snd.snd.fst s13 →
(y14 = true →
InB (↑s13 : Int) p.snd.snd.snd.fst.length ∧
True ∧
(y15 = true → false = fArgs p ∧ True) ∧
(y15 = false →
InR IntKind.i64 ((↑s13 : Int) + (1 : Int)) ∧
∃ (s'16 : Nat),
(s'16 ≤ p.snd.snd.snd.fst.length ∧ allT lineName p.snd.snd.snd.fst s'16) ∧
p.snd.snd.snd.fst.length - s'16 < p.snd.snd.snd.fst.length - s13 ∧
(↑s'16 : Int) = (↑s13 : Int) + (1 : Int) ∧
keepP p (True))) ∧
(y14 = false → true = fArgs p ∧ True))))) := by kernel_rfl

theorem elem_key : ∀ n z g l0 f : Bool, (n && (!z && (bif g then l0 else f))) = !(bif (bif (bif !n then true else z) then true else (bif g then !l0 else false)) then true else (bif !g then !f else false)) := by decide

theorem b70 (p : PlanD) (hw : planWf p) : bodyVC (ctxOf tab [(118, c118), (119, c119), (105, c105)]) Tryz.f70 c70 (a70 (p, ())) (p, ()) := by
  rw [v70]
  refine lett.mk fun y1 e1 => lett.mk fun y2 e2 => lett.mk fun y3 e3 => lett.mk fun y4 e4 => ?_
  simp only [keepP_eq, true_and, and_true, Int.toNat_natCast]
  have hN : fNums p = !y4 := by
    rw [e4, e3, e2, e1, eqN' _ 0 0 rfl]
    unfold fNums
    have key : ∀ a b c d e : Bool, (a && (b && (c && (d && !e)))) = !(bif (bif (bif (bif !a then true else !b) then true else !c) then true else !d) then true else e) := by decide
    exact key _ _ _ _ _
  refine ⟨fun _ => trivial, fun _ => trivial, fun _ => trivial, fun h => ?_, fun h => ?_⟩
  · unfold fArgs
    rw [hN, h]
    rfl
  have hA : fArgs p = (p.1.all fElemOk && (p.2.2.1.all sigName && p.2.2.2.1.all lineName)) := by
    unfold fArgs
    rw [hN, h]
    rfl
  rw [hA]
  refine ⟨⟨0, ⟨by omega, rfl⟩, rfl⟩, fun s => lett.mk fun y6 e6 => lett.mk fun y7 e7 => lett.mk fun y8 e8 => lett.mk fun y9 e9 => ?_⟩
  rintro ⟨h1, h2⟩
  have h2 : (p.1.take s).all fElemOk = true := h2
  have e7 : y7 = p.1.getD s zE := e7
  have hE : fElemOk y7 = !y9 := by
    rw [e9, e8, bneB, bneB]
    unfold fElemOk
    exact elem_key _ _ _ _ _
  refine ⟨fun h => ?_, fun h => ?_⟩
  · have h := lt_of_y e6 h
    refine ⟨⟨by omega, by omega⟩, fun _ => trivial, fun _ _ => trivial, fun h9 => ?_, fun h9 => ⟨inRlen h hw.1, s + 1, ⟨by omega, ?_⟩, by omega, by omega⟩⟩
    · rw [all_no zE h (by rw [← e7, hE, h9]; rfl)]
      rfl
    · exact all_succ zE h h2 (by rw [← e7, hE, h9]; rfl)
  rw [all_full (le_of_y e6 h) h2, Bool.true_and]
  refine ⟨⟨0, ⟨by omega, rfl⟩, rfl⟩, fun t => lett.mk fun y11 e11 => lett.mk fun y12 e12 => ?_⟩
  rintro ⟨h1, h2⟩
  have h2 : (p.2.2.1.take t).all sigName = true := h2
  have e12 : sigName (p.2.2.1.getD t zS) = !y12 := by rw [e12, Bool.not_not]; rfl
  refine ⟨fun h => ?_, fun h => ?_⟩
  · have h := lt_of_y e11 h
    refine ⟨⟨by omega, by omega⟩, fun h9 => ?_, fun h9 => ⟨inRlen h hw.2.2.1, t + 1, ⟨by omega, ?_⟩, by omega, by omega⟩⟩
    · rw [all_no zS h (by rw [e12, h9]; rfl)]
      rfl
    · exact all_succ zS h h2 (by rw [e12, h9]; rfl)
  rw [all_full (le_of_y e11 h) h2, Bool.true_and]
  refine ⟨⟨0, ⟨by omega, rfl⟩, rfl⟩, fun u => lett.mk fun y14 e14 => lett.mk fun y15 e15 => ?_⟩
  rintro ⟨h1, h2⟩
  have h2 : (p.2.2.2.1.take u).all lineName = true := h2
  have e15 : lineName (p.2.2.2.1.getD u zL) = !y15 := by rw [e15, Bool.not_not]; rfl
  refine ⟨fun h => ?_, fun h => ?_⟩
  · have h := lt_of_y e14 h
    refine ⟨⟨by omega, by omega⟩, fun h9 => ?_, fun h9 => ⟨inRlen h hw.2.2.2, u + 1, ⟨by omega, ?_⟩, by omega, by omega⟩⟩
    · rw [all_no zL h (by rw [e15, h9]; rfl)]
    · exact all_succ zL h h2 (by rw [e15, h9]; rfl)
  rw [all_full (le_of_y e14 h) h2]

theorem ok70 : DOk Tryz.prog 70 c70 :=
  DOk.of' (l := [(118, c118), (119, c119), (105, c105)]) (A := a70) tabOk ⟨ok118, ok119, ok105, trivial⟩ Tryz.func70 (by kernel_rfl) (by kernel_rfl) fun x hw hp => b70 x.1 (plan_wf hw.1)

theorem args_nums {p : PlanD} (h : fArgs p = true) : fNums p = true := by
  unfold fArgs at h
  rw [Bool.and_eq_true] at h
  exact h.1

theorem v72 (p : PlanD) : bodyVC (ctxOf tab [(56, c56), (107, c107), (106, c106)]) Tryz.f72 c72 (a72 (p, ())) (p, ()) = (
lett (((0 : Int), (0 : Int)), (0 : Int), (0 : Int)) fun (y1 : (Int × Int) × Int × Int) =>
(∃ (s02 : Nat),
s02 ≤ p.snd.fst.length ∧
(↑s02 : Int) = (0 : Int) ∧
List.flatMap (fun (j : JoinD) => [j.fst, j.snd]) (List.take s02 p.snd.fst) = [] ∧
keepP p (True)) ∧
∀ (s2 : Nat),
lett (decide ((↑s2 : Int) < (↑p.snd.fst.length : Int))) fun (y3 : Bool) =>
lett (List.flatMap (fun (j : JoinD) => [j.fst, j.snd]) (List.take s2 p.snd.fst)) fun (y4 : List (Int × Int)) =>
lett (p.snd.fst.getD (↑s2 : Int).toNat y1) fun (y5 : (Int × Int) × Int × Int) =>
lett (((List.replicate (2 : Nat) ((0 : Int), (0 : Int))).set (0 : Nat) y5.fst).set (1 : Nat) y5.snd) fun (y6 : List (Int × Int)) =>
s2 ≤ p.snd.fst.length →
(y3 = true →
InB (↑s2 : Int) p.snd.fst.length ∧
InB (↑s2 : Int) p.snd.fst.length ∧
roomFor (y4.length + y6.length) (16 : Nat) ∧
InR IntKind.i64 ((↑s2 : Int) + (1 : Int)) ∧
∃ (s'7 : Nat),
s'7 ≤ p.snd.fst.length ∧
p.snd.fst.length - s'7 < p.snd.fst.length - s2 ∧
(↑s'7 : Int) = (↑s2 : Int) + (1 : Int) ∧
List.flatMap (fun (j : JoinD) => [j.fst, j.snd]) (List.take s'7 p.snd.fst) = y4 ++ y6 ∧
keepP p (True)) ∧
(y3 = false →
(∃ (s07 : Nat),
(s07 ≤ (joinEnds p).length ∧ allOf (endOk p) s07) ∧
(↑s07 : Int) = (0 : Int) ∧
keepP p (y4 = y4 ∧ True)) ∧
∀ (s7 : Nat),
lett (decide ((↑s7 : Int) < (↑y4.length : Int))) fun (y8 : Bool) =>
lett (y4.getD (↑s7 : Int).toNat ((0 : Int), (0 : Int))) fun (y9 : Int × Int) =>
s7 ≤ (joinEnds p).length ∧ allOf (endOk p) s7 →
(y8 = true →
InB (↑s7 : Int) y4.length ∧
True ∧
((!fHas p y9) = true → false = fJoined p ∧ True) ∧
((!fHas p y9) = false →
(∃ (s010 : Nat),
(s010 ≤ (↑s7 : Int).toNat ∧ noneOf (sameEnd p (↑s7 : Int).toNat) s010) ∧
(↑s010 : Int) = (0 : Int) ∧
(↑s7 : Int) = (↑s7 : Int) ∧
keepP p (y4 = y4 ∧ True)) ∧
∀ (s10 : Nat),
lett (decide ((↑s10 : Int) < (↑s7 : Int))) fun (y11 : Bool) =>
lett (y4.getD (↑s10 : Int).toNat ((0 : Int), (0 : Int))) fun (y12 : Int × Int) =>
lett (y12.fst == y9.fst && (y12.snd == y9.snd && true)) fun (y13 : Bool) =>
s10 ≤ (↑s7 : Int).toNat ∧ noneOf (sameEnd p (↑s7 : Int).toNat) s10 →
(y11 = true →
InB (↑s10 : Int) y4.length ∧
InB (↑s7 : Int) y4.length ∧
(y13 = true → false = fJoined p ∧ True) ∧
(y13 = false →
InR IntKind.i64 ((↑s10 : Int) + (1 : Int)) ∧
∃ (s'14 : Nat),
(s'14 ≤ (↑s7 : Int).toNat ∧ noneOf (sameEnd p (↑s7 : Int).toNat) s'14) ∧
(↑s7 : Int).toNat - s'14 < (↑s7 : Int).toNat - s10 ∧
(↑s'14 : Int) = (↑s10 : Int) + (1 : Int) ∧
(↑s7 : Int) = (↑s7 : Int) ∧
keepP p (y4 = y4 ∧ True))) ∧
(y11 = false →
InR IntKind.i64 ((↑s7 : Int) + (1 : Int)) ∧
∃ (s'14 : Nat),
(s'14 ≤ (joinEnds p).length ∧ allOf (endOk p) s'14) ∧
(joinEnds p).length - s'14 < (joinEnds p).length - s7 ∧
(↑s'14 : Int) = (↑s7 : Int) + (1 : Int) ∧
keepP p (y4 = y4 ∧ True)))) ∧
(y8 = false →
(∃ (s010 : Nat),
(s010 ≤ p.fst.length ∧ allOf (gateOk p) s010) ∧
(↑s010 : Int) = (0 : Int) ∧
keepP p (True)) ∧
∀ (s10 : Nat),
lett (decide ((↑s10 : Int) < (↑p.fst.length : Int))) fun (y11 : Bool) =>
lett ((p.fst.getD (↑s10 : Int).toNat ([], (0 : Int), (0 : Int))).snd.fst == (4 : Int)) fun (y12 : Bool) =>
lett (fNext p ((↑s10 : Int), (0 : Int))) fun (y13 : PortD × Bool) =>
lett (bif !y13.snd then true else fKind p y13.fst.fst == (4 : Int)) fun (y14 : Bool) =>
s10 ≤ p.fst.length ∧ allOf (gateOk p) s10 →
(y11 = true →
InB (↑s10 : Int) p.fst.length ∧
(y12 = true →
True ∧
((!y13.snd) = false → True) ∧
(y14 = true → false = fJoined p ∧ True) ∧
(y14 = false →
InR IntKind.i64 ((↑s10 : Int) + (1 : Int)) ∧
∃ (s'15 : Nat),
(s'15 ≤ p.fst.length ∧ allOf (gateOk p) s'15) ∧
p.fst.length - s'15 < p.fst.length - s10 ∧
(↑s'15 : Int) = (↑s10 : Int) + (1 : Int) ∧
keepP p (True))) ∧
(y12 = false →
InR IntKind.i64 ((↑s10 : Int) + (1 : Int)) ∧
∃ (s'15 : Nat),
(s'15 ≤ p.fst.length ∧ allOf (gateOk p) s'15) ∧
p.fst.length - s'15 < p.fst.length - s10 ∧
(↑s'15 : Int) = (↑s10 : Int) + (1 : Int) ∧
keepP p (True))) ∧
(y11 = false → true = fJoined p ∧ True)))) := by kernel_rfl

theorem b72 (p : PlanD) (hp : p.2.1.length ≤ 1000) (hw : planWf p) : bodyVC (ctxOf tab [(56, c56), (107, c107), (106, c106)]) Tryz.f72 c72 (a72 (p, ())) (p, ()) := by
  have hJ : fJoined p = (allTo (endOk p) (joinEnds p).length && allTo (gateOk p) p.1.length) := by unfold fJoined; rfl
  have hlen : ∀ l : List JoinD, (l.flatMap fun j => [j.1, j.2]).length = 2 * l.length := fun l => by
    induction l with
    | nil => rfl
    | cons x l ih => rw [List.flatMap_cons, List.length_append, ih, List.length_cons]; simp; omega
  have hEl : (joinEnds p).length = 2 * p.2.1.length := hlen p.2.1
  rw [v72, hJ]
  refine lett.mk fun y1 e1 => ?_
  simp only [keepP_eq, true_and, and_true, Int.toNat_natCast]
  refine ⟨⟨0, by omega, rfl, rfl⟩, fun s => lett.mk fun y3 e3 => lett.mk fun y4 e4 => lett.mk fun y5 e5 => lett.mk fun y6 e6 => ?_⟩
  intro hs
  have e6 : y6 = [y5.1, y5.2] := e6
  have e5 : y5 = p.2.1.getD s zJ := by rw [e5, e1]; rfl
  refine ⟨fun h => ?_, fun h => ?_⟩
  · have h := lt_of_y e3 h
    refine ⟨⟨by omega, by omega⟩, ⟨by omega, by omega⟩, roomB (by rw [e4, e6, hlen, List.length_take]; simp; omega) (by omega), inR64 (by omega) (by omega), s + 1, by omega, by omega, by omega, ?_⟩
    rw [flat_succ _ zJ h, e4, e6, e5]
  have hall := take_all e3 h
  have e4 : y4 = joinEnds p := by rw [e4, hall]; rfl
  subst e4
  refine ⟨⟨0, ⟨by omega, rfl⟩, rfl⟩, fun t => lett.mk fun y8 e8 => lett.mk fun y9 e9 => ?_⟩
  rintro ⟨h1, h2⟩
  have h2 : allTo (endOk p) t = true := h2
  have e9 : y9 = (joinEnds p).getD t zP := e9
  refine ⟨fun h => ?_, fun h => ?_⟩
  · have h := lt_of_y e8 h
    refine ⟨⟨by omega, by omega⟩, fun hh => ?_, fun hh => ⟨⟨0, ⟨by omega, rfl⟩, rfl⟩, fun u => lett.mk fun y11 e11 => lett.mk fun y12 e12 => lett.mk fun y13 e13 => ?_⟩⟩
    · simp only [Bool.not_eq_true'] at hh
      rw [allTo_no (p := endOk p) h (by unfold endOk; rw [← e9, hh]; rfl)]
      rfl
    simp only [Bool.not_eq_false'] at hh
    rintro ⟨g1, g2⟩
    have g2 : anyTo (sameEnd p t) u = false := g2
    have e13 : sameEnd p t u = y13 := by rw [e13, portBeq, e12, e9]; rfl
    refine ⟨fun hu => ?_, fun hu => ?_⟩
    · have hu := lt_of_y e11 hu
      refine ⟨⟨by omega, by omega⟩, ⟨by omega, by omega⟩, fun h13 => ?_, fun h13 => ⟨inR64 (by omega) (by omega), u + 1, ⟨by omega, ?_⟩, by omega, by omega⟩⟩
      · have hn : anyTo (sameEnd p t) t = true := anyTo_yes hu (by rw [e13, h13])
        rw [allTo_no (p := endOk p) h (by
          show (fHas p _ && !anyTo (sameEnd p t) t) = false
          rw [hn, Bool.not_true, Bool.and_false])]
        rfl
      · exact anyTo_succ g2 (by rw [e13, h13])
    · have hu := le_of_y e11 hu
      have : u = t := by omega
      subst this
      refine ⟨inR64 (by omega) (by omega), u + 1, ⟨by omega, ?_⟩, by omega, by omega⟩
      exact allTo_succ h2 (by
        show (fHas p _ && !anyTo (sameEnd p u) u) = true
        rw [← e9, hh, g2]; rfl)
  have hle := le_of_y e8 h
  have ht : t = (joinEnds p).length := by omega
  subst ht
  rw [h2, Bool.true_and]
  refine ⟨⟨0, ⟨by omega, rfl⟩, rfl⟩, fun u => lett.mk fun y11 e11 => lett.mk fun y12 e12 => lett.mk fun y13 e13 => lett.mk fun y14 e14 => ?_⟩
  rintro ⟨g1, g2⟩
  have g2 : allTo (gateOk p) u = true := g2
  have hG : gateOk p u = !(bif y12 then y14 else false) := by
    rw [e14, e12, e13]
    unfold gateOk
    have key : ∀ a b c : Bool, (bif a then (b && !c) else true) = !(bif a then (bif !b then true else c) else false) := by decide
    exact key _ _ _
  refine ⟨fun h => ?_, fun h => ?_⟩
  · have h := lt_of_y e11 h
    refine ⟨⟨by omega, by omega⟩, fun h12 => ⟨fun _ => trivial, fun h14 => ?_, fun h14 => ⟨inRlen h hw.1, u + 1, ⟨by omega, ?_⟩, by omega, by omega⟩⟩, fun h12 => ⟨inRlen h hw.1, u + 1, ⟨by omega, ?_⟩, by omega, by omega⟩⟩
    · exact (allTo_no h (by rw [hG, h12, h14]; rfl)).symm
    · exact allTo_succ g2 (by rw [hG, h12, h14]; rfl)
    · exact allTo_succ g2 (by rw [hG, h12]; rfl)
  have hle := le_of_y e11 h
  have hu : u = p.1.length := by omega
  subst hu
  exact g2.symm

theorem ok72 : DOk Tryz.prog 72 c72 :=
  DOk.of' (l := [(56, c56), (107, c107), (106, c106)]) (A := a72) tabOk ⟨ok56, ok107, ok106, trivial⟩ Tryz.func72 (by kernel_rfl) (by kernel_rfl) fun x hw hp => b72 x.1 hp (plan_wf hw.1)

/-- In a joined plan whatever is joined is an end. -/
theorem next_has {p : PlanD} (hj : fJoined p = true) {x : PortD} (h : (fNext p x).2 = true) : fHas p (fNext p x).1 = true := by
  have hm := next_mem h
  obtain ⟨i, hi, he⟩ := List.mem_iff_getElem.1 hm
  unfold fJoined at hj
  rw [Bool.and_eq_true] at hj
  have := allTo_iff.1 hj.1 i hi
  unfold endOk at this
  rw [Bool.and_eq_true, getD_at zP hi, he] at this
  exact this.1

theorem v73 (p : PlanD) : bodyVC (ctxOf tab [(56, c56), (107, c107), (106, c106), (120, c120)]) Tryz.f73 c73 (a73 (p, ())) (p, ()) = (
lett ([], ((0 : Int), (0 : Int)), false) fun (y1 : List UInt8 × (Int × Int) × Bool) =>
(∃ (s02 : Nat),
(s02 ≤ p.snd.snd.fst.length ∧ allOf (sigOk p) s02) ∧
(↑s02 : Int) = (0 : Int) ∧
keepP p (True)) ∧
∀ (s2 : Nat),
lett (decide ((↑s2 : Int) < (↑p.snd.snd.fst.length : Int))) fun (y3 : Bool) =>
lett (p.snd.snd.fst.getD (↑s2 : Int).toNat y1).snd.fst fun (y4 : Int × Int) =>
lett (bif !fHas p y4 then true else bif fKind p y4.fst != (1 : Int) then fKind p y4.fst != (4 : Int) else false) fun (y5 : Bool) =>
lett (bif !(fNext p y4).snd then true else fKind p (fNext p y4).fst.fst == (4 : Int)) fun (y6 : Bool) =>
lett (bif y6 then true else fReads p y4 != (↑s2 : Int)) fun (y7 : Bool) =>
s2 ≤ p.snd.snd.fst.length ∧ allOf (sigOk p) s2 →
(y3 = true →
InB (↑s2 : Int) p.snd.snd.fst.length ∧
True ∧
True ∧
(y5 = true → false = fSignals p ∧ True) ∧
(y5 = false →
True ∧
((!(fNext p y4).snd) = false → True) ∧
(y6 = false → True) ∧
(y7 = true → false = fSignals p ∧ True) ∧
(y7 = false →
InR IntKind.i64 ((↑s2 : Int) + (1 : Int)) ∧
∃ (s'8 : Nat),
(s'8 ≤ p.snd.snd.fst.length ∧ allOf (sigOk p) s'8) ∧
p.snd.snd.fst.length - s'8 < p.snd.snd.fst.length - s2 ∧
(↑s'8 : Int) = (↑s2 : Int) + (1 : Int) ∧
keepP p (True)))) ∧
(y3 = false →
(∃ (s08 : Nat),
(s08 ≤ p.fst.length ∧ allOf (gateSig p) s08) ∧
(↑s08 : Int) = (0 : Int) ∧
keepP p (True)) ∧
∀ (s8 : Nat),
lett (decide ((↑s8 : Int) < (↑p.fst.length : Int))) fun (y9 : Bool) =>
lett ((p.fst.getD (↑s8 : Int).toNat ([], (0 : Int), (0 : Int))).snd.fst == (4 : Int)) fun (y10 : Bool) =>
lett (fReads p ((↑s8 : Int), (0 : Int))) fun (y11 : Int) =>
lett (bif y10 then decide (y11 < (0 : Int)) else false) fun (y12 : Bool) =>
s8 ≤ p.fst.length ∧ allOf (gateSig p) s8 →
(y9 = true →
InB (↑s8 : Int) p.fst.length ∧
(y10 = true → True) ∧
(y12 = true → false = fSignals p ∧ True) ∧
(y12 = false →
InR IntKind.i64 ((↑s8 : Int) + (1 : Int)) ∧
∃ (s'13 : Nat),
(s'13 ≤ p.fst.length ∧ allOf (gateSig p) s'13) ∧
p.fst.length - s'13 < p.fst.length - s8 ∧
(↑s'13 : Int) = (↑s8 : Int) + (1 : Int) ∧
keepP p (True))) ∧
(y9 = false → true = fSignals p ∧ True))) := by kernel_rfl

theorem b73 (p : PlanD) (hw : planWf p) : bodyVC (ctxOf tab [(56, c56), (107, c107), (106, c106), (120, c120)]) Tryz.f73 c73 (a73 (p, ())) (p, ()) := by
  have hJ : fSignals p = (allTo (sigOk p) p.2.2.1.length && allTo (gateSig p) p.1.length) := by unfold fSignals; rfl
  rw [v73, hJ]
  refine lett.mk fun y1 e1 => ?_
  simp only [keepP_eq, true_and, and_true, Int.toNat_natCast]
  refine ⟨⟨0, ⟨by omega, rfl⟩, rfl⟩, fun s => lett.mk fun y3 e3 => lett.mk fun y4 e4 => lett.mk fun y5 e5 => lett.mk fun y6 e6 => lett.mk fun y7 e7 => ?_⟩
  rintro ⟨h1, h2⟩
  have h2 : allTo (sigOk p) s = true := h2
  have e4 : y4 = (p.2.2.1.getD s zS).2.1 := by rw [e4, e1]; rfl
  have hS : sigOk p s = (!y5 && !y7) := by
    rw [e7, e6, e5, bneB, bneB, bneB]
    unfold sigOk sigOkX
    rw [← e4]
    have key : ∀ a b c d e f : Bool, (a && ((b || c) && (d && (!e && f)))) = (!(bif !a then true else (bif !b then !c else false)) && !(bif (bif !d then true else e) then true else !f)) := by decide
    exact key _ _ _ _ _ _
  refine ⟨fun h => ?_, fun h => ?_⟩
  · have h := lt_of_y e3 h
    refine ⟨⟨by omega, by omega⟩, fun h5 => ?_, fun h5 => ⟨fun _ => trivial, fun _ => trivial, fun h7 => ?_, fun h7 => ⟨inRlen h hw.2.2.1, s + 1, ⟨by omega, ?_⟩, by omega, by omega⟩⟩⟩
    · rw [allTo_no (p := sigOk p) h (by rw [hS, h5]; rfl)]
      rfl
    · rw [allTo_no (p := sigOk p) h (by rw [hS, h5, h7]; rfl)]
      rfl
    · exact allTo_succ h2 (by rw [hS, h5, h7]; rfl)
  have hle := le_of_y e3 h
  have ht : s = p.2.2.1.length := by omega
  subst ht
  rw [h2, Bool.true_and]
  refine ⟨⟨0, ⟨by omega, rfl⟩, rfl⟩, fun u => lett.mk fun y9 e9 => lett.mk fun y10 e10 => lett.mk fun y11 e11 => lett.mk fun y12 e12 => ?_⟩
  rintro ⟨g1, g2⟩
  have g2 : allTo (gateSig p) u = true := g2
  have hG : gateSig p u = !y12 := by
    rw [e12, e10, ltI, e11]
    unfold gateSig
    have key : ∀ a b : Bool, (bif a then b else true) = !(bif a then !b else false) := by decide
    exact key _ _
  refine ⟨fun h => ?_, fun h => ?_⟩
  · have h := lt_of_y e9 h
    refine ⟨⟨by omega, by omega⟩, fun _ => trivial, fun h12 => ?_, fun h12 => ⟨inRlen h hw.1, u + 1, ⟨by omega, ?_⟩, by omega, by omega⟩⟩
    · exact (allTo_no h (by rw [hG, h12]; rfl)).symm
    · exact allTo_succ g2 (by rw [hG, h12]; rfl)
  have hle := le_of_y e9 h
  have hu : u = p.1.length := by omega
  subst hu
  exact g2.symm

theorem ok73 : DOk Tryz.prog 73 c73 :=
  DOk.of' (l := [(56, c56), (107, c107), (106, c106), (120, c120)]) (A := a73) tabOk ⟨ok56, ok107, ok106, ok120, trivial⟩ Tryz.func73 (by kernel_rfl) (by kernel_rfl) fun x hw hp => b73 x.1 (plan_wf hw.1)

theorem v57 (p : PlanD) (l : List Int) : bodyVC (ctxOf tab [(107, c107), (106, c106)]) Tryz.f57 c57 (a57 (p, l, ())) (p, l, ()) = (
(((↑l.length : Int) == (0 : Int)) = true → [] = (fEnters p l).fst ∧ false = (fEnters p l).snd ∧ True) ∧
(((↑l.length : Int) == (0 : Int)) = false →
(∃ (s02 : Nat),
(s02 ≤ l.length ∧ allT (isTrack p) l s02) ∧
(↑s02 : Int) = (0 : Int) ∧
l = l ∧
keepP p (True)) ∧
∀ (s2 : Nat),
lett (decide ((↑s2 : Int) < (↑l.length : Int))) fun (y3 : Bool) =>
lett (fKind p (l.getD (↑s2 : Int).toNat (0 : Int)) != (1 : Int)) fun (y4 : Bool) =>
s2 ≤ l.length ∧ allT (isTrack p) l s2 →
(y3 = true →
InB (↑s2 : Int) l.length ∧
True ∧
(y4 = true → [] = (fEnters p l).fst ∧ false = (fEnters p l).snd ∧ True) ∧
(y4 = false →
InR IntKind.i64 ((↑s2 : Int) + (1 : Int)) ∧
∃ (s'5 : Nat),
(s'5 ≤ l.length ∧ allT (isTrack p) l s'5) ∧
l.length - s'5 < l.length - s2 ∧
(↑s'5 : Int) = (↑s2 : Int) + (1 : Int) ∧
l = l ∧
keepP p (True))) ∧
(y3 = false →
(((↑l.length : Int) == (1 : Int)) = true → (List.replicate (1 : Nat) (0 : Int)).set (0 : Nat) (0 : Int) = (fEnters p l).fst ∧ true = (fEnters p l).snd ∧ True) ∧
(((↑l.length : Int) == (1 : Int)) = false →
(∃ (s05 : Nat),
s05 ≤ (2 : Nat) ∧
(1 : Int) - (↑s05 : Int) = (1 : Int) ∧
outAt p l s05 = (-1 : Int) ∧
l = l ∧
keepP p (True)) ∧
∀ (s5 : Nat),
lett (decide ((1 : Int) - (↑s5 : Int) ≥ (0 : Int))) fun (y6 : Bool) =>
lett (fNext p (l.getD (Int.toNat (0 : Int)) (0 : Int), (1 : Int) - (↑s5 : Int))) fun (y7 : PortD × Bool) =>
lett ((1 : Int) - (↑s5 : Int) - (1 : Int)) fun (y8 : Int) =>
lett (decide (outAt p l s5 < (0 : Int))) fun (y9 : Bool) =>
lett ((1 : Int) - outAt p l s5) fun (y10 : Int) =>
s5 ≤ (2 : Nat) →
(y6 = true →
InB (0 : Int) l.length ∧
True ∧
(y7.snd = true → InB (1 : Int) l.length) ∧
InR IntKind.i64 y8 ∧
∃ (s'11 : Nat),
s'11 ≤ (2 : Nat) ∧
(2 : Nat) - s'11 < (2 : Nat) - s5 ∧
(1 : Int) - (↑s'11 : Int) = y8 ∧
(outAt p l s'11 =
bif bif y7.snd then y7.fst.fst == l.getD (Int.toNat (1 : Int)) (0 : Int) else false then (1 : Int) - (↑s5 : Int) else outAt p l s5) ∧
l = l ∧
keepP p (True)) ∧
(y6 = false →
(y9 = true → [] = (fEnters p l).fst ∧ false = (fEnters p l).snd ∧ True) ∧
(y9 = false →
InR IntKind.i64 y10 ∧
(∃ (s011 : Nat),
(s011 < l.length ∧ (fEnt p l (fOut0 p l) s011).snd.snd = true) ∧
(↑s011 : Int) + (1 : Int) = (1 : Int) ∧
(fEnt p l (fOut0 p l) s011).snd.fst = outAt p l s5 ∧
l = l ∧
(fEnt p l (fOut0 p l) s011).fst = (List.replicate (1 : Nat) (0 : Int)).set (0 : Nat) y10 ∧
keepP p (True)) ∧
∀ (s11 : Nat),
lett (fEnt p l (fOut0 p l) s11) fun (y12 : List Int × Int × Bool) =>
lett (decide ((↑s11 : Int) + (1 : Int) < (↑l.length : Int))) fun (y13 : Bool) =>
lett ((↑s11 : Int) + (1 : Int) - (1 : Int)) fun (y14 : Int) =>
lett (fNext p (l.getD y14.toNat (0 : Int), y12.snd.fst)) fun (y15 : PortD × Bool) =>
lett (bif !y15.snd then true else y15.fst.fst != l.getD ((↑s11 : Int) + (1 : Int)).toNat (0 : Int)) fun (y16 : Bool) =>
lett ((List.replicate (1 : Nat) (0 : Int)).set (0 : Nat) y15.fst.snd) fun (y17 : List Int) =>
lett ((↑s11 : Int) + (1 : Int) + (1 : Int)) fun (y18 : Int) =>
s11 < l.length ∧ y12.snd.snd = true →
(y13 = true →
InR IntKind.i64 y14 ∧
InB y14 l.length ∧
True ∧
((!y15.snd) = false → InB ((↑s11 : Int) + (1 : Int)) l.length) ∧
(y16 = true → [] = (fEnters p l).fst ∧ false = (fEnters p l).snd ∧ True) ∧
(y16 = false →
roomFor (y12.fst.length + y17.length) (8 : Nat) ∧
InR IntKind.i64 ((1 : Int) - y15.fst.snd) ∧
InR IntKind.i64 y18 ∧
∃ (s'19 : Nat),
(s'19 < l.length ∧ (fEnt p l (fOut0 p l) s'19).snd.snd = true) ∧
l.length - s'19 < l.length - s11 ∧
(↑s'19 : Int) + (1 : Int) = y18 ∧
(fEnt p l (fOut0 p l) s'19).snd.fst = (1 : Int) - y15.fst.snd ∧
l = l ∧
(fEnt p l (fOut0 p l) s'19).fst = y12.fst ++ y17 ∧
keepP p (True))) ∧
(y13 = false → y12.fst = (fEnters p l).fst ∧ true = (fEnters p l).snd ∧ True))))))) := by kernel_rfl

theorem ent_false {p : PlanD} {l : List Int} {o : Int} {k : Nat} (h : (fEnt p l o k).2.2 = false) : ∀ m, k ≤ m → (fEnt p l o m).2.2 = false
  | 0, hm => by
    have : k = 0 := by omega
    rw [this] at h
    exact h
  | m + 1, hm => by
    by_cases e : k = m + 1
    · rw [← e]; exact h
    · have ih := ent_false h m (by omega)
      show (bif (fEnt p l o m).2.2 && _ then _ else _ : List Int × Int × Bool).2.2 = false
      rw [ih]
      rfl

theorem ent_len {p : PlanD} {l : List Int} {o : Int} : ∀ k, (fEnt p l o k).1.length ≤ k + 1
  | 0 => Nat.le_refl _
  | k + 1 => by
    have := ent_len (p := p) (l := l) (o := o) k
    show (bif (fEnt p l o k).2.2 && _ then _ else _ : List Int × Int × Bool).1.length ≤ _
    cases (fEnt p l o k).2.2 && ((entGo p l k (fEnt p l o k).2.1).2 && (entGo p l k (fEnt p l o k).2.1).1.1 == l.getD (k + 1) 0) with
    | true => rw [cond_true, List.length_append]; show _ + 1 ≤ _; omega
    | false => rw [cond_false]; show (fEnt p l o k).1.length ≤ _; omega

theorem out_range (p : PlanD) (l : List Int) (k : Nat) : -1 ≤ outAt p l k ∧ outAt p l k ≤ 1 := by
  match k with
  | 0 => show -1 ≤ (-1 : Int) ∧ (-1 : Int) ≤ 1; exact ⟨by decide, by decide⟩
  | 1 => show -1 ≤ (bif outTo p l 1 then 1 else -1 : Int) ∧ (bif outTo p l 1 then 1 else -1 : Int) ≤ 1; cases outTo p l 1 <;> exact ⟨by decide, by decide⟩
  | _ + 2 => show -1 ≤ fOut0 p l ∧ fOut0 p l ≤ 1; unfold fOut0; cases outTo p l 0 <;> cases outTo p l 1 <;> exact ⟨by decide, by decide⟩

theorem b57 (p : PlanD) (l : List Int) (hj : fJoined p = true) (hl : l.length ≤ 1000) : bodyVC (ctxOf tab [(107, c107), (106, c106)]) Tryz.f57 c57 (a57 (p, l, ())) (p, l, ()) := by
  have hE : fEnters p l = bif decide (l.length = 0) || !l.all (isTrack p) then ([], false) else bif decide (l.length = 1) then ([0], true) else bif decide (fOut0 p l < 0) then ([], false) else
    bif (fEnt p l (fOut0 p l) (l.length - 1)).2.2 then ((fEnt p l (fOut0 p l) (l.length - 1)).1, true) else ([], false) := by unfold fEnters; rfl
  rw [v57, eqN' _ 0 0 rfl, eqN' _ 1 1 rfl]
  simp only [keepP_eq, true_and, and_true, Int.toNat_natCast]
  refine ⟨fun h => ?_, fun h0 => ⟨⟨0, ⟨by omega, rfl⟩, rfl⟩, fun s => lett.mk fun y3 e3 => lett.mk fun y4 e4 => ?_⟩⟩
  · rw [hE, h]
    exact ⟨rfl, rfl⟩
  rintro ⟨h1, h2⟩
  have h2 : (l.take s).all (isTrack p) = true := h2
  have hl0 := of_decide_eq_false h0
  have e4 : isTrack p (l.getD s 0) = !y4 := by rw [e4, bneB, Bool.not_not]; rfl
  refine ⟨fun h => ?_, fun h => ?_⟩
  · have h := lt_of_y e3 h
    refine ⟨⟨by omega, by omega⟩, fun h4 => ?_, fun h4 => ⟨inR64 (by omega) (by omega), s + 1, ⟨by omega, ?_⟩, by omega, by omega⟩⟩
    · rw [hE, all_no 0 h (by rw [e4, h4]; rfl), h0]
      exact ⟨rfl, rfl⟩
    · exact all_succ 0 h h2 (by rw [e4, h4]; rfl)
  have hall := all_full (le_of_y e3 h) h2
  rw [h0, hall] at hE
  refine ⟨fun h1 => ?_, fun h1 => ⟨⟨0, by omega, rfl, rfl⟩, fun t => lett.mk fun y6 e6 => lett.mk fun y7 e7 => lett.mk fun y8 e8 => lett.mk fun y9 e9 => lett.mk fun y10 e10 => ?_⟩⟩
  · rw [hE, h1]
    exact ⟨rfl, rfl⟩
  rw [h1] at hE
  have hl1 := of_decide_eq_false h1
  intro ht
  have hor := out_range p l t
  refine ⟨fun h6 => ?_, fun h6 => ?_⟩
  · rw [e6] at h6
    have h6 := of_decide_eq_true h6
    refine ⟨⟨by omega, by omega⟩, fun _ => ⟨by omega, by omega⟩, inR64 (by omega) (by omega), t + 1, by omega, by omega, by omega, ?_⟩
    have hb : (bif y7.2 then y7.1.1 == l.getD (Int.toNat 1) 0 else false) = outTo p l (1 - (t : Int)) := by
      rw [e7]
      unfold outTo
      have key : ∀ a b : Bool, (bif a then b else false) = (a && b) := by decide
      exact key _ _
    rw [hb]
    have hc : t = 0 ∨ t = 1 := by omega
    rcases hc with rfl | rfl
    · rfl
    · show fOut0 p l = _
      unfold fOut0
      rfl
  · rw [e6] at h6
    have h6 := of_decide_eq_false h6
    have ht2 : t = 2 := by omega
    subst ht2
    have hO : outAt p l 2 = fOut0 p l := rfl
    rw [hO] at e9 e10 hor
    refine ⟨fun h9 => ?_, fun h9 => ?_⟩
    · rw [hE, ← e9, h9]
      exact ⟨rfl, rfl⟩
    rw [← e9, h9] at hE
    have hE : fEnters p l = bif (fEnt p l (fOut0 p l) (l.length - 1)).2.2 then ((fEnt p l (fOut0 p l) (l.length - 1)).1, true) else ([], false) := hE
    refine ⟨inR64 (by omega) (by omega), ⟨0, ⟨by omega, rfl⟩, rfl, rfl, by rw [e10]; rfl⟩, fun u => lett.mk fun y12 e12 => lett.mk fun y13 e13 => lett.mk fun y14 e14 => lett.mk fun y15 e15 => lett.mk fun y16 e16 => lett.mk fun y17 e17 => lett.mk fun y18 e18 => ?_⟩
    rintro ⟨g1, g2⟩
    have hut : ((u : Int) + 1).toNat = u + 1 := by omega
    have hu14 : y14.toNat = u := by omega
    rw [hut] at e16
    rw [hu14] at e15
    have e17 : y17 = [y15.1.2] := e17
    have hgo : fEnt p l (fOut0 p l) (u + 1) = bif !y16 then (y12.1 ++ [y15.1.2], 1 - y15.1.2, true) else (y12.1, y12.2.1, false) := by
      have hb : ((fEnt p l (fOut0 p l) u).2.2 && ((entGo p l u (fEnt p l (fOut0 p l) u).2.1).2 && (entGo p l u (fEnt p l (fOut0 p l) u).2.1).1.1 == l.getD (u + 1) 0)) = !y16 := by
        rw [e16, bneB, e15, ← e12, g2]
        unfold entGo
        have key : ∀ a b : Bool, (true && (a && b)) = !(bif !a then true else !b) := by decide
        exact key _ _
      show (bif _ then _ else _) = _
      rw [hb, ← e12, e15]
      rfl
    refine ⟨fun h13 => ?_, fun h13 => ?_⟩
    · rw [e13] at h13
      have h13 := of_decide_eq_true h13
      refine ⟨inR64 (by omega) (by omega), ⟨by omega, by omega⟩, fun _ => ⟨by omega, by omega⟩, fun h16 => ?_, fun h16 => ?_⟩
      · have hf : (fEnt p l (fOut0 p l) (u + 1)).2.2 = false := by rw [hgo, h16]; rfl
        rw [hE, ent_false hf (l.length - 1) (by omega)]
        exact ⟨rfl, rfl⟩
      · have h15 : y15.2 = true := by
          rw [h16] at e16
          have := (bif_or e16.symm).1
          simpa using this
        have he : 0 ≤ y15.1.2 ∧ y15.1.2 ≤ 3 := by
          rw [e15] at h15 ⊢
          exact has_end (next_has hj h15)
        have hln := ent_len (p := p) (l := l) (o := fOut0 p l) u
        rw [← e12] at hln
        rw [h16] at hgo
        refine ⟨roomB (by rw [e17]; simp; omega) (by omega), inR64 (by omega) (by omega), inR64 (by omega) (by omega), u + 1, ⟨by omega, by rw [hgo]; rfl⟩, by omega, by omega, ?_, ?_⟩
        · rw [hgo]; rfl
        · rw [hgo, e17]; rfl
    · rw [e13] at h13
      have h13 := of_decide_eq_false h13
      have hu : u = l.length - 1 := by omega
      subst hu
      rw [hE, ← e12, g2]
      exact ⟨rfl, rfl⟩

theorem ok57 : DOk Tryz.prog 57 c57 :=
  DOk.of' (l := [(107, c107), (106, c106)]) (A := a57) tabOk ⟨ok107, ok106, trivial⟩ Tryz.func57 (by kernel_rfl) (by kernel_rfl) fun x hw hp => b57 x.1 x.2.1 hp.1 hp.2

theorem v74 (p : PlanD) : bodyVC (ctxOf tab [(16, c16), (57, c57)]) Tryz.f74 c74 (a74 (p, ())) (p, ()) = (
(∃ (s01 : Nat),
(s01 ≤ p.snd.snd.snd.fst.length ∧ allOf (lineOk p) s01) ∧
(↑s01 : Int) = (0 : Int) ∧
metBy p s01 = [] ∧
keepP p (True)) ∧
∀ (s1 : Nat),
lett (decide ((↑s1 : Int) < (↑p.snd.snd.snd.fst.length : Int))) fun (y2 : Bool) =>
lett (p.snd.snd.snd.fst.getD (↑s1 : Int).toNat zL).snd fun (y3 : List Int) =>
lett (p.snd.snd.snd.fst.getD (↑s1 : Int).toNat ([], [])).snd fun (y4 : List Int) =>
s1 ≤ p.snd.snd.snd.fst.length ∧ allOf (lineOk p) s1 →
(y2 = true →
InB (↑s1 : Int) p.snd.snd.snd.fst.length ∧
(∃ (s05 : Nat),
(s05 ≤ y3.length ∧ allOf (lineNew p (↑s1 : Int).toNat) s05) ∧
(↑s05 : Int) = (0 : Int) ∧
(↑s1 : Int) = (↑s1 : Int) ∧
y4 = y4 ∧
metBy p (↑s1 : Int).toNat ++ List.take s05 y3 = metBy p s1 ∧
keepP p (True)) ∧
∀ (s5 : Nat),
lett (decide ((↑s5 : Int) < (↑y4.length : Int))) fun (y6 : Bool) =>
lett (metBy p (↑s1 : Int).toNat ++ List.take s5 y3) fun (y7 : List Int) =>
lett (y4.getD (↑s5 : Int).toNat (0 : Int)) fun (y8 : Int) =>
lett ((List.replicate (1 : Nat) (0 : Int)).set (0 : Nat) y8) fun (y9 : List Int) =>
s5 ≤ y3.length ∧ allOf (lineNew p (↑s1 : Int).toNat) s5 →
(y6 = true →
InB (↑s5 : Int) y4.length ∧
True ∧
(fMem y7 y8 = true → false = fLines p ∧ True) ∧
(fMem y7 y8 = false →
InB (↑s5 : Int) y4.length ∧
roomFor (y7.length + y9.length) (8 : Nat) ∧
InR IntKind.i64 ((↑s5 : Int) + (1 : Int)) ∧
∃ (s'10 : Nat),
(s'10 ≤ y3.length ∧ allOf (lineNew p (↑s1 : Int).toNat) s'10) ∧
y3.length - s'10 < y3.length - s5 ∧
(↑s'10 : Int) = (↑s5 : Int) + (1 : Int) ∧
(↑s1 : Int) = (↑s1 : Int) ∧
y4 = y4 ∧
metBy p (↑s1 : Int).toNat ++ List.take s'10 y3 = y7 ++ y9 ∧
keepP p (True))) ∧
(y6 = false →
(fJoined p = true ∧ y4.length ≤ (1000 : Nat)) ∧
((!(fEnters p y4).snd) = true → false = fLines p ∧ True) ∧
((!(fEnters p y4).snd) = false →
InR IntKind.i64 ((↑s1 : Int) + (1 : Int)) ∧
∃ (s'10 : Nat),
(s'10 ≤ p.snd.snd.snd.fst.length ∧ allOf (lineOk p) s'10) ∧
p.snd.snd.snd.fst.length - s'10 < p.snd.snd.snd.fst.length - s1 ∧
(↑s'10 : Int) = (↑s1 : Int) + (1 : Int) ∧
metBy p s'10 = y7 ∧
keepP p (True)))) ∧
(y2 = false → true = fLines p ∧ True)) := by kernel_rfl

theorem met_len {p : PlanD} (hs : shortLines p) : ∀ i, (metBy p i).length ≤ i * 1000
  | 0 => Nat.le_refl _
  | i + 1 => by
    have ih := met_len hs i
    by_cases h : i < p.2.2.2.1.length
    · have := hs _ (mem_getD zL h)
      show ((p.2.2.2.1.take (i + 1)).flatMap fun l => l.2).length ≤ _
      rw [flat_succ _ zL h, List.length_append]
      show (metBy p i).length + _ ≤ _
      omega
    · have e : metBy p (i + 1) = metBy p i := by
        unfold metBy
        rw [List.take_of_length_le (by omega), List.take_of_length_le (by omega)]
      rw [e]
      omega

theorem b74 (p : PlanD) (hj : fJoined p = true) (hs : shortLines p) (hl : p.2.2.2.1.length ≤ 1000) : bodyVC (ctxOf tab [(16, c16), (57, c57)]) Tryz.f74 c74 (a74 (p, ())) (p, ()) := by
  have hF : fLines p = allTo (lineOk p) p.2.2.2.1.length := by unfold fLines; rfl
  rw [v74, hF]
  simp only [keepP_eq, true_and, and_true, Int.toNat_natCast]
  refine ⟨⟨0, ⟨by omega, rfl⟩, rfl, rfl⟩, fun s => lett.mk fun y2 e2 => lett.mk fun y3 e3 => lett.mk fun y4 e4 => ?_⟩
  rintro ⟨h1, h2⟩
  have h2 : allTo (lineOk p) s = true := h2
  have e4 : y4 = y3 := by rw [e4, e3]; rfl
  subst e4
  refine ⟨fun h => ?_, fun h => ?_⟩
  · have h := lt_of_y e2 h
    have hsh : y4.length ≤ 1000 := by rw [e3]; exact hs _ (mem_getD zL h)
    have hml := met_len hs s
    refine ⟨⟨by omega, by omega⟩, ⟨0, ⟨by omega, rfl⟩, rfl, by simp⟩, fun t => lett.mk fun y6 e6 => lett.mk fun y7 e7 => lett.mk fun y8 e8 => lett.mk fun y9 e9 => ?_⟩
    rintro ⟨g1, g2⟩
    have g2 : allTo (lineNew p s) t = true := g2
    have e9 : y9 = [y8] := e9
    have hN : lineNew p s t = !fMem y7 y8 := by rw [e7, e8, e3]; rfl
    refine ⟨fun ht => ?_, fun ht => ?_⟩
    · have ht := lt_of_y e6 ht
      refine ⟨⟨by omega, by omega⟩, fun hm => ?_, fun hm => ⟨⟨by omega, by omega⟩, roomB (by rw [e7, e9, List.length_append, List.length_take]; simp; omega) (by omega), inR64 (by omega) (by omega), t + 1, ⟨by omega, ?_⟩, by omega, by omega, ?_⟩⟩
      · refine (allTo_no h ?_).symm
        unfold lineOk
        rw [← e3, allTo_no ht (by rw [hN, hm]; rfl)]
        rfl
      · exact allTo_succ g2 (by rw [hN, hm]; rfl)
      · rw [take_succ' 0 ht, ← List.append_assoc, ← e7, e9, e8]
    · have hle := le_of_y e6 ht
      have hte : t = y4.length := by omega
      have hall : allTo (lineNew p s) (p.2.2.2.1.getD s zL).2.length = true := by rw [← e3, ← hte]; exact g2
      refine ⟨⟨hj, hsh⟩, fun hb => ?_, fun hb => ⟨inR64 (by omega) (by omega), s + 1, ⟨by omega, ?_⟩, by omega, by omega, ?_⟩⟩
      · refine (allTo_no h ?_).symm
        unfold lineOk
        simp only [Bool.not_eq_true'] at hb
        rw [← e3, hb, Bool.and_false]
      · refine allTo_succ h2 ?_
        unfold lineOk
        simp only [Bool.not_eq_false'] at hb
        rw [hall, ← e3, hb]
        rfl
      · show ((p.2.2.2.1.take (s + 1)).flatMap fun l => l.2) = _
        have ht2 : y4.take t = y4 := List.take_of_length_le hle
        rw [flat_succ _ zL h, e7, ht2, e3]
        rfl
  · have hle := le_of_y e2 h
    have : s = p.2.2.2.1.length := by omega
    subst this
    exact h2.symm

theorem ok74 : DOk Tryz.prog 74 c74 :=
  DOk.of' (l := [(16, c16), (57, c57)]) (A := a74) tabOk ⟨ok16, ok57, trivial⟩ Tryz.func74 (by kernel_rfl) (by kernel_rfl) fun x hw hp => b74 x.1 hp.1 hp.2.1 hp.2.2

theorem v75 (p : PlanD) : bodyVC (ctxOf tab [(121, c121), (106, c106), (122, c122)]) Tryz.f75 c75 (a75 (p, ())) (p, ()) = (
lett (p.snd.snd.snd.snd.fst + fStop p.snd.snd.snd.snd.fst p.snd.snd.snd.snd.snd.fst) fun (y1 : Int) =>
lett (decide (p.snd.snd.snd.snd.snd.snd.fst < y1)) fun (y2 : Bool) =>
True ∧
InR IntKind.i64 y1 ∧
(y2 = true → false = fLong p ∧ True) ∧
(y2 = false →
(∃ (s03 : Nat),
(s03 ≤ p.snd.snd.fst.length ∧ allT (sigLong p) p.snd.snd.fst s03) ∧
(↑s03 : Int) = (0 : Int) ∧
keepP p (True)) ∧
∀ (s3 : Nat),
lett (decide ((↑s3 : Int) < (↑p.snd.snd.fst.length : Int))) fun (y4 : Bool) =>
lett (p.snd.snd.fst.getD (↑s3 : Int).toNat ([], ((0 : Int), (0 : Int)), false)).snd.fst.fst fun (y5 : Int) =>
lett (bif fKind p y5 == (1 : Int) then decide (fLength p y5 < p.snd.snd.snd.snd.snd.snd.fst) else false) fun (y6 : Bool) =>
s3 ≤ p.snd.snd.fst.length ∧ allT (sigLong p) p.snd.snd.fst s3 →
(y4 = true →
InB (↑s3 : Int) p.snd.snd.fst.length ∧
True ∧
((fKind p y5 == (1 : Int)) = true → True) ∧
(y6 = true → false = fLong p ∧ True) ∧
(y6 = false →
InR IntKind.i64 ((↑s3 : Int) + (1 : Int)) ∧
∃ (s'7 : Nat),
(s'7 ≤ p.snd.snd.fst.length ∧ allT (sigLong p) p.snd.snd.fst s'7) ∧
p.snd.snd.fst.length - s'7 < p.snd.snd.fst.length - s3 ∧
(↑s'7 : Int) = (↑s3 : Int) + (1 : Int) ∧
keepP p (True))) ∧
(y4 = false →
(∃ (s07 : Nat),
(s07 ≤ p.fst.length ∧ allT (elemLong p) p.fst s07) ∧
(↑s07 : Int) = (0 : Int) ∧
keepP p (True)) ∧
∀ (s7 : Nat),
lett (decide ((↑s7 : Int) < (↑p.fst.length : Int))) fun (y8 : Bool) =>
lett (p.fst.getD (↑s7 : Int).toNat ([], (0 : Int), (0 : Int))).snd fun (y9 : Int × Int) =>
lett (bif y9.fst != (4 : Int) then decide (y9.snd < p.snd.snd.snd.snd.fst) else false) fun (y10 : Bool) =>
s7 ≤ p.fst.length ∧ allT (elemLong p) p.fst s7 →
(y8 = true →
InB (↑s7 : Int) p.fst.length ∧
((y9.fst != (4 : Int)) = true → InB (↑s7 : Int) p.fst.length) ∧
(y10 = true → false = fLong p ∧ True) ∧
(y10 = false →
InR IntKind.i64 ((↑s7 : Int) + (1 : Int)) ∧
∃ (s'11 : Nat),
(s'11 ≤ p.fst.length ∧ allT (elemLong p) p.fst s'11) ∧
p.fst.length - s'11 < p.fst.length - s7 ∧
(↑s'11 : Int) = (↑s7 : Int) + (1 : Int) ∧
keepP p (True))) ∧
(y8 = false → true = fLong p ∧ True)))) := by kernel_rfl

theorem nums_facts {p : PlanD} (h : fNums p = true) : (1 ≤ p.2.2.2.2.1 ∧ p.2.2.2.2.1 ≤ 60) ∧ (1 ≤ p.2.2.2.2.2.1 ∧ p.2.2.2.2.2.1 ≤ 10) ∧ (1 ≤ p.2.2.2.2.2.2.1 ∧ p.2.2.2.2.2.2.1 ≤ 4000) := by
  unfold fNums fIn at h
  simp only [Bool.and_eq_true] at h
  obtain ⟨⟨h1, h2⟩, ⟨h3, h4⟩, ⟨h5, h6⟩, _⟩ := h
  exact ⟨⟨of_decide_eq_true h1, of_decide_eq_true h2⟩, ⟨of_decide_eq_true h3, of_decide_eq_true h4⟩, of_decide_eq_true h5, of_decide_eq_true h6⟩

theorem b75 (p : PlanD) (hn : fNums p = true) (hw : planWf p) : bodyVC (ctxOf tab [(121, c121), (106, c106), (122, c122)]) Tryz.f75 c75 (a75 (p, ())) (p, ()) := by
  have hL : fLong p = (!decide (p.2.2.2.2.2.2.1 < p.2.2.2.2.1 + fStop p.2.2.2.2.1 p.2.2.2.2.2.1) && (p.2.2.1.all (sigLong p) && p.1.all (elemLong p))) := by unfold fLong; rfl
  obtain ⟨n1, n2, n3⟩ := nums_facts hn
  have hst := fStop_range p.2.2.2.2.1 p.2.2.2.2.2.1
  rw [v75, hL]
  refine lett.mk fun y1 e1 => lett.mk fun y2 e2 => ?_
  rw [← e1, ← e2]
  simp only [keepP_eq, true_and, and_true, Int.toNat_natCast]
  refine ⟨inR64 (by omega) (by omega), fun h => by rw [h]; rfl, fun h => ?_⟩
  rw [h, Bool.not_false, Bool.true_and]
  refine ⟨⟨0, ⟨by omega, rfl⟩, rfl⟩, fun s => lett.mk fun y4 e4 => lett.mk fun y5 e5 => lett.mk fun y6 e6 => ?_⟩
  rintro ⟨h1, h2⟩
  have h2 : (p.2.2.1.take s).all (sigLong p) = true := h2
  have hS : sigLong p (p.2.2.1.getD s zS) = !y6 := by
    have e5 : y5 = (p.2.2.1.getD s zS).2.1.1 := e5
    rw [e6]
    unfold sigLong
    rw [← e5]
    have key : ∀ a b : Bool, (!(a && b)) = !(bif a then b else false) := by decide
    exact key _ _
  refine ⟨fun h => ?_, fun h => ?_⟩
  · have h := lt_of_y e4 h
    refine ⟨⟨by omega, by omega⟩, fun _ => trivial, fun h6 => ?_, fun h6 => ⟨inRlen h hw.2.2.1, s + 1, ⟨by omega, ?_⟩, by omega, by omega⟩⟩
    · rw [all_no zS h (by rw [hS, h6]; rfl)]
      rfl
    · exact all_succ zS h h2 (by rw [hS, h6]; rfl)
  rw [all_full (le_of_y e4 h) h2, Bool.true_and]
  refine ⟨⟨0, ⟨by omega, rfl⟩, rfl⟩, fun u => lett.mk fun y8 e8 => lett.mk fun y9 e9 => lett.mk fun y10 e10 => ?_⟩
  rintro ⟨g1, g2⟩
  have g2 : (p.1.take u).all (elemLong p) = true := g2
  have hS : elemLong p (p.1.getD u zE) = !y10 := by
    have e9 : y9 = (p.1.getD u zE).2 := e9
    rw [e10, bneB]
    unfold elemLong
    rw [← e9]
    have key : ∀ a b : Bool, (!(!a && b)) = !(bif !a then b else false) := by decide
    exact key _ _
  refine ⟨fun h => ?_, fun h => ?_⟩
  · have h := lt_of_y e8 h
    refine ⟨⟨by omega, by omega⟩, fun _ => ⟨by omega, by omega⟩, fun h6 => ?_, fun h6 => ⟨inRlen h hw.1, u + 1, ⟨by omega, ?_⟩, by omega, by omega⟩⟩
    · rw [all_no zE h (by rw [hS, h6]; rfl)]
    · exact all_succ zE h g2 (by rw [hS, h6]; rfl)
  rw [all_full (le_of_y e8 h) g2]

theorem ok75 : DOk Tryz.prog 75 c75 :=
  DOk.of' (l := [(121, c121), (106, c106), (122, c122)]) (A := a75) tabOk ⟨ok121, ok106, ok122, trivial⟩ Tryz.func75 (by kernel_rfl) (by kernel_rfl) fun x hw hp => b75 x.1 hp (plan_wf hw.1)

theorem v45 (p : PlanD) : bodyVC (ctxOf tab [(69, c69), (70, c70), (71, c71), (72, c72), (73, c73), (74, c74), (75, c75)]) Tryz.f45 c45 noAnn (p, ()) = (
lett
(bif bif bif decide ((↑p.fst.length : Int) > (40 : Int)) then true else decide ((↑p.snd.snd.fst.length : Int) > (24 : Int)) then true else decide ((↑p.snd.snd.snd.fst.length : Int) > (4 : Int)) then
true
else decide ((↑p.snd.fst.length : Int) > (80 : Int)))
fun (y1 : Bool) =>
lett (fTwice (List.map (fun (e : ElemD) => e.fst) p.fst)) fun (y2 : Bool) =>
lett (bif y2 then true else fTwice (List.map (fun (s : SignalD) => s.fst) p.snd.snd.fst)) fun (y3 : Bool) =>
lett (bif y3 then true else fTwice (List.map (fun (l : LineD) => l.fst) p.snd.snd.snd.fst)) fun (y4 : Bool) =>
(y1 = true → (3 : Int) = fCheck p ∧ True) ∧
(y1 = false →
namesPre p ∧
True ∧
((!fArgs p) = true → (1 : Int) = fCheck p ∧ True) ∧
((!fArgs p) = false →
True ∧
(y2 = false → True) ∧
(y3 = false → True) ∧
(y4 = true → (4 : Int) = fCheck p ∧ True) ∧
(y4 = false →
p.snd.fst.length ≤ (1000 : Nat) ∧
((!fJoined p) = true → (6 : Int) = fCheck p ∧ True) ∧
((!fJoined p) = false →
True ∧
((!fSignals p) = true → (7 : Int) = fCheck p ∧ True) ∧
((!fSignals p) = false →
(fJoined p = true ∧ shortLines p ∧ p.snd.snd.snd.fst.length ≤ (1000 : Nat)) ∧
((!fLines p) = true → (8 : Int) = fCheck p ∧ True) ∧
((!fLines p) = false → fNums p = true ∧ ((!fLong p) = true → (9 : Int) = fCheck p ∧ True) ∧ ((!fLong p) = false → (0 : Int) = fCheck p ∧ True)))))))) := by kernel_rfl

theorem b45 (p : PlanD) (hp : shortLines p) : bodyVC (ctxOf tab [(69, c69), (70, c70), (71, c71), (72, c72), (73, c73), (74, c74), (75, c75)]) Tryz.f45 c45 noAnn (p, ()) := by
  rw [v45]
  refine lett.mk fun y1 e1 => lett.mk fun y2 e2 => lett.mk fun y3 e3 => lett.mk fun y4 e4 => ?_
  have hz : fSizes p = !y1 := by
    rw [e1, gtN _ 40 40 rfl, gtN _ 24 24 rfl, gtN _ 4 4 rfl, gtN _ 80 80 rfl]
    unfold fSizes
    have key : ∀ a b c d : Bool, (a && (b && (c && d))) = !(bif (bif (bif !a then true else !b) then true else !c) then true else !d) := by decide
    exact key _ _ _ _
  have hC : fCheck p = bif y1 then 3 else bif !fArgs p then 1 else bif y4 then 4 else
      bif !fJoined p then 6 else bif !fSignals p then 7 else bif !fLines p then 8 else bif !fLong p then 9 else 0 := by
    have h4 : (fTwice (p.1.map fun e => e.1) || (fTwice (p.2.2.1.map fun s => s.1) || fTwice (p.2.2.2.1.map fun l => l.1))) = y4 := by
      rw [e4, e3, e2]
      have key : ∀ a b c : Bool, (a || (b || c)) = (bif (bif a then true else b) then true else c) := by decide
      exact key _ _ _
    unfold fCheck
    rw [hz, Bool.not_not, h4]
  rw [hC]
  refine ⟨fun h => by rw [h]; exact ⟨rfl, trivial⟩, fun h => ?_⟩
  have hsz : fSizes p = true := by rw [hz, h]; rfl
  unfold fSizes at hsz
  simp only [Bool.and_eq_true] at hsz
  obtain ⟨z1, z2, z3, z4⟩ := hsz
  have z1 := of_decide_eq_true z1
  have z2 := of_decide_eq_true z2
  have z3 := of_decide_eq_true z3
  have z4 := of_decide_eq_true z4
  rw [h]
  refine ⟨⟨by omega, by omega, by omega⟩, trivial, fun ha => by rw [ha]; exact ⟨rfl, trivial⟩, fun ha => ?_⟩
  rw [ha]
  refine ⟨trivial, fun _ => trivial, fun _ => trivial, fun h4 => by rw [h4]; exact ⟨rfl, trivial⟩, fun h4 => ?_⟩
  rw [h4]
  refine ⟨by omega, fun hj => by rw [hj]; exact ⟨rfl, trivial⟩, fun hj => ?_⟩
  rw [hj]
  have hj' : fJoined p = true := by simpa using hj
  refine ⟨trivial, fun hs => by rw [hs]; exact ⟨rfl, trivial⟩, fun hs => ?_⟩
  rw [hs]
  refine ⟨⟨hj', hp, by omega⟩, fun hl => by rw [hl]; exact ⟨rfl, trivial⟩, fun hl => ?_⟩
  rw [hl]
  have ha' : fArgs p = true := by simpa using ha
  refine ⟨args_nums ha', fun hg => by rw [hg]; exact ⟨rfl, trivial⟩, fun hg => by rw [hg]; exact ⟨rfl, trivial⟩⟩

theorem ok45 : DOk Tryz.prog 45 c45 :=
  DOk.of' (l := [(69, c69), (70, c70), (71, c71), (72, c72), (73, c73), (74, c74), (75, c75)]) (A := fun _ => noAnn) tabOk ⟨ok69, ok70, ok71, ok72, ok73, ok74, ok75, trivial⟩ Tryz.func45 (by kernel_rfl) (by kernel_rfl) fun x hw hp => b45 x.1 hp

theorem v50 (p : PlanD) : bodyVC (ctxOf tab []) Tryz.f50 c50 (a50 (p, ())) (p, ()) = (
lett
(bif bif bif decide ((↑p.fst.length : Int) > (60 : Int)) then true else decide ((↑p.snd.fst.length : Int) > (120 : Int)) then true else decide ((↑p.snd.snd.fst.length : Int) > (60 : Int)) then true
else decide ((↑p.snd.snd.snd.fst.length : Int) > (20 : Int)))
fun (y1 : Bool) =>
(y1 = true → false = fFew p ∧ True) ∧
(y1 = false →
(∃ (s02 : Nat),
(s02 ≤ p.snd.snd.snd.fst.length ∧ allT fewLine p.snd.snd.snd.fst s02) ∧
(↑s02 : Int) = (0 : Int) ∧
keepP p (True)) ∧
∀ (s2 : Nat),
lett (decide ((↑s2 : Int) < (↑p.snd.snd.snd.fst.length : Int))) fun (y3 : Bool) =>
lett (p.snd.snd.snd.fst.getD (↑s2 : Int).toNat ([], [])) fun (y4 : List UInt8 × List Int) =>
lett (decide ((↑y4.snd.length : Int) > (60 : Int))) fun (y5 : Bool) =>
lett (bif y5 then true else decide ((↑y4.fst.length : Int) > (100 : Int))) fun (y6 : Bool) =>
s2 ≤ p.snd.snd.snd.fst.length ∧ allT fewLine p.snd.snd.snd.fst s2 →
(y3 = true →
InB (↑s2 : Int) p.snd.snd.snd.fst.length ∧
(y5 = false → InB (↑s2 : Int) p.snd.snd.snd.fst.length) ∧
(y6 = true → false = fFew p ∧ True) ∧
(y6 = false →
InR IntKind.i64 ((↑s2 : Int) + (1 : Int)) ∧
∃ (s'7 : Nat),
(s'7 ≤ p.snd.snd.snd.fst.length ∧ allT fewLine p.snd.snd.snd.fst s'7) ∧
p.snd.snd.snd.fst.length - s'7 < p.snd.snd.snd.fst.length - s2 ∧
(↑s'7 : Int) = (↑s2 : Int) + (1 : Int) ∧
keepP p (True))) ∧
(y3 = false →
(∃ (s07 : Nat),
(s07 ≤ p.fst.length ∧ allT fewElem p.fst s07) ∧
(↑s07 : Int) = (0 : Int) ∧
keepP p (True)) ∧
∀ (s7 : Nat),
lett (decide ((↑s7 : Int) < (↑p.fst.length : Int))) fun (y8 : Bool) =>
lett (decide ((↑(p.fst.getD (↑s7 : Int).toNat ([], (0 : Int), (0 : Int))).fst.length : Int) > (100 : Int))) fun (y9 : Bool) =>
s7 ≤ p.fst.length ∧ allT fewElem p.fst s7 →
(y8 = true →
InB (↑s7 : Int) p.fst.length ∧
(y9 = true → false = fFew p ∧ True) ∧
(y9 = false →
InR IntKind.i64 ((↑s7 : Int) + (1 : Int)) ∧
∃ (s'10 : Nat),
(s'10 ≤ p.fst.length ∧ allT fewElem p.fst s'10) ∧
p.fst.length - s'10 < p.fst.length - s7 ∧
(↑s'10 : Int) = (↑s7 : Int) + (1 : Int) ∧
keepP p (True))) ∧
(y8 = false →
(∃ (s010 : Nat),
(s010 ≤ p.snd.snd.fst.length ∧ allT fewSig p.snd.snd.fst s010) ∧
(↑s010 : Int) = (0 : Int) ∧
keepP p (True)) ∧
∀ (s10 : Nat),
lett (decide ((↑s10 : Int) < (↑p.snd.snd.fst.length : Int))) fun (y11 : Bool) =>
lett (decide ((↑(p.snd.snd.fst.getD (↑s10 : Int).toNat ([], ((0 : Int), (0 : Int)), false)).fst.length : Int) > (100 : Int))) fun (y12 : Bool) =>
s10 ≤ p.snd.snd.fst.length ∧ allT fewSig p.snd.snd.fst s10 →
(y11 = true →
InB (↑s10 : Int) p.snd.snd.fst.length ∧
(y12 = true → false = fFew p ∧ True) ∧
(y12 = false →
InR IntKind.i64 ((↑s10 : Int) + (1 : Int)) ∧
∃ (s'13 : Nat),
(s'13 ≤ p.snd.snd.fst.length ∧ allT fewSig p.snd.snd.fst s'13) ∧
p.snd.snd.fst.length - s'13 < p.snd.snd.fst.length - s10 ∧
(↑s'13 : Int) = (↑s10 : Int) + (1 : Int) ∧
keepP p (True))) ∧
(y11 = false → true = fFew p ∧ True))))) := by kernel_rfl

theorem b50 (p : PlanD) (hw : planWf p) : bodyVC (ctxOf tab []) Tryz.f50 c50 (a50 (p, ())) (p, ()) := by
  have hF : fFew p = (decide (p.1.length ≤ 60) && (decide (p.2.1.length ≤ 120) && (decide (p.2.2.1.length ≤ 60) && (decide (p.2.2.2.1.length ≤ 20) && (p.2.2.2.1.all fewLine && (p.1.all fewElem && p.2.2.1.all fewSig)))))) := by unfold fFew; rfl
  rw [v50]
  refine lett.mk fun y1 e1 => ?_
  rw [gtN _ 60 60 rfl, gtN _ 120 120 rfl, gtN _ 60 60 rfl, gtN _ 20 20 rfl] at e1
  have hF : fFew p = (!y1 && (p.2.2.2.1.all fewLine && (p.1.all fewElem && p.2.2.1.all fewSig))) := by
    rw [hF, e1]
    have key : ∀ a b c d e : Bool, (a && (b && (c && (d && e)))) = (!(bif (bif (bif !a then true else !b) then true else !c) then true else !d) && e) := by decide
    exact key _ _ _ _ _
  rw [hF]
  simp only [keepP_eq, true_and, and_true, Int.toNat_natCast]
  refine ⟨fun h => by rw [h]; rfl, fun h => ?_⟩
  rw [h, Bool.not_false, Bool.true_and]
  refine ⟨⟨0, ⟨by omega, rfl⟩, rfl⟩, fun s => lett.mk fun y3 e3 => lett.mk fun y4 e4 => lett.mk fun y5 e5 => lett.mk fun y6 e6 => ?_⟩
  rintro ⟨h1, h2⟩
  have h2 : (p.2.2.2.1.take s).all fewLine = true := h2
  have hS : fewLine (p.2.2.2.1.getD s zL) = !y6 := by
    have e4 : y4 = p.2.2.2.1.getD s zL := e4
    rw [e6, e5, gtN _ 60 60 rfl, gtN _ 100 100 rfl]
    unfold fewLine
    rw [← e4]
    have key : ∀ a b : Bool, (a && b) = !(bif !a then true else !b) := by decide
    exact key _ _
  refine ⟨fun h => ?_, fun h => ?_⟩
  · have h := lt_of_y e3 h
    refine ⟨⟨by omega, by omega⟩, fun _ => ⟨by omega, by omega⟩, fun h6 => ?_, fun h6 => ⟨inRlen h hw.2.2.2, s + 1, ⟨by omega, ?_⟩, by omega, by omega⟩⟩
    · rw [all_no zL h (by rw [hS, h6]; rfl)]
      rfl
    · exact all_succ zL h h2 (by rw [hS, h6]; rfl)
  rw [all_full (le_of_y e3 h) h2, Bool.true_and]
  refine ⟨⟨0, ⟨by omega, rfl⟩, rfl⟩, fun t => lett.mk fun y8 e8 => lett.mk fun y9 e9 => ?_⟩
  rintro ⟨h1, h2⟩
  have h2 : (p.1.take t).all fewElem = true := h2
  have hS : fewElem (p.1.getD t zE) = !y9 := by
    rw [e9, gtN _ 100 100 rfl, Bool.not_not]
    rfl
  refine ⟨fun h => ?_, fun h => ?_⟩
  · have h := lt_of_y e8 h
    refine ⟨⟨by omega, by omega⟩, fun h6 => ?_, fun h6 => ⟨inRlen h hw.1, t + 1, ⟨by omega, ?_⟩, by omega, by omega⟩⟩
    · rw [all_no zE h (by rw [hS, h6]; rfl)]
      rfl
    · exact all_succ zE h h2 (by rw [hS, h6]; rfl)
  rw [all_full (le_of_y e8 h) h2, Bool.true_and]
  refine ⟨⟨0, ⟨by omega, rfl⟩, rfl⟩, fun u => lett.mk fun y11 e11 => lett.mk fun y12 e12 => ?_⟩
  rintro ⟨h1, h2⟩
  have h2 : (p.2.2.1.take u).all fewSig = true := h2
  have hS : fewSig (p.2.2.1.getD u zS) = !y12 := by
    rw [e12, gtN _ 100 100 rfl, Bool.not_not]
    rfl
  refine ⟨fun h => ?_, fun h => ?_⟩
  · have h := lt_of_y e11 h
    refine ⟨⟨by omega, by omega⟩, fun h6 => ?_, fun h6 => ⟨inRlen h hw.2.2.1, u + 1, ⟨by omega, ?_⟩, by omega, by omega⟩⟩
    · rw [all_no zS h (by rw [hS, h6]; rfl)]
    · exact all_succ zS h h2 (by rw [hS, h6]; rfl)
  rw [all_full (le_of_y e11 h) h2]

theorem ok50 : DOk Tryz.prog 50 c50 :=
  DOk.of' (l := []) (A := a50) tabOk trivial Tryz.func50 (by kernel_rfl) (by kernel_rfl) fun x hw hp => b50 x.1 (plan_wf hw.1)

theorem few_lines {p : PlanD} (h : fFew p = true) : shortLines p := by
  unfold fFew at h
  simp only [Bool.and_eq_true, List.all_eq_true] at h
  intro l hl
  have := of_decide_eq_true (h.2.2.2.2.1 l hl).1
  omega

theorem v25 (p : PlanD) : bodyVC (ctxOf tab [(50, c50), (45, c45)]) Tryz.f25 c25 noAnn (p, ()) = (
True ∧ (fFew p = true → shortLines p) ∧ (bif fFew p then fCheck p == (0 : Int) else false) = fFine p ∧ True) := by kernel_rfl

theorem ok25 : DOk Tryz.prog 25 c25 :=
  DOk.of' (l := [(50, c50), (45, c45)]) (A := fun _ => noAnn) tabOk ⟨ok50, ok45, trivial⟩ Tryz.func25 (by kernel_rfl) (by kernel_rfl) fun x hw hp => by
    obtain ⟨p, ⟨⟩⟩ := x
    rw [v25]
    refine ⟨trivial, fun h => few_lines h, ?_, trivial⟩
    unfold fFine
    have key : ∀ a b : Bool, (bif a then b else false) = (a && b) := by decide
    exact key _ _

end YtpnnfimacblhgaaGreat
end Go.Proofs
end

section
set_option maxRecDepth 100000
set_option linter.unusedVariables false
namespace Go.Proofs
open Go Go.Vc

namespace YtpnnfimacblhgaaGreat
abbrev StepT : Ty := .pair I (.pair I I)
abbrev NeedT : Ty := .pair I I
abbrev RoadT : Ty := .pair I (.pair I (.pair I (.pair (.list StepT) (.pair (.list NeedT) (.pair (.list NeedT) (.pair (.list I) (.pair (.list I) .bool)))))))
abbrev ChartT : Ty := .pair PlanT (.list RoadT)
abbrev LifeT : Ty := .pair I (.pair I (.pair .bool (.list .bool)))

abbrev StepD := Int × Int × Int
abbrev NeedD := Int × Int
abbrev RoadD := Int × Int × Int × List StepD × List NeedD × List NeedD × List Int × List Int × Bool
abbrev ChartD := PlanD × List RoadD
abbrev LifeD := Int × Int × Bool × List Bool

def zSt : StepD := (0, 0, 0)
def zR : RoadD := (0, 0, 0, [], [], [], [], [], false)
def zPlan : PlanD := ([], [], [], [], 0, 0, 0, 0, false)
def zC : ChartD := (zPlan, [])

/-! ### Roads -/

@[irreducible] def fElems (r : RoadD) : List Int := r.2.2.2.1.map fun s => s.1
@[irreducible] def fOwn (r : RoadD) (e : Int) : Bool := fMem (fElems r) e
@[irreducible] def fHasPort (l : List PortD) (x : PortD) : Bool := l.any fun y => y == x
@[irreducible] def fHasNeed (l : List NeedD) (x : NeedD) : Bool := l.any fun y => y == x
@[irreducible] def fWith (r : RoadD) (s : StepD) (pos stop to : Int) : RoadD :=
  (r.1, to, stop, r.2.2.2.1 ++ [s], r.2.2.2.2.1 ++ (bif pos == 0 then [] else [(s.1, pos)]), [], [], [], false)

/-- One way on. -/
@[irreducible] def onWay (p : PlanD) (rec : RoadD → PortD → List Int → List RoadD) (r : RoadD) (x : PortD) (met : List Int) (w : Int × Int) : List RoadD :=
  bif decide (0 ≤ fReads p (x.1, w.1)) then [fWith r (x.1, x.2, w.1) w.2 1 (fReads p (x.1, w.1))] else
  bif !(fNext p (x.1, w.1)).2 then [fWith r (x.1, x.2, w.1) w.2 3 (-1)] else
  rec (fWith r (x.1, x.2, w.1) w.2 0 (-1)) (fNext p (x.1, w.1)).1 met
@[irreducible] def onWays (p : PlanD) (rec : RoadD → PortD → List Int → List RoadD) (r : RoadD) (x : PortD) (met : List Int) (k : Nat) : List RoadD :=
  ((fOuts p x.1 x.2).take k).flatMap (onWay p rec r x met)
@[irreducible] def onStep (p : PlanD) (rec : RoadD → PortD → List Int → List RoadD) (r : RoadD) (x : PortD) (met : List Int) : List RoadD :=
  bif fMem met x.1 || decide (r.2.2.2.1.length = 12) then [] else
  bif fKind p x.1 == 4 then [fWith r (x.1, x.2, -1) 0 2 (-1)] else
  onWays p rec r x (met ++ [x.1]) (fOuts p x.1 x.2).length
def fOn (p : PlanD) : Nat → RoadD → PortD → List Int → List RoadD
  | 0, _, _, _ => []
  | n + 1, r, x, met => onStep p (fOn p n) r x met

def onPre (n : Nat) (r : RoadD) (met : List Int) : Prop := (12 < r.2.2.2.1.length + n ∧ r.2.2.2.1.length ≤ 12 ∧ n ≤ 13) ∧ r.2.2.2.2.1.length ≤ r.2.2.2.1.length ∧ met.length ≤ r.2.2.2.1.length + 1

def roadFrom (s : Int) : RoadD := (s, 0, 0, [], [], [], [], [], false)
@[irreducible] def fOf (p : PlanD) (s : Int) : List RoadD :=
  bif !(fAt p s).2 then [] else bif !(fNext p (fAt p s).1).2 then [] else fOn p 13 (roadFrom s) (fNext p (fAt p s).1).1 [(fAt p s).1.1]
@[irreducible] def allUp (p : PlanD) (k : Nat) : List RoadD := (List.range k).flatMap fun (s : Nat) => fOf p (s : Int)
def allLong (p : PlanD) (k : Nat) : Bool := decide (64 < (allUp p (k + 1)).length)
@[irreducible] def fAll (p : PlanD) : List RoadD × Int := bif anyTo (allLong p) p.2.2.1.length then ([], 3) else (allUp p p.2.2.1.length, 0)

/-! ### What could come in -/

def crossOf (s : StepD) : Int := bif decide (2 ≤ s.2.1) then 0 else 2
@[irreducible] def portsAt (p : PlanD) (s : StepD) : List PortD :=
  bif fKind p s.1 == 2 then [(s.1, 3 - max s.2.1 s.2.2)] else bif fKind p s.1 == 3 then [(s.1, crossOf s), (s.1, crossOf s + 1)] else []
@[irreducible] def portsOn (p : PlanD) (l : List PortD) : List PortD := l.filter fun x => (fNext p x).2
@[irreducible] def portsUp (p : PlanD) (r : RoadD) (k : Nat) : List PortD := (r.2.2.2.1.take k).flatMap fun s => portsOn p (portsAt p s)
@[irreducible] def fPorts (p : PlanD) (r : RoadD) : List PortD := portsUp p r r.2.2.2.1.length
def stepOk (s : StepD) : Prop := (-1 ≤ s.2.1 ∧ s.2.1 ≤ 3) ∧ -1 ≤ s.2.2 ∧ s.2.2 ≤ 3
def stepsOk (r : RoadD) : Prop := r.2.2.2.1.length ≤ 1000 ∧ ∀ s ∈ r.2.2.2.1, stepOk s

/-! ### The search for a flank -/

abbrev SearchD := PlanD × Int × Int × Int × List StepD × List NeedD × List NeedD × List Int × List Int × Bool × List PortD
@[irreducible] def sRoad (s : SearchD) : RoadD := (s.2.1, s.2.2.1, s.2.2.2.1, s.2.2.2.2.1, s.2.2.2.2.2.1, s.2.2.2.2.2.2.1, s.2.2.2.2.2.2.2.1, s.2.2.2.2.2.2.2.2.1, s.2.2.2.2.2.2.2.2.2.1)
def sGuard (s : SearchD) (g : List NeedD) : SearchD := (s.1, s.2.1, s.2.2.1, s.2.2.2.1, s.2.2.2.2.1, s.2.2.2.2.2.1, g, s.2.2.2.2.2.2.2)
def sZone (s : SearchD) (z : List Int) : SearchD := (s.1, s.2.1, s.2.2.1, s.2.2.2.1, s.2.2.2.2.1, s.2.2.2.2.2.1, s.2.2.2.2.2.2.1, z, s.2.2.2.2.2.2.2.2)
def sHold (s : SearchD) (z : List Int) : SearchD := (s.1, s.2.1, s.2.2.1, s.2.2.2.1, s.2.2.2.2.1, s.2.2.2.2.2.1, s.2.2.2.2.2.2.1, s.2.2.2.2.2.2.2.1, z, s.2.2.2.2.2.2.2.2.2)
def sBare (s : SearchD) : SearchD := (s.1, s.2.1, s.2.2.1, s.2.2.2.1, s.2.2.2.2.1, s.2.2.2.2.2.1, s.2.2.2.2.2.2.1, s.2.2.2.2.2.2.2.1, s.2.2.2.2.2.2.2.2.1, true, s.2.2.2.2.2.2.2.2.2.2)
def sMet (s : SearchD) (m : List PortD) : SearchD := (s.1, s.2.1, s.2.2.1, s.2.2.2.1, s.2.2.2.2.1, s.2.2.2.2.2.1, s.2.2.2.2.2.2.1, s.2.2.2.2.2.2.2.1, s.2.2.2.2.2.2.2.2.1, s.2.2.2.2.2.2.2.2.2.1, m)
abbrev gSteps (s : SearchD) : List StepD := s.2.2.2.2.1
abbrev gNeeds (s : SearchD) : List NeedD := s.2.2.2.2.2.1
abbrev gGuards (s : SearchD) : List NeedD := s.2.2.2.2.2.2.1
abbrev gZone (s : SearchD) : List Int := s.2.2.2.2.2.2.2.1
abbrev gHolds (s : SearchD) : List Int := s.2.2.2.2.2.2.2.2.1
abbrev gMet (s : SearchD) : List PortD := s.2.2.2.2.2.2.2.2.2.2

@[irreducible] def fZone (s : SearchD) (e : Int) : Bool × SearchD :=
  bif fMem (gZone s) e then (true, s) else bif decide (12 ≤ (gZone s).length) then (false, sBare s) else (true, sZone s (gZone s ++ [e]))
@[irreducible] def sOn (rec : PortD → SearchD → SearchD) (e stop : Int) (s : SearchD) : SearchD := bif (fNext s.1 (e, stop)).2 then rec (fNext s.1 (e, stop)).1 s else s
@[irreducible] def sPoints (rec : PortD → SearchD → SearchD) (y : PortD) (s : SearchD) : SearchD :=
  bif y.2 == 0 then (bif (fZone s y.1).1 then sOn rec y.1 2 (sOn rec y.1 1 (fZone s y.1).2) else (fZone s y.1).2) else
  bif !fHasNeed (gNeeds s) (y.1, y.2) && !fHasNeed (gGuards s) (y.1, y.2) then (bif fHasNeed (gGuards s) (y.1, 3 - y.2) then s else sGuard s (gGuards s ++ [(y.1, 3 - y.2)])) else
  (bif (fZone s y.1).1 then sOn rec y.1 0 (fZone s y.1).2 else (fZone s y.1).2)
/-- What is done at a port that is met for the first time. -/
@[irreducible] def sNew (rec : PortD → SearchD → SearchD) (y : PortD) (s : SearchD) : SearchD :=
  bif decide (0 ≤ fReads s.1 y) && !s.1.2.2.2.2.2.2.2.2 then (bif fMem (gHolds s) (fReads s.1 y) then s else sHold s (gHolds s ++ [fReads s.1 y])) else
  bif fKind s.1 y.1 == 4 then sBare s else bif fKind s.1 y.1 == 2 then sPoints rec y s else
  (bif (fZone s y.1).1 then sOn rec y.1 (fFrom s.1 y.1 y.2 0).1 (fZone s y.1).2 else (fZone s y.1).2)
@[irreducible] def sStep (rec : PortD → SearchD → SearchD) (y : PortD) (s : SearchD) : SearchD :=
  bif fOwn (sRoad s) y.1 || fHasPort (gMet s) y then s else sNew rec y (sMet s (gMet s ++ [y]))
def sCome : Nat → PortD → SearchD → SearchD
  | 0, _, s => s
  | n + 1, y, s => sStep (sCome n) y s

/-- What holds of a search all the time. -/
structure SInv (s : SearchD) : Prop where
  joined : fJoined s.1 = true
  joins : s.1.2.1.length ≤ 1000
  nodup : (gMet s).Nodup
  sub : ∀ y ∈ gMet s, y ∈ joinEnds s.1
  guards : (gGuards s).length ≤ (gMet s).length
  holds : (gHolds s).length ≤ (gMet s).length
  zone : (gZone s).length ≤ 12
  steps : (gSteps s).length ≤ 1000

def onOk (n : Nat) (s : SearchD) : Prop := SInv s ∧ (joinEnds s.1).length < (gMet s).length + n
def comeOk (n : Nat) (y : PortD) (s : SearchD) : Prop := onOk n s ∧ y ∈ joinEnds s.1
def pointsOk (n : Nat) (y : PortD) (s : SearchD) : Prop := comeOk n y s ∧ (gGuards s).length < (gMet s).length

def s0 (p : PlanD) (r : RoadD) : SearchD := (p, r.1, r.2.1, r.2.2.1, r.2.2.2.1, r.2.2.2.2.1, [], [], [], false, [])
def flankUp (p : PlanD) (r : RoadD) : Nat → SearchD
  | 0 => s0 p r
  | k + 1 => sOn (sCome 161) ((fPorts p r).getD k zP).1 ((fPorts p r).getD k zP).2 (flankUp p r k)
@[irreducible] def fFlank (p : PlanD) (r : RoadD) : RoadD := sRoad (flankUp p r (fPorts p r).length)
def flankPre (p : PlanD) (r : RoadD) : Prop := fCheck p = 0 ∧ stepsOk r ∧ r.2.2.2.2.1.length ≤ 1000

@[irreducible] def fBuild (p : PlanD) : ChartD × Int :=
  bif fCheck p == 0 then (bif (fAll p).2 == 0 then ((p, (fAll p).1.map (fFlank p)), 0) else (zC, (fAll p).2)) else (zC, fCheck p)
@[irreducible] def fRoads (p : PlanD) : List RoadD × Bool := bif fFine p then ((fBuild p).1.2, (fBuild p).2 == 0) else ([], false)

/-! ### Contracts -/

def c33 : DCon where
  args := [RoadT]
  out := .row 3 I
  pre := fun (x : RoadD × Unit) => x.1.2.2.2.1.length ≤ 1000000
  fn := fun (x : RoadD × Unit) => (fElems x.1, ())
def c148 : DCon where
  args := [RoadT, I]
  out := .data [.bool]
  pre := fun (x : RoadD × Int × Unit) => x.1.2.2.2.1.length ≤ 1000000
  fn := fun (x : RoadD × Int × Unit) => (fOwn x.1 x.2.1, ())
def c149 : DCon where
  args := [.list PortT, PortT]
  out := .data [.bool]
  pre := fun (x : List PortD × PortD × Unit) => True
  fn := fun (x : List PortD × PortD × Unit) => (fHasPort x.1 x.2.1, ())
def c157 : DCon where
  args := [.list NeedT, NeedT]
  out := .data [.bool]
  pre := fun (x : List NeedD × NeedD × Unit) => True
  fn := fun (x : List NeedD × NeedD × Unit) => (fHasNeed x.1 x.2.1, ())
def withPre (r : RoadD) : Prop := r.2.2.2.1.length ≤ 1000 ∧ r.2.2.2.2.1.length ≤ 1000
def c146 : DCon where
  args := [RoadT, StepT, I, I, I]
  out := .data [RoadT]
  pre := fun (x : RoadD × StepD × Int × Int × Int × Unit) => withPre x.1
  fn := fun (x : RoadD × StepD × Int × Int × Int × Unit) => (fWith x.1 x.2.1 x.2.2.1 x.2.2.2.1 x.2.2.2.2.1, ())
def c124 (n : Nat) : DCon where
  args := [PlanT, RoadT, PortT, .list I]
  out := .data [.list RoadT]
  pre := fun (x : PlanD × RoadD × PortD × List Int × Unit) => onPre n x.2.1 x.2.2.2.1
  fn := fun (x : PlanD × RoadD × PortD × List Int × Unit) => (fOn x.1 n x.2.1 x.2.2.1 x.2.2.2.1, ())
def c76 : DCon where
  args := [PlanT, I]
  out := .data [.list RoadT]
  pre := fun (x : PlanD × Int × Unit) => True
  fn := fun (x : PlanD × Int × Unit) => (fOf x.1 x.2.1, ())
def c46 : OCon where
  args := [.dat PlanT]
  outs := [.row 40 RoadT, .dat I]
  pre := fun (x : PlanD × Unit) => x.1.2.2.1.length ≤ 1000
  fn := fun (x : PlanD × Unit) => ((fAll x.1).1, (fAll x.1).2, ())
def c77 : DCon where
  args := [PlanT, RoadT]
  out := .data [.list PortT]
  pre := fun (x : PlanD × RoadD × Unit) => stepsOk x.2.1
  fn := fun (x : PlanD × RoadD × Unit) => (fPorts x.1 x.2.1, ())

abbrev SearchO : OTy := .cells true (.pair (.dat PlanT) (.pair (.dat I) (.pair (.dat I) (.pair (.dat I) (.pair (.row 50 StepT) (.pair (.row 62 NeedT) (.pair (.row 62 NeedT) (.pair (.row 3 I) (.pair (.row 3 I) (.pair (.dat .bool) (.row 122 PortT)))))))))))
def c152 : OCon where
  args := [SearchO, .dat I]
  outs := [.dat .bool]
  pre := fun (x : SearchD × Int × Unit) => (gZone x.1).length ≤ 1000
  fn := fun (x : SearchD × Int × Unit) => ((fZone x.1 x.2.1).1, ())
  upd := fun (x : SearchD × Int × Unit) => ((fZone x.1 x.2.1).2, x.2)
def c126 (n : Nat) : OCon where
  args := [SearchO, .dat PortT]
  outs := []
  pre := fun (x : SearchD × PortD × Unit) => comeOk n x.2.1 x.1
  fn := fun _ => ()
  upd := fun (x : SearchD × PortD × Unit) => (sCome n x.2.1 x.1, x.2)
def c78 (n : Nat) : OCon where
  args := [SearchO, .dat I, .dat I]
  outs := []
  pre := fun (x : SearchD × Int × Int × Unit) => onOk n x.1
  fn := fun _ => ()
  upd := fun (x : SearchD × Int × Int × Unit) => (sOn (sCome n) x.2.1 x.2.2.1 x.1, x.2)
def c150 (n : Nat) : OCon where
  args := [SearchO, .dat PortT]
  outs := []
  pre := fun (x : SearchD × PortD × Unit) => pointsOk n x.2.1 x.1
  fn := fun _ => ()
  upd := fun (x : SearchD × PortD × Unit) => (sPoints (sCome n) x.2.1 x.1, x.2)
def smallP : PlanD := (
  [([87], 4, 0), ([65], 1, 20), ([80], 2, 10), ([66], 1, 20), ([67], 1, 30), ([69], 4, 0)],
  [((0, 0), (1, 0)), ((1, 1), (2, 0)), ((2, 1), (3, 0)), ((3, 1), (5, 0)), ((2, 2), (4, 0))],
  [([119], (0, 0), false), ([97], (1, 1), false), ([101], (5, 0), false), ([98], (3, 0), false), ([99], (4, 0), false)],
  [], 10, 5, 15, 2, false)
def c39 : DCon where
  args := []
  out := .data [PlanT]
  pre := fun (x : Unit) => True
  fn := fun (x : Unit) => (smallP, ())
def c47 : DCon where
  args := [PlanT, RoadT]
  out := .data [RoadT]
  pre := fun (x : PlanD × RoadD × Unit) => flankPre x.1 x.2.1
  fn := fun (x : PlanD × RoadD × Unit) => (fFlank x.1 x.2.1, ())
def c19 : DCon where
  args := [PlanT]
  out := .data [ChartT, I]
  pre := fun (x : PlanD × Unit) => shortLines x.1
  fn := fun (x : PlanD × Unit) => ((fBuild x.1).1, (fBuild x.1).2, ())
def c7 : DCon where
  args := [PlanT]
  out := .data [.list RoadT, .bool]
  pre := fun (x : PlanD × Unit) => True
  fn := fun (x : PlanD × Unit) => ((fRoads x.1).1, (fRoads x.1).2, ())

end YtpnnfimacblhgaaGreat
end Go.Proofs
end

section
set_option maxRecDepth 100000
set_option linter.unusedVariables false
namespace Go.Proofs
open Go Go.Vc

namespace YtpnnfimacblhgaaGreat

def slotSt (S : St) (n : Nat) : StepD :=
  match find S.sl n with
  | some (_, .one (.dat (.pair (.int _) (.pair (.int _) (.int _))) x)) => x
  | _ => zSt

def slotPortsB (S : St) (n : Nat) : List PortD :=
  match find S.sl n with
  | some (_, .one (.row _ b)) => (match find S.bl b with
    | some (.row _ _ (.pair (.int _) (.int _)) xs) => xs
    | _ => [])
  | _ => []

def a33 (x : RoadD × Unit) : Ann := loopAnn [(3, fun _ => rowLoop x.1.2.2.2.1.length 4 3 1000 3 I (fun k => (x.1.2.2.2.1.take k).map fun s => s.1) [1] [1])]
def a149 (x : List PortD × PortD × Unit) : Ann := loopAnn [(2, fun _ => upLoop x.1.length (noneT (fun y => y == x.2.1) x.1) 5 [0, 3] [3])]
def a157 (x : List NeedD × NeedD × Unit) : Ann := loopAnn [(2, fun _ => upLoop x.1.length (noneT (fun y => y == x.2.1) x.1) 5 [0, 3] [3])]
def a46 (x : PlanD × Unit) : Ann := loopAnn [(3, fun _ => {
  σ := Nat
  ok := fun k => k ≤ x.1.2.2.1.length ∧ noneOf (allLong x.1) k
  mu := fun k => x.1.2.2.1.length - k
  sl := fun k => [(5, .one (.dat I (k : Int))), (4, .one (.row RoadT 1000))]
  bl := fun k => [(1000, .row false 40 RoadT (allUp x.1 k))]
  keep := [1]
  keepB := [1] })]
def a77 (x : PlanD × RoadD × Unit) : Ann := loopAnn [(3, fun _ => rowLoop x.2.1.2.2.2.1.length 6 5 1000 122 PortT (fun k => portsUp x.1 x.2.1 k) [2, 3] [2, 3]),
  (16, fun S => {
  σ := Nat
  ok := fun j => j ≤ (portsAt x.1 (x.2.1.2.2.2.1.getD (slotI S 6).toNat zSt)).length
  mu := fun j => (portsAt x.1 (x.2.1.2.2.2.1.getD (slotI S 6).toNat zSt)).length - j
  sl := fun j => [(10, .one (.dat I (j : Int))), (5, .one (.row PortT 1001)), (8, .one (.row PortT 1002))]
  bl := fun j => [(1001, .row false 122 PortT (portsUp x.1 x.2.1 (slotI S 6).toNat ++ portsOn x.1 ((portsAt x.1 (x.2.1.2.2.2.1.getD (slotI S 6).toNat zSt)).take j))), (1002, .row false 122 PortT (portsAt x.1 (x.2.1.2.2.2.1.getD (slotI S 6).toNat zSt)))]
  keep := [2, 3, 6]
  keepB := [2, 3] })] [29, 43, 12, 75]
def a124 (n : Nat) (x : PlanD × RoadD × PortD × List Int × Unit) : Ann := loopAnn [(9, fun _ => {
  σ := Nat
  ok := fun k => k ≤ (fOuts x.1 x.2.2.1.1 x.2.2.1.2).length
  mu := fun k => (fOuts x.1 x.2.2.1.1 x.2.2.1.2).length - k
  sl := fun k => [(11, .one (.dat I (k : Int))), (9, .one (.row RoadT 1000)), (3, .one (.row I 1001))]
  bl := fun k => [(1000, .row false 40 RoadT (onWays x.1 (fOn x.1 n) x.2.1 x.2.2.1 (x.2.2.2.1 ++ [x.2.2.1.1]) k)), (1001, .row true 3 I (x.2.2.2.1 ++ [x.2.2.1.1]))]
  keep := [4, 5, 6, 10]
  keepB := [4, 5, 6] })]
def searchBl (s : SearchD) : List (Nat × Blk) :=
  [(1000, .cells [.dat (.list ElemT) s.1.1, .dat (.list JoinT) s.1.2.1, .dat (.list SignalT) s.1.2.2.1, .dat (.list LineT) s.1.2.2.2.1, .dat I s.1.2.2.2.2.1, .dat I s.1.2.2.2.2.2.1, .dat I s.1.2.2.2.2.2.2.1, .dat I s.1.2.2.2.2.2.2.2.1, .dat .bool s.1.2.2.2.2.2.2.2.2,
    .dat I s.2.1, .dat I s.2.2.1, .dat I s.2.2.2.1, .row StepT 1001, .row NeedT 1002, .row NeedT 1003, .row I 1004, .row I 1005, .dat .bool s.2.2.2.2.2.2.2.2.2.1, .row PortT 1006]),
   (1001, .row false 50 StepT (gSteps s)), (1002, .row false 62 NeedT (gNeeds s)), (1003, .row false 62 NeedT (gGuards s)), (1004, .row false 3 I (gZone s)), (1005, .row false 3 I (gHolds s)), (1006, .row false 122 PortT (gMet s))]
def a47 (x : PlanD × RoadD × Unit) : Ann := loopAnn [(5, fun _ => {
  σ := Nat
  ok := fun k => k ≤ (fPorts x.1 x.2.1).length
  mu := fun k => (fPorts x.1 x.2.1).length - k
  sl := fun k => [(7, .one (.dat I (k : Int))), (5, .one (.ptr 1000 0))]
  bl := fun k => searchBl (flankUp x.1 x.2.1 k)
  keep := [4, 6]
  keepB := [4] })]
def a19 (x : PlanD × Unit) : Ann := loopAnn [(8, fun _ => {
  σ := Nat
  ok := fun k => k ≤ (fAll x.1).1.length
  mu := fun k => (fAll x.1).1.length - k
  sl := fun k => [(7, .one (.dat I (k : Int))), (5, .one (.row RoadT 1000))]
  bl := fun k => [(1000, .row false 40 RoadT (((fAll x.1).1.take k).map (fFlank x.1) ++ (fAll x.1).1.drop k))]
  keep := [1, 2]
  keepB := [1, 2] })]

end YtpnnfimacblhgaaGreat
end Go.Proofs
end

section
set_option maxRecDepth 100000
set_option linter.unusedVariables false
set_option linter.unusedSimpArgs false
set_option maxHeartbeats 2000000
namespace Go.Proofs
open Go Go.Vc
namespace YtpnnfimacblhgaaGreat

theorem v33 (r : RoadD) : bodyVC (ctxOf tab []) Tryz.f33 c33 (a33 (r, ())) (r, ()) = (
(∃ (s01 : Nat),
s01 ≤ r.snd.snd.snd.fst.length ∧
(↑s01 : Int) = (0 : Int) ∧
List.map (fun (s : StepD) => s.fst) (List.take s01 r.snd.snd.snd.fst) = [] ∧
keepP r (True)) ∧
∀ (s1 : Nat),
lett (decide ((↑s1 : Int) < (↑r.snd.snd.snd.fst.length : Int))) fun (y2 : Bool) =>
lett (List.map (fun (s : StepD) => s.fst) (List.take s1 r.snd.snd.snd.fst)) fun (y3 : List Int) =>
lett ((List.replicate (1 : Nat) (0 : Int)).set (0 : Nat) (r.snd.snd.snd.fst.getD (↑s1 : Int).toNat ((0 : Int), (0 : Int), (0 : Int))).fst) fun (y4 : List Int) =>
s1 ≤ r.snd.snd.snd.fst.length →
(y2 = true →
InB (↑s1 : Int) r.snd.snd.snd.fst.length ∧
roomFor (y3.length + y4.length) (8 : Nat) ∧
InR IntKind.i64 ((↑s1 : Int) + (1 : Int)) ∧
∃ (s'5 : Nat),
s'5 ≤ r.snd.snd.snd.fst.length ∧
r.snd.snd.snd.fst.length - s'5 < r.snd.snd.snd.fst.length - s1 ∧
(↑s'5 : Int) = (↑s1 : Int) + (1 : Int) ∧
List.map (fun (s : StepD) => s.fst) (List.take s'5 r.snd.snd.snd.fst) = y3 ++ y4 ∧
keepP r (True)) ∧
(y2 = false → y3 = fElems r ∧ True)) := by kernel_rfl

theorem b33 (r : RoadD) (hl : r.2.2.2.1.length ≤ 1000000) : bodyVC (ctxOf tab []) Tryz.f33 c33 (a33 (r, ())) (r, ()) := by
  rw [v33]
  simp only [keepP_eq, true_and, and_true, Int.toNat_natCast]
  refine ⟨⟨0, by omega, rfl, rfl⟩, fun s => lett.mk fun y2 e2 => lett.mk fun y3 e3 => lett.mk fun y4 e4 => ?_⟩
  intro hs
  have e4 : y4 = [(r.2.2.2.1.getD s zSt).1] := e4
  refine ⟨fun h => ?_, fun h => ?_⟩
  · have h := lt_of_y e2 h
    refine ⟨⟨by omega, by omega⟩, roomB (by rw [e3, e4]; simp; omega) (by omega), inR64 (by omega) (by omega), s + 1, by omega, by omega, by omega, ?_⟩
    rw [map_succ _ zSt h, e3, e4]
  · rw [e3, take_all e2 h]
    unfold fElems
    rfl

theorem ok33 : DOk Tryz.prog 33 c33 :=
  DOk.of' (l := []) (A := a33) tabOk trivial Tryz.func33 (by kernel_rfl) (by kernel_rfl) fun x _ hp => b33 x.1 hp

theorem v148 (r : RoadD) (e : Int) : bodyVC (ctxOf tab [(33, c33), (16, c16)]) Tryz.f148 c148 noAnn (r, e, ()) = (
r.snd.snd.snd.fst.length ≤ (1000000 : Nat) ∧ True ∧ fMem (fElems r) e = fOwn r e ∧ True) := by kernel_rfl

theorem ok148 : DOk Tryz.prog 148 c148 :=
  DOk.of' (l := [(33, c33), (16, c16)]) (A := fun _ => noAnn) tabOk ⟨ok33, ok16, trivial⟩ Tryz.func148 (by kernel_rfl) (by kernel_rfl) fun x _ hp => by
    obtain ⟨r, e, ⟨⟩⟩ := x
    rw [v148]
    refine ⟨hp, trivial, ?_, trivial⟩
    unfold fOwn
    rfl

theorem v149 (l : List (Int × Int)) (x : Int × Int) : bodyVC (ctxOf tab []) Tryz.f149 c149 (a149 (l, x, ())) (l, x, ()) = (
(∃ (s02 : Nat), (s02 ≤ l.length ∧ noneT (fun (y : PortD) => y == x) l s02) ∧ (↑s02 : Int) = (0 : Int) ∧ l = l ∧ x.fst = x.fst ∧ x.snd = x.snd ∧ True) ∧
∀ (s2 : Nat),
lett (decide ((↑s2 : Int) < (↑l.length : Int))) fun (y3 : Bool) =>
lett (l.getD (↑s2 : Int).toNat ((0 : Int), (0 : Int))) fun (y4 : Int × Int) =>
lett (y4.fst == x.fst && (y4.snd == x.snd && true)) fun (y5 : Bool) =>
s2 ≤ l.length ∧ noneT (fun (y : PortD) => y == x) l s2 →
(y3 = true →
InB (↑s2 : Int) l.length ∧
(y5 = true → true = fHasPort l x ∧ True) ∧
(y5 = false →
InR IntKind.i64 ((↑s2 : Int) + (1 : Int)) ∧
∃ (s'6 : Nat),
(s'6 ≤ l.length ∧ noneT (fun (y : PortD) => y == x) l s'6) ∧
l.length - s'6 < l.length - s2 ∧ (↑s'6 : Int) = (↑s2 : Int) + (1 : Int) ∧ l = l ∧ x.fst = x.fst ∧ x.snd = x.snd ∧ True)) ∧
(y3 = false → false = fHasPort l x ∧ True)) := by kernel_rfl

theorem b149 (l : List PortD) (x : PortD) (hw : l.length ≤ maxLenI) : bodyVC (ctxOf tab []) Tryz.f149 c149 (a149 (l, x, ())) (l, x, ()) := by
  rw [v149]
  simp only [true_and, and_true, Int.toNat_natCast]
  refine ⟨⟨0, ⟨by omega, rfl⟩, rfl⟩, fun s => lett.mk fun y3 e3 => lett.mk fun y4 e4 => lett.mk fun y5 e5 => ?_⟩
  rintro ⟨h1, h2⟩
  have h2 : (l.take s).any (fun y => y == x) = false := h2
  have e5 : y5 = (y4 == x) := by rw [e5]; exact portBeq _ _
  refine ⟨fun hs => ?_, fun hs => ?_⟩
  · have hs := lt_of_y e3 hs
    refine ⟨⟨by omega, by omega⟩, fun h => ?_, fun h => ⟨inRlen hs hw, s + 1, ⟨by omega, ?_⟩, by omega, by omega⟩⟩
    · unfold fHasPort
      exact (any_yes (p := fun y => y == x) (0, 0) hs (by rw [← h, e5, e4])).symm
    · exact any_succ (p := fun y => y == x) (0, 0) hs h2 (by rw [← h, e5, e4])
  · unfold fHasPort
    exact (any_full (le_of_y e3 hs) h2).symm

theorem ok149 : DOk Tryz.prog 149 c149 :=
  DOk.of' (l := []) (A := a149) tabOk trivial Tryz.func149 (by kernel_rfl) (by kernel_rfl) fun x hw _ => b149 x.1 x.2.1 hw.1.1

theorem v157 (l : List (Int × Int)) (x : Int × Int) : bodyVC (ctxOf tab []) Tryz.f157 c157 (a157 (l, x, ())) (l, x, ()) = (
(∃ (s02 : Nat), (s02 ≤ l.length ∧ noneT (fun (y : NeedD) => y == x) l s02) ∧ (↑s02 : Int) = (0 : Int) ∧ l = l ∧ x.fst = x.fst ∧ x.snd = x.snd ∧ True) ∧
∀ (s2 : Nat),
lett (decide ((↑s2 : Int) < (↑l.length : Int))) fun (y3 : Bool) =>
lett (l.getD (↑s2 : Int).toNat ((0 : Int), (0 : Int))) fun (y4 : Int × Int) =>
lett (y4.fst == x.fst && (y4.snd == x.snd && true)) fun (y5 : Bool) =>
s2 ≤ l.length ∧ noneT (fun (y : NeedD) => y == x) l s2 →
(y3 = true →
InB (↑s2 : Int) l.length ∧
(y5 = true → true = fHasNeed l x ∧ True) ∧
(y5 = false →
InR IntKind.i64 ((↑s2 : Int) + (1 : Int)) ∧
∃ (s'6 : Nat),
(s'6 ≤ l.length ∧ noneT (fun (y : NeedD) => y == x) l s'6) ∧
l.length - s'6 < l.length - s2 ∧ (↑s'6 : Int) = (↑s2 : Int) + (1 : Int) ∧ l = l ∧ x.fst = x.fst ∧ x.snd = x.snd ∧ True)) ∧
(y3 = false → false = fHasNeed l x ∧ True)) := by kernel_rfl

theorem b157 (l : List NeedD) (x : NeedD) (hw : l.length ≤ maxLenI) : bodyVC (ctxOf tab []) Tryz.f157 c157 (a157 (l, x, ())) (l, x, ()) := by
  rw [v157]
  simp only [true_and, and_true, Int.toNat_natCast]
  refine ⟨⟨0, ⟨by omega, rfl⟩, rfl⟩, fun s => lett.mk fun y3 e3 => lett.mk fun y4 e4 => lett.mk fun y5 e5 => ?_⟩
  rintro ⟨h1, h2⟩
  have h2 : (l.take s).any (fun y => y == x) = false := h2
  have e5 : y5 = (y4 == x) := by rw [e5]; exact portBeq _ _
  refine ⟨fun hs => ?_, fun hs => ?_⟩
  · have hs := lt_of_y e3 hs
    refine ⟨⟨by omega, by omega⟩, fun h => ?_, fun h => ⟨inRlen hs hw, s + 1, ⟨by omega, ?_⟩, by omega, by omega⟩⟩
    · unfold fHasNeed
      exact (any_yes (p := fun y => y == x) (0, 0) hs (by rw [← h, e5, e4])).symm
    · exact any_succ (p := fun y => y == x) (0, 0) hs h2 (by rw [← h, e5, e4])
  · unfold fHasNeed
    exact (any_full (le_of_y e3 hs) h2).symm

theorem ok157 : DOk Tryz.prog 157 c157 :=
  DOk.of' (l := []) (A := a157) tabOk trivial Tryz.func157 (by kernel_rfl) (by kernel_rfl) fun x hw _ => b157 x.1 x.2.1 hw.1.1

theorem v146 (r : RoadD) (s : Int × Int × Int) (pos : Int) (stop : Int) (to : Int) : bodyVC (ctxOf tab []) Tryz.f146 c146 noAnn (r, s, pos, stop, to, ()) = (
lett (List.replicate (0 : Nat) ((0 : Int), (0 : Int), (0 : Int))) fun (y5 : List (Int × Int × Int)) =>
lett (y5 ++ r.snd.snd.snd.fst) fun (y6 : List (Int × Int × Int)) =>
lett ((List.replicate (1 : Nat) ((0 : Int), (0 : Int), (0 : Int))).set (0 : Nat) s) fun (y7 : List (Int × Int × Int)) =>
lett (List.replicate (0 : Nat) ((0 : Int), (0 : Int)) ++ r.snd.snd.snd.snd.fst) fun (y8 : List (Int × Int)) =>
lett ((List.replicate (1 : Nat) ((0 : Int), (0 : Int))).set (0 : Nat) (s.fst, pos)) fun (y9 : List (Int × Int)) =>
lett ([], [], [], false) fun (y10 : List (Int × Int) × List Int × List Int × Bool) =>
lett (fWith r s pos stop to) fun (y11 : RoadD) =>
roomFor (y5.length + r.snd.snd.snd.fst.length) (24 : Nat) ∧
roomFor (y6.length + y7.length) (24 : Nat) ∧
roomFor ((List.replicate (0 : Nat) ((0 : Int), (0 : Int))).length + r.snd.snd.snd.snd.fst.length) (16 : Nat) ∧
((pos != (0 : Int)) = true → roomFor (y8.length + y9.length) (16 : Nat) ∧ (r.fst, to, stop, y6 ++ y7, y8 ++ y9, y10) = y11 ∧ True) ∧
((pos != (0 : Int)) = false → (r.fst, to, stop, y6 ++ y7, y8, y10) = y11 ∧ True)) := by kernel_rfl

theorem b146 (r : RoadD) (s : StepD) (pos stop to : Int) (hp : withPre r) : bodyVC (ctxOf tab []) Tryz.f146 c146 noAnn (r, s, pos, stop, to, ()) := by
  obtain ⟨h1, h2⟩ := hp
  rw [v146]
  refine lett.mk fun y5 e5 => lett.mk fun y6 e6 => lett.mk fun y7 e7 => lett.mk fun y8 e8 => lett.mk fun y9 e9 => lett.mk fun y10 e10 => lett.mk fun y11 e11 => ?_
  have e5 : y5 = [] := e5
  subst e5
  have e6 : y6 = r.2.2.2.1 := e6
  have e7 : y7 = [s] := e7
  have e8 : y8 = r.2.2.2.2.1 := e8
  have e9 : y9 = [(s.1, pos)] := e9
  have hW : y11 = (r.1, to, stop, r.2.2.2.1 ++ [s], r.2.2.2.2.1 ++ (bif pos == 0 then [] else [(s.1, pos)]), [], [], [], false) := by rw [e11]; unfold fWith; rfl
  refine ⟨roomB (by simp; omega) (by omega), roomB (by rw [e6, e7]; simp; omega) (by omega), roomB (by simp; omega) (by omega), fun h => ⟨roomB (by rw [e8, e9]; simp; omega) (by omega), ?_, trivial⟩, fun h => ⟨?_, trivial⟩⟩
  · have : (pos == 0) = false := by rw [bneB] at h; simpa using h
    rw [hW, this, e6, e7, e8, e9, e10]
    rfl
  · have : (pos == 0) = true := by rw [bneB] at h; simpa using h
    rw [hW, this, e6, e7, e8, e10]
    simp

theorem ok146 : DOk Tryz.prog 146 c146 :=
  DOk.of' (l := []) (A := fun _ => noAnn) tabOk trivial Tryz.func146 (by kernel_rfl) (by kernel_rfl) fun x _ hp => b146 x.1 x.2.1 x.2.2.1 x.2.2.2.1 x.2.2.2.2.1 hp

/-! ### All roads on -/

theorem with_steps (r : RoadD) (s : StepD) (pos stop to : Int) : (fWith r s pos stop to).2.2.2.1 = r.2.2.2.1 ++ [s] := by unfold fWith; rfl
theorem with_needs (r : RoadD) (s : StepD) (pos stop to : Int) : (fWith r s pos stop to).2.2.2.2.1.length ≤ r.2.2.2.2.1.length + 1 := by
  unfold fWith
  show (r.2.2.2.2.1 ++ (bif pos == 0 then [] else [(s.1, pos)])).length ≤ _
  cases pos == 0 <;> simp

theorem ways_succ {p : PlanD} {rec : RoadD → PortD → List Int → List RoadD} {r : RoadD} {x : PortD} {met : List Int} {k : Nat} (h : k < (fOuts p x.1 x.2).length) :
    onWays p rec r x met (k + 1) = onWays p rec r x met k ++ onWay p rec r x met ((fOuts p x.1 x.2).getD k (0, 0)) := by
  unfold onWays
  exact flat_succ _ (0, 0) h

theorem ways_zero {p : PlanD} {rec : RoadD → PortD → List Int → List RoadD} {r : RoadD} {x : PortD} {met : List Int} : onWays p rec r x met 0 = [] := by
  unfold onWays
  rfl

theorem way_len {p : PlanD} {rec : RoadD → PortD → List Int → List RoadD} {B : Nat} (hB : 1 ≤ B) (hrec : ∀ r x met, (rec r x met).length ≤ B) (r : RoadD) (x : PortD) (met : List Int) (w : Int × Int) : (onWay p rec r x met w).length ≤ B := by
  unfold onWay
  cases decide (0 ≤ fReads p (x.1, w.1)) <;> cases !(fNext p (x.1, w.1)).2
  · exact hrec _ _ _
  · exact hB
  · exact hB
  · exact hB

theorem ways_len {p : PlanD} {rec : RoadD → PortD → List Int → List RoadD} {B : Nat} (hB : 1 ≤ B) (hrec : ∀ r x met, (rec r x met).length ≤ B) (r : RoadD) (x : PortD) (met : List Int) : ∀ k, k ≤ (fOuts p x.1 x.2).length → (onWays p rec r x met k).length ≤ k * B
  | 0, _ => by rw [ways_zero]; simp
  | k + 1, h => by
    rw [ways_succ (by omega), List.length_append, Nat.succ_mul]
    have h1 := ways_len (p := p) hB hrec r x met k (by omega)
    have h2 := way_len (p := p) hB hrec r x met ((fOuts p x.1 x.2).getD k (0, 0))
    omega

theorem on_len (p : PlanD) : ∀ (n : Nat) (r : RoadD) (x : PortD) (met : List Int), (fOn p n r x met).length ≤ 2 ^ n
  | 0, _, _, _ => by show 0 ≤ _; omega
  | n + 1, r, x, met => by
    have h1 : 1 ≤ 2 ^ n := Nat.one_le_two_pow
    have hw := ways_len (p := p) h1 (on_len p n) r x (met ++ [x.1]) (fOuts p x.1 x.2).length (Nat.le_refl _)
    have ho := outs_len p x.1 x.2
    have hm : (fOuts p x.1 x.2).length * 2 ^ n ≤ 2 * 2 ^ n := Nat.mul_le_mul_right _ ho
    have hp : 2 ^ (n + 1) = 2 * 2 ^ n := by rw [Nat.pow_succ, Nat.mul_comm]
    show (onStep p (fOn p n) r x met).length ≤ _
    unfold onStep
    cases fMem met x.1 || decide (r.2.2.2.1.length = 12) <;> cases fKind p x.1 == 4
    · rw [cond_false, cond_false]; omega
    · rw [cond_false, cond_true]; show 1 ≤ _; omega
    · rw [cond_true]; show 0 ≤ _; omega
    · rw [cond_true]; show 0 ≤ _; omega

theorem v124 (n : Nat) (p : PlanD) (r : RoadD) (x : Int × Int) (met : List Int) : bodyVC (ctxOf tab [(16, c16), (125, c125), (146, c146), (147, c147), (120, c120), (107, c107), (124, c124 n)]) Tryz.f124 (c124 (n + 1)) (a124 n (p, r, x, met, ())) (p, r, x, met, ()) = (
lett (bif fMem met x.fst then true else (↑r.snd.snd.snd.fst.length : Int) == (12 : Int)) fun (y4 : Bool) =>
lett (fOn p (n + (1 : Nat)) r x met) fun (y5 : List RoadD) =>
lett ((List.replicate (1 : Nat) (0 : Int)).set (0 : Nat) x.fst) fun (y6 : List Int) =>
lett (fKind p x.fst == (4 : Int)) fun (y7 : Bool) =>
lett (List.replicate (1 : Nat) ((0 : Int), (0 : Int), (0 : Int), [], [], [], [], [], false))
fun (y8 : List (RoadD)) =>
lett (fOuts p x.fst x.snd) fun (y9 : List (Int × Int)) =>
lett (met ++ [x.fst]) fun (y10 : List Int) =>
True ∧
(y4 = true → [] = y5 ∧ True) ∧
(y4 = false →
roomFor ((List.replicate (0 : Nat) (0 : Int)).length + met.length) (8 : Nat) ∧
roomFor ((List.replicate (0 : Nat) (0 : Int) ++ met).length + y6.length) (8 : Nat) ∧
True ∧
(y7 = true → withPre r ∧ y8.set (0 : Nat) (fWith r (x.fst, x.snd, (-1 : Int)) (0 : Int) (2 : Int) (-1 : Int)) = y5 ∧ True) ∧
(y7 = false →
True ∧
(∃ (s011 : Nat),
s011 ≤ y9.length ∧
(↑s011 : Int) = (0 : Int) ∧
y9 = y9 ∧
onWays p (fOn p n) r x y10 s011 = [] ∧
y10 = List.replicate (0 : Nat) (0 : Int) ++ met ++ y6 ∧
keepP p (keepP r (x.fst = x.fst ∧ x.snd = x.snd ∧ True))) ∧
∀ (s11 : Nat),
lett (decide ((↑s11 : Int) < (↑y9.length : Int))) fun (y12 : Bool) =>
lett (y9.getD (↑s11 : Int).toNat ((0 : Int), (0 : Int))) fun (y13 : Int × Int) =>
lett (fReads p (x.fst, y13.fst)) fun (y14 : Int) =>
lett (onWays p (fOn p n) r x y10 s11) fun (y15 : List RoadD) =>
lett (x.fst, x.snd, y13.fst) fun (y16 : Int × Int × Int) =>
lett (y8.set (0 : Nat) (fWith r y16 y13.snd (1 : Int) y14))
fun (y17 : List (RoadD)) =>
lett (fNext p (x.fst, y13.fst)) fun (y18 : PortD × Bool) =>
lett (y8.set (0 : Nat) (fWith r y16 y13.snd (3 : Int) (-1 : Int)))
fun (y19 : List (RoadD)) =>
lett (fWith r y16 y13.snd (0 : Int) (-1 : Int)) fun (y20 : RoadD) =>
lett (fOn p n y20 y18.fst y10) fun (y21 : List RoadD) =>
s11 ≤ y9.length →
(y12 = true →
InB (↑s11 : Int) y9.length ∧
InB (↑s11 : Int) y9.length ∧
True ∧
(decide (y14 ≥ (0 : Int)) = true →
InB (↑s11 : Int) y9.length ∧
withPre r ∧
roomFor (y15.length + y17.length) (152 : Nat) ∧
InR IntKind.i64 ((↑s11 : Int) + (1 : Int)) ∧
∃ (s'22 : Nat),
s'22 ≤ y9.length ∧
y9.length - s'22 < y9.length - s11 ∧
(↑s'22 : Int) = (↑s11 : Int) + (1 : Int) ∧
y9 = y9 ∧
onWays p (fOn p n) r x y10 s'22 = y15 ++ y17 ∧
y10 = y10 ∧
keepP p (keepP r (x.fst = x.fst ∧ x.snd = x.snd ∧ True))) ∧
(decide (y14 ≥ (0 : Int)) = false →
True ∧
((!y18.snd) = true →
InB (↑s11 : Int) y9.length ∧
withPre r ∧
roomFor (y15.length + y19.length) (152 : Nat) ∧
InR IntKind.i64 ((↑s11 : Int) + (1 : Int)) ∧
∃ (s'22 : Nat),
s'22 ≤ y9.length ∧
y9.length - s'22 < y9.length - s11 ∧
(↑s'22 : Int) = (↑s11 : Int) + (1 : Int) ∧
y9 = y9 ∧
onWays p (fOn p n) r x y10 s'22 = y15 ++ y19 ∧
y10 = y10 ∧
keepP p (r.fst = r.fst ∧
r.snd.fst = r.snd.fst ∧
r.snd.snd.fst = r.snd.snd.fst ∧
r.snd.snd.snd.fst = r.snd.snd.snd.fst ∧
r.snd.snd.snd.snd.fst = r.snd.snd.snd.snd.fst ∧
r.snd.snd.snd.snd.snd.fst = r.snd.snd.snd.snd.snd.fst ∧
r.snd.snd.snd.snd.snd.snd.fst = r.snd.snd.snd.snd.snd.snd.fst ∧
r.snd.snd.snd.snd.snd.snd.snd.fst =
r.snd.snd.snd.snd.snd.snd.snd.fst ∧
r.snd.snd.snd.snd.snd.snd.snd.snd =
r.snd.snd.snd.snd.snd.snd.snd.snd ∧
x.fst = x.fst ∧ x.snd = x.snd ∧ True)) ∧
((!y18.snd) = false →
InB (↑s11 : Int) y9.length ∧
withPre r ∧
onPre n y20 y10 ∧
roomFor (y15.length + y21.length) (152 : Nat) ∧
InR IntKind.i64 ((↑s11 : Int) + (1 : Int)) ∧
∃ (s'22 : Nat),
s'22 ≤ y9.length ∧
y9.length - s'22 < y9.length - s11 ∧
(↑s'22 : Int) = (↑s11 : Int) + (1 : Int) ∧
y9 = y9 ∧
onWays p (fOn p n) r x y10 s'22 = y15 ++ y21 ∧
y10 = y10 ∧
keepP p (r.fst = r.fst ∧
r.snd.fst = r.snd.fst ∧
r.snd.snd.fst = r.snd.snd.fst ∧
r.snd.snd.snd.fst = r.snd.snd.snd.fst ∧
r.snd.snd.snd.snd.fst = r.snd.snd.snd.snd.fst ∧
r.snd.snd.snd.snd.snd.fst = r.snd.snd.snd.snd.snd.fst ∧
r.snd.snd.snd.snd.snd.snd.fst = r.snd.snd.snd.snd.snd.snd.fst ∧
r.snd.snd.snd.snd.snd.snd.snd.fst =
r.snd.snd.snd.snd.snd.snd.snd.fst ∧
r.snd.snd.snd.snd.snd.snd.snd.snd =
r.snd.snd.snd.snd.snd.snd.snd.snd ∧
x.fst = x.fst ∧ x.snd = x.snd ∧ True)))) ∧
(y12 = false → y15 = y5 ∧ True)))) := by kernel_rfl

theorem b124 (n : Nat) (p : PlanD) (r : RoadD) (x : PortD) (met : List Int) (hp : onPre (n + 1) r met) : bodyVC (ctxOf tab [(16, c16), (125, c125), (146, c146), (147, c147), (120, c120), (107, c107), (124, c124 n)]) Tryz.f124 (c124 (n + 1)) (a124 n (p, r, x, met, ())) (p, r, x, met, ()) := by
  obtain ⟨⟨p1, p2, p3⟩, p4, p5⟩ := hp
  have hwp : withPre r := ⟨by omega, by omega⟩
  have h2n : 2 ^ n ≤ 2 ^ 12 := Nat.pow_le_pow_right (by omega) (by omega)
  have h212 : 2 ^ 12 = 4096 := by decide
  have h1n : 1 ≤ 2 ^ n := Nat.one_le_two_pow
  rw [v124]
  refine lett.mk fun y4 e4 => lett.mk fun y5 e5 => lett.mk fun y6 e6 => lett.mk fun y7 e7 => lett.mk fun y8 e8 => lett.mk fun y9 e9 => lett.mk fun y10 e10 => ?_
  have e6 : y6 = [x.1] := e6
  rw [eqN' _ 12 12 rfl] at e4
  have hS : y5 = bif y4 then [] else bif y7 then [fWith r (x.1, x.2, -1) 0 2 (-1)] else onWays p (fOn p n) r x y10 (fOuts p x.1 x.2).length := by
    rw [e5, e4, e7, e10]
    show onStep p (fOn p n) r x met = _
    unfold onStep
    have key : ∀ a b : Bool, (a || b) = (bif a then true else b) := by decide
    rw [key]
  simp only [keepP_eq, true_and, and_true, Int.toNat_natCast]
  refine ⟨fun h => by rw [hS, h]; rfl, fun h4 => ⟨roomB (by simp; omega) (by omega), roomB (by rw [e6]; simp; omega) (by omega), fun h7 => ⟨hwp, by rw [hS, h4, h7, e8]; rfl⟩, fun h7 => ⟨⟨0, by omega, rfl, ways_zero, by rw [e10, e6]; rfl⟩, fun s => lett.mk fun y12 e12 => lett.mk fun y13 e13 => lett.mk fun y14 e14 => lett.mk fun y15 e15 => lett.mk fun y16 e16 => lett.mk fun y17 e17 => lett.mk fun y18 e18 => lett.mk fun y19 e19 => lett.mk fun y20 e20 => lett.mk fun y21 e21 => ?_⟩⟩⟩
  have hol := outs_len p x.1 x.2
  rw [← e9] at hol
  intro hs
  have hwl := ways_len (p := p) h1n (on_len p n) r x y10 s (by rw [← e9]; exact hs)
  rw [← e15] at hwl
  have hsm : s * 2 ^ n ≤ 2 * 4096 := Nat.mul_le_mul (by omega) (by omega)
  have e13 : y13 = (fOuts p x.1 x.2).getD s (0, 0) := by rw [e13, e9]
  have hway : onWay p (fOn p n) r x y10 y13 = bif decide (0 ≤ y14) then [fWith r y16 y13.2 1 y14] else bif !y18.2 then [fWith r y16 y13.2 3 (-1)] else fOn p n y20 y18.1 y10 := by
    rw [e20, e18, e16, e14]
    unfold onWay
    rfl
  rw [e8] at e17 e19
  have e17 : y17 = [fWith r y16 y13.2 1 y14] := e17
  have e19 : y19 = [fWith r y16 y13.2 3 (-1)] := e19
  refine ⟨fun h => ?_, fun h => ?_⟩
  · have h := lt_of_y e12 h
    have hin : InB (s : Int) y9.length := ⟨by omega, by omega⟩
    have hsucc := ways_succ (rec := fOn p n) (r := r) (met := y10) (k := s) (by rw [← e9]; exact h)
    rw [← e13, hway, ← e15] at hsucc
    refine ⟨hin, hin, fun h14 => ?_, fun h14 => ⟨fun h18 => ?_, fun h18 => ?_⟩⟩
    · refine ⟨hin, hwp, roomB (by rw [e17]; simp; omega) (by omega), inR64 (by omega) (by omega), s + 1, by omega, by omega, by omega, ?_⟩
      have h14 : decide (0 ≤ y14) = true := h14
      rw [hsucc, h14, e17]
      rfl
    · refine ⟨hin, hwp, roomB (by rw [e19]; simp; omega) (by omega), inR64 (by omega) (by omega), s + 1, by omega, by omega, by omega, ?_⟩
      have h14 : decide (0 ≤ y14) = false := h14
      rw [hsucc, h14, h18, e19]
      rfl
    · have hl21 : y21.length ≤ 2 ^ n := by rw [e21]; exact on_len p n _ _ _
      have hst : y20.2.2.2.1.length = r.2.2.2.1.length + 1 := by rw [e20, with_steps]; simp
      have hnd : y20.2.2.2.2.1.length ≤ r.2.2.2.2.1.length + 1 := by rw [e20]; exact with_needs _ _ _ _ _
      have hne : r.2.2.2.1.length ≠ 12 := by
        rw [e4] at h4
        exact of_decide_eq_false (bif_or h4).2
      have h10 : y10.length = met.length + 1 := by rw [e10]; simp
      refine ⟨hin, hwp, ⟨⟨by omega, by omega, by omega⟩, by omega, by omega⟩, roomB (by omega) (by omega), inR64 (by omega) (by omega), s + 1, by omega, by omega, by omega, ?_⟩
      have h14 : decide (0 ≤ y14) = false := h14
      rw [hsucc, h14, h18, e21]
      rfl
  · have hle := le_of_y e12 h
    have : s = (fOuts p x.1 x.2).length := by rw [← e9]; omega
    rw [hS, h4, h7, e15, this]
    rfl

theorem on_zero {r : RoadD} {met : List Int} : ¬ onPre 0 r met := fun hp => by
  obtain ⟨⟨p1, p2, p3⟩, _⟩ := hp
  omega

theorem ok124 : ∀ n : Nat, DOk Tryz.prog 124 (c124 n)
  | 0 => { fn := ⟨Tryz.f124, _, Tryz.func124, by kernel_rfl, rfl⟩, calls := fun F w x vs hF hx hp => absurd hp on_zero }
  | n + 1 => DOk.of' (l := [(16, c16), (125, c125), (146, c146), (147, c147), (120, c120), (107, c107), (124, c124 n)]) (A := a124 n) tabOk ⟨ok16, ok125, ok146, ok147, ok120, ok107, ok124 n, trivial⟩ Tryz.func124 (by kernel_rfl) (by kernel_rfl) fun x _ hp => b124 n x.1 x.2.1 x.2.2.1 x.2.2.2.1 hp

theorem v76 (p : PlanD) (s : Int) : bodyVC (ctxOf tab [(123, c123), (107, c107), (124, c124 13)]) Tryz.f76 c76 noAnn (p, s, ()) = (
lett (fNext p (fAt p s).fst) fun (y2 : PortD × Bool) =>
lett (s, (0 : Int), (0 : Int), [], [], [], [], [], false) fun (y3 : RoadD) =>
lett ((List.replicate (1 : Nat) (0 : Int)).set (0 : Nat) (fAt p s).fst.fst) fun (y4 : List Int) =>
True ∧
((!(fAt p s).snd) = true → [] = fOf p s ∧ True) ∧
((!(fAt p s).snd) = false → True ∧ ((!y2.snd) = true → [] = fOf p s ∧ True) ∧ ((!y2.snd) = false → onPre (13 : Nat) y3 y4 ∧ fOn p (13 : Nat) y3 y2.fst y4 = fOf p s ∧ True))) := by kernel_rfl

theorem of_pre (s e : Int) : onPre 13 (roadFrom s) [e] :=
  ⟨⟨show 12 < 0 + 13 by omega, show 0 ≤ 12 by omega, by omega⟩, show 0 ≤ 0 by omega, show 1 ≤ 0 + 1 by omega⟩

theorem ok76 : DOk Tryz.prog 76 c76 :=
  DOk.of' (l := [(123, c123), (107, c107), (124, c124 13)]) (A := fun _ => noAnn) tabOk ⟨ok123, ok107, ok124 13, trivial⟩ Tryz.func76 (by kernel_rfl) (by kernel_rfl) fun x _ hp => by
    obtain ⟨p, s, ⟨⟩⟩ := x
    rw [v76]
    refine lett.mk fun y2 e2 => lett.mk fun y3 e3 => lett.mk fun y4 e4 => ⟨trivial, fun h => ⟨?_, trivial⟩, fun h => ⟨trivial, fun h2 => ⟨?_, trivial⟩, fun h2 => ⟨by rw [e3, e4]; exact of_pre _ _, ?_, trivial⟩⟩⟩
    · unfold fOf
      rw [h]
      rfl
    · unfold fOf
      rw [h, ← e2, h2]
      rfl
    · unfold fOf
      rw [h, ← e2, h2, e3, e4]
      rfl

theorem of_len (p : PlanD) (s : Int) : (fOf p s).length ≤ 8192 := by
  unfold fOf
  have h := on_len p 13 (roadFrom s) (fNext p (fAt p s).1).1 [(fAt p s).1.1]
  have e : 2 ^ 13 = 8192 := by decide
  rw [e] at h
  cases !(fAt p s).2 <;> cases !(fNext p (fAt p s).1).2
  · exact h
  · exact Nat.zero_le _
  · exact Nat.zero_le _
  · exact Nat.zero_le _

theorem all_up_succ (p : PlanD) (k : Nat) : allUp p (k + 1) = allUp p k ++ fOf p (k : Int) := by
  unfold allUp
  rw [List.range_succ, List.flatMap_append]
  simp

theorem all_up_len {p : PlanD} {k : Nat} (h : anyTo (allLong p) k = false) : (allUp p k).length ≤ 64 := by
  cases k with
  | zero => unfold allUp; simp
  | succ k =>
    have := anyTo_none.1 h k (by omega)
    have := of_decide_eq_false this
    omega

theorem v46 (p : PlanD) : obodyVC (ctxOf tab [(76, c76)]) Tryz.f46 c46 (a46 (p, ())) (p, ()) = (
(∃ (s01 : Nat),
(s01 ≤ p.snd.snd.fst.length ∧ noneOf (allLong p) s01) ∧
(↑s01 : Int) = (0 : Int) ∧
allUp p s01 = [] ∧
keepP p (True)) ∧
∀ (s1 : Nat),
lett (decide ((↑s1 : Int) < (↑p.snd.snd.fst.length : Int))) fun (y2 : Bool) =>
lett (allUp p s1 ++ fOf p (↑s1 : Int)) fun (y3 : List (RoadD)) =>
lett (decide ((↑y3.length : Int) > (64 : Int))) fun (y4 : Bool) =>
s1 ≤ p.snd.snd.fst.length ∧ noneOf (allLong p) s1 →
(y2 = true →
True ∧
roomFor ((allUp p s1).length + (fOf p (↑s1 : Int)).length) (152 : Nat) ∧
(y4 = true → [] = (fAll p).fst ∧ (3 : Int) = (fAll p).snd ∧ True) ∧
(y4 = false →
InR IntKind.i64 ((↑s1 : Int) + (1 : Int)) ∧
∃ (s'5 : Nat),
(s'5 ≤ p.snd.snd.fst.length ∧ noneOf (allLong p) s'5) ∧
p.snd.snd.fst.length - s'5 < p.snd.snd.fst.length - s1 ∧
(↑s'5 : Int) = (↑s1 : Int) + (1 : Int) ∧
allUp p s'5 = y3 ∧
keepP p (True))) ∧
(y2 = false → allUp p s1 = (fAll p).fst ∧ (0 : Int) = (fAll p).snd ∧ True)) := by kernel_rfl

theorem b46 (p : PlanD) (hl : p.2.2.1.length ≤ 1000) : obodyVC (ctxOf tab [(76, c76)]) Tryz.f46 c46 (a46 (p, ())) (p, ()) := by
  have hA : fAll p = bif anyTo (allLong p) p.2.2.1.length then ([], 3) else (allUp p p.2.2.1.length, 0) := by unfold fAll; rfl
  rw [v46]
  simp only [keepP_eq, true_and, and_true, Int.toNat_natCast]
  refine ⟨⟨0, ⟨by omega, rfl⟩, rfl, by unfold allUp; rfl⟩, fun s => lett.mk fun y2 e2 => lett.mk fun y3 e3 => lett.mk fun y4 e4 => ?_⟩
  rintro ⟨h1, h2⟩
  have h2 : anyTo (allLong p) s = false := h2
  have hl2 := all_up_len h2
  have hol := of_len p s
  have e3 : y3 = allUp p (s + 1) := by rw [all_up_succ]; exact e3
  have e4 : allLong p s = y4 := by
    rw [e4, gtN _ 64 64 rfl, e3]
    unfold allLong
    by_cases h : (allUp p (s + 1)).length ≤ 64
    · rw [decide_eq_true h, decide_eq_false (by omega)]; rfl
    · rw [decide_eq_false h, decide_eq_true (by omega)]; rfl
  refine ⟨fun h => ?_, fun h => ?_⟩
  · have h := lt_of_y e2 h
    refine ⟨roomB (by omega) (by omega), fun h4 => ?_, fun h4 => ⟨inR64 (by omega) (by omega), s + 1, ⟨by omega, ?_⟩, by omega, by omega, e3.symm⟩⟩
    · rw [hA, anyTo_yes h (by rw [e4, h4])]
      exact ⟨rfl, rfl⟩
    · exact anyTo_succ h2 (by rw [e4, h4])
  · have hle := le_of_y e2 h
    have : s = p.2.2.1.length := by omega
    subst this
    rw [hA, h2]
    exact ⟨rfl, rfl⟩

theorem ok46 : OOk Tryz.prog 46 c46 :=
  OOk.of' (l := [(76, c76)]) (A := a46) tabOk ⟨ok76, trivial⟩ Tryz.func46 (by kernel_rfl) (by kernel_rfl) fun x _ hp => b46 x.1 hp

/-! ### What could come in -/

theorem ports_on_succ {p : PlanD} {l : List PortD} {s : Nat} (h : s < l.length) : portsOn p (l.take (s + 1)) = portsOn p (l.take s) ++ (bif (fNext p (l.getD s (0, 0))).2 then [l.getD s (0, 0)] else []) := by
  unfold portsOn
  rw [take_succ' (0, 0) h, List.filter_append]
  congr 1

theorem ports_up_succ {p : PlanD} {r : RoadD} {s : Nat} (h : s < r.2.2.2.1.length) : portsUp p r (s + 1) = portsUp p r s ++ portsOn p (portsAt p (r.2.2.2.1.getD s zSt)) := by
  unfold portsUp
  exact flat_succ _ zSt h

theorem ports_at_len (p : PlanD) (s : StepD) : (portsAt p s).length ≤ 2 := by
  unfold portsAt
  cases fKind p s.1 == 2 <;> cases fKind p s.1 == 3 <;> simp

theorem ports_on_len (p : PlanD) (l : List PortD) : (portsOn p l).length ≤ l.length := by
  unfold portsOn
  exact List.length_filter_le _ _

theorem ports_up_len (p : PlanD) (r : RoadD) : ∀ k, k ≤ r.2.2.2.1.length → (portsUp p r k).length ≤ 2 * k
  | 0, _ => by unfold portsUp; simp
  | k + 1, h => by
    rw [ports_up_succ (by omega), List.length_append]
    have h1 := ports_up_len p r k (by omega)
    have h2 := ports_on_len p (portsAt p (r.2.2.2.1.getD k zSt))
    have h3 := ports_at_len p (r.2.2.2.1.getD k zSt)
    omega

theorem v77 (p : PlanD) (r : RoadD) : bodyVC (ctxOf tab [(125, c125), (107, c107)]) Tryz.f77 c77 (a77 (p, r, ())) (p, r, ()) = (
(∃ (s02 : Nat),
s02 ≤ r.snd.snd.snd.fst.length ∧
(↑s02 : Int) = (0 : Int) ∧
portsUp p r s02 = [] ∧
keepP p (keepP r (True))) ∧
∀ (s2 : Nat),
lett (decide ((↑s2 : Int) < (↑r.snd.snd.snd.fst.length : Int))) fun (y3 : Bool) =>
lett (r.snd.snd.snd.fst.getD (↑s2 : Int).toNat ((0 : Int), (0 : Int), (0 : Int))) fun (y4 : Int × Int × Int) =>
lett (fKind p y4.fst == (2 : Int)) fun (y5 : Bool) =>
lett ((3 : Int) - max y4.snd.fst y4.snd.snd) fun (y6 : Int) =>
lett ((List.replicate (1 : Nat) ((0 : Int), (0 : Int))).set (0 : Nat) (y4.fst, y6)) fun (y7 : List (Int × Int)) =>
lett (portsAt p (r.snd.snd.snd.fst.getD (↑s2 : Int).toNat zSt)) fun (y8 : List PortD) =>
lett (portsUp p r (↑s2 : Int).toNat) fun (y9 : List PortD) =>
lett (fKind p y4.fst == (3 : Int)) fun (y10 : Bool) =>
lett (bif decide (y4.snd.fst ≥ (2 : Int)) then (0 : Int) else (2 : Int)) fun (y11 : Int) =>
lett (((List.replicate (2 : Nat) ((0 : Int), (0 : Int))).set (0 : Nat) (y4.fst, y11)).set (1 : Nat) (y4.fst, y11 + (1 : Int))) fun (y12 : List (Int × Int)) =>
s2 ≤ r.snd.snd.snd.fst.length →
(y3 = true →
InB (↑s2 : Int) r.snd.snd.snd.fst.length ∧
True ∧
(y5 = true →
InR IntKind.i64 y6 ∧
roomFor y7.length (16 : Nat) ∧
(∃ (s013 : Nat),
s013 ≤ y8.length ∧
(↑s013 : Int) = (0 : Int) ∧
(↑s2 : Int) = (↑s2 : Int) ∧
y9 ++ portsOn p (List.take s013 y8) = portsUp p r s2 ∧
y8 = y7 ∧
keepP p (keepP r (True))) ∧
∀ (s13 : Nat),
lett (decide ((↑s13 : Int) < (↑y8.length : Int))) fun (y14 : Bool) =>
lett (y8.getD (↑s13 : Int).toNat ((0 : Int), (0 : Int))) fun (y15 : Int × Int) =>
lett (y9 ++ portsOn p (List.take s13 y8)) fun (y16 : List PortD) =>
lett ((List.replicate (1 : Nat) ((0 : Int), (0 : Int))).set (0 : Nat) y15) fun (y17 : List (Int × Int)) =>
s13 ≤ y8.length →
(y14 = true →
InB (↑s13 : Int) y8.length ∧
True ∧
((fNext p y15).snd = true →
InB (↑s13 : Int) y8.length ∧
roomFor (y16.length + y17.length) (16 : Nat) ∧
InR IntKind.i64 ((↑s13 : Int) + (1 : Int)) ∧
∃ (s'18 : Nat),
s'18 ≤ y8.length ∧
y8.length - s'18 < y8.length - s13 ∧
(↑s'18 : Int) = (↑s13 : Int) + (1 : Int) ∧
(↑s2 : Int) = (↑s2 : Int) ∧
y9 ++ portsOn p (List.take s'18 y8) = y16 ++ y17 ∧
y8 = y8 ∧
keepP p (keepP r (True))) ∧
((fNext p y15).snd = false →
InR IntKind.i64 ((↑s13 : Int) + (1 : Int)) ∧
∃ (s'18 : Nat),
s'18 ≤ y8.length ∧
y8.length - s'18 < y8.length - s13 ∧
(↑s'18 : Int) = (↑s13 : Int) + (1 : Int) ∧
(↑s2 : Int) = (↑s2 : Int) ∧
y9 ++ portsOn p (List.take s'18 y8) = y16 ∧
y8 = y8 ∧
keepP p (keepP r (True)))) ∧
(y14 = false →
InR IntKind.i64 ((↑s2 : Int) + (1 : Int)) ∧
∃ (s'18 : Nat),
s'18 ≤ r.snd.snd.snd.fst.length ∧
r.snd.snd.snd.fst.length - s'18 < r.snd.snd.snd.fst.length - s2 ∧
(↑s'18 : Int) = (↑s2 : Int) + (1 : Int) ∧
portsUp p r s'18 = y16 ∧
keepP p (keepP r (True)))) ∧
(y5 = false →
(y10 = true →
InR IntKind.i64 (y11 + (1 : Int)) ∧
roomFor y12.length (16 : Nat) ∧
(∃ (s013 : Nat),
s013 ≤ y8.length ∧
(↑s013 : Int) = (0 : Int) ∧
(↑s2 : Int) = (↑s2 : Int) ∧
y9 ++ portsOn p (List.take s013 y8) = portsUp p r s2 ∧
y8 = y12 ∧
keepP p (keepP r (True))) ∧
∀ (s13 : Nat),
lett (decide ((↑s13 : Int) < (↑y8.length : Int))) fun (y14 : Bool) =>
lett (y8.getD (↑s13 : Int).toNat ((0 : Int), (0 : Int))) fun (y15 : Int × Int) =>
lett (y9 ++ portsOn p (List.take s13 y8)) fun (y16 : List PortD) =>
lett ((List.replicate (1 : Nat) ((0 : Int), (0 : Int))).set (0 : Nat) y15) fun (y17 : List (Int × Int)) =>
s13 ≤ y8.length →
(y14 = true →
InB (↑s13 : Int) y8.length ∧
True ∧
((fNext p y15).snd = true →
InB (↑s13 : Int) y8.length ∧
roomFor (y16.length + y17.length) (16 : Nat) ∧
InR IntKind.i64 ((↑s13 : Int) + (1 : Int)) ∧
∃ (s'18 : Nat),
s'18 ≤ y8.length ∧
y8.length - s'18 < y8.length - s13 ∧
(↑s'18 : Int) = (↑s13 : Int) + (1 : Int) ∧
(↑s2 : Int) = (↑s2 : Int) ∧
y9 ++ portsOn p (List.take s'18 y8) = y16 ++ y17 ∧
y8 = y8 ∧
keepP p (keepP r (True))) ∧
((fNext p y15).snd = false →
InR IntKind.i64 ((↑s13 : Int) + (1 : Int)) ∧
∃ (s'18 : Nat),
s'18 ≤ y8.length ∧
y8.length - s'18 < y8.length - s13 ∧
(↑s'18 : Int) = (↑s13 : Int) + (1 : Int) ∧
(↑s2 : Int) = (↑s2 : Int) ∧
y9 ++ portsOn p (List.take s'18 y8) = y16 ∧
y8 = y8 ∧
keepP p (keepP r (True)))) ∧
(y14 = false →
InR IntKind.i64 ((↑s2 : Int) + (1 : Int)) ∧
∃ (s'18 : Nat),
s'18 ≤ r.snd.snd.snd.fst.length ∧
r.snd.snd.snd.fst.length - s'18 < r.snd.snd.snd.fst.length - s2 ∧
(↑s'18 : Int) = (↑s2 : Int) + (1 : Int) ∧
portsUp p r s'18 = y16 ∧
keepP p (keepP r (True)))) ∧
(y10 = false →
(∃ (s013 : Nat),
s013 ≤ y8.length ∧
(↑s013 : Int) = (0 : Int) ∧
(↑s2 : Int) = (↑s2 : Int) ∧
y9 ++ portsOn p (List.take s013 y8) = portsUp p r s2 ∧
y8 = [] ∧
keepP p (keepP r (True))) ∧
∀ (s13 : Nat),
lett (decide ((↑s13 : Int) < (↑y8.length : Int))) fun (y14 : Bool) =>
lett (y8.getD (↑s13 : Int).toNat ((0 : Int), (0 : Int))) fun (y15 : Int × Int) =>
lett (y9 ++ portsOn p (List.take s13 y8)) fun (y16 : List PortD) =>
lett ((List.replicate (1 : Nat) ((0 : Int), (0 : Int))).set (0 : Nat) y15) fun (y17 : List (Int × Int)) =>
s13 ≤ y8.length →
(y14 = true →
InB (↑s13 : Int) y8.length ∧
True ∧
((fNext p y15).snd = true →
InB (↑s13 : Int) y8.length ∧
roomFor (y16.length + y17.length) (16 : Nat) ∧
InR IntKind.i64 ((↑s13 : Int) + (1 : Int)) ∧
∃ (s'18 : Nat),
s'18 ≤ y8.length ∧
y8.length - s'18 < y8.length - s13 ∧
(↑s'18 : Int) = (↑s13 : Int) + (1 : Int) ∧
(↑s2 : Int) = (↑s2 : Int) ∧
y9 ++ portsOn p (List.take s'18 y8) = y16 ++ y17 ∧
y8 = y8 ∧
keepP p (keepP r (True))) ∧
((fNext p y15).snd = false →
InR IntKind.i64 ((↑s13 : Int) + (1 : Int)) ∧
∃ (s'18 : Nat),
s'18 ≤ y8.length ∧
y8.length - s'18 < y8.length - s13 ∧
(↑s'18 : Int) = (↑s13 : Int) + (1 : Int) ∧
(↑s2 : Int) = (↑s2 : Int) ∧
y9 ++ portsOn p (List.take s'18 y8) = y16 ∧
y8 = y8 ∧
keepP p (keepP r (True)))) ∧
(y14 = false →
InR IntKind.i64 ((↑s2 : Int) + (1 : Int)) ∧
∃ (s'18 : Nat),
s'18 ≤ r.snd.snd.snd.fst.length ∧
r.snd.snd.snd.fst.length - s'18 < r.snd.snd.snd.fst.length - s2 ∧
(↑s'18 : Int) = (↑s2 : Int) + (1 : Int) ∧
portsUp p r s'18 = y16 ∧
keepP p (keepP r (True)))))) ∧
(y3 = false → portsUp p r s2 = fPorts p r ∧ True)) := by kernel_rfl

theorem ports_inner {p : PlanD} {r : RoadD} {s j : Nat} {y8 y9 y16 : List PortD} {y14 : Bool} {y15 : PortD} {y17 : List PortD} (hl : r.2.2.2.1.length ≤ 1000) (hs : s < r.2.2.2.1.length)
    (e8 : y8 = portsAt p (r.2.2.2.1.getD s zSt)) (e9 : y9 = portsUp p r s) (hj : j ≤ y8.length)
    (e14 : y14 = decide ((j : Int) < (y8.length : Int))) (e15 : y15 = y8.getD j (0, 0)) (e16 : y16 = y9 ++ portsOn p (y8.take j)) (e17 : y17 = [y15]) :
    (y14 = true → InB (j : Int) y8.length ∧
      ((fNext p y15).2 = true → InB (j : Int) y8.length ∧ roomFor (y16.length + y17.length) 16 ∧ InR IntKind.i64 ((j : Int) + 1) ∧
        ∃ s', s' ≤ y8.length ∧ y8.length - s' < y8.length - j ∧ (s' : Int) = (j : Int) + 1 ∧ y9 ++ portsOn p (y8.take s') = y16 ++ y17) ∧
      ((fNext p y15).2 = false → InR IntKind.i64 ((j : Int) + 1) ∧
        ∃ s', s' ≤ y8.length ∧ y8.length - s' < y8.length - j ∧ (s' : Int) = (j : Int) + 1 ∧ y9 ++ portsOn p (y8.take s') = y16)) ∧
    (y14 = false → InR IntKind.i64 ((s : Int) + 1) ∧ ∃ s', s' ≤ r.2.2.2.1.length ∧ r.2.2.2.1.length - s' < r.2.2.2.1.length - s ∧ (s' : Int) = (s : Int) + 1 ∧ portsUp p r s' = y16) := by
  have hl8 : y8.length ≤ 2 := by rw [e8]; exact ports_at_len _ _
  have hl9 : y9.length ≤ 2 * s := by rw [e9]; exact ports_up_len p r s (by omega)
  have hl16 : y16.length ≤ 4000 := by
    have := ports_on_len p (y8.take j)
    rw [List.length_take] at this
    rw [e16, List.length_append]
    omega
  refine ⟨fun h => ?_, fun h => ?_⟩
  · have h := lt_of_y e14 h
    have hsucc := ports_on_succ (p := p) h
    rw [← e15] at hsucc
    refine ⟨⟨by omega, by omega⟩, fun hn => ⟨⟨by omega, by omega⟩, roomB (by rw [e17]; simp; omega) (by omega), inR64 (by omega) (by omega), j + 1, by omega, by omega, by omega, ?_⟩, fun hn => ⟨inR64 (by omega) (by omega), j + 1, by omega, by omega, by omega, ?_⟩⟩
    · rw [hsucc, hn, e16, e17, List.append_assoc]
      rfl
    · rw [hsucc, hn, e16, cond_false, List.append_nil]
  · refine ⟨inR64 (by omega) (by omega), s + 1, by omega, by omega, by omega, ?_⟩
    rw [ports_up_succ hs, ← e8, ← e9, e16, take_all e14 h]

theorem b77 (p : PlanD) (r : RoadD) (hp : stepsOk r) : bodyVC (ctxOf tab [(125, c125), (107, c107)]) Tryz.f77 c77 (a77 (p, r, ())) (p, r, ()) := by
  obtain ⟨hl, hst⟩ := hp
  rw [v77]
  simp only [keepP_eq, true_and, and_true, Int.toNat_natCast]
  refine ⟨⟨0, by omega, rfl, by unfold portsUp; rfl⟩, fun s => lett.mk fun y3 e3 => lett.mk fun y4 e4 => lett.mk fun y5 e5 => lett.mk fun y6 e6 => lett.mk fun y7 e7 => lett.mk fun y8 e8 => lett.mk fun y9 e9 => lett.mk fun y10 e10 => lett.mk fun y11 e11 => lett.mk fun y12 e12 => ?_⟩
  intro hs
  have e4 : y4 = r.2.2.2.1.getD s zSt := e4
  have hP : y8 = bif y5 then [(y4.1, 3 - max y4.2.1 y4.2.2)] else bif y10 then [(y4.1, crossOf y4), (y4.1, crossOf y4 + 1)] else [] := by
    rw [e8, ← e4, e5, e10]
    unfold portsAt
    rfl
  refine ⟨fun h => ?_, fun h => ?_⟩
  · have h := lt_of_y e3 h
    obtain ⟨⟨q1, q2⟩, q3, q4⟩ := hst y4 (by rw [e4]; exact mem_getD zSt h)
    have e7 : y7 = [(y4.1, y6)] := e7
    have e12 : y12 = [(y4.1, y11), (y4.1, y11 + 1)] := e12
    have e11 : y11 = crossOf y4 := e11
    have hc : crossOf y4 = 0 ∨ crossOf y4 = 2 := by
      unfold crossOf
      cases decide (2 ≤ y4.2.1)
      · exact .inr rfl
      · exact .inl rfl
    have h0 : y9 ++ portsOn p (List.take 0 y8) = portsUp p r s := by
      rw [e9]
      unfold portsOn
      simp
    refine ⟨⟨by omega, by omega⟩, fun h5 => ⟨inR64 (by omega) (by omega), roomB (by rw [e7]; simp) (by omega), ⟨0, by omega, rfl, h0, by rw [hP, h5, e7, e6]; rfl⟩, fun j => lett.mk fun y14 e14 => lett.mk fun y15 e15 => lett.mk fun y16 e16 => lett.mk fun y17 e17 => fun hj => ports_inner hl h e8 e9 hj e14 e15 e16 e17⟩, fun h5 => ⟨fun h10 => ⟨inR64 (by omega) (by omega), roomB (by rw [e12]; simp) (by omega), ⟨0, by omega, rfl, h0, by rw [hP, h5, h10, e12, e11]; rfl⟩, fun j => lett.mk fun y14 e14 => lett.mk fun y15 e15 => lett.mk fun y16 e16 => lett.mk fun y17 e17 => fun hj => ports_inner hl h e8 e9 hj e14 e15 e16 e17⟩, fun h10 => ⟨⟨0, by omega, rfl, h0, by rw [hP, h5, h10]; rfl⟩, fun j => lett.mk fun y14 e14 => lett.mk fun y15 e15 => lett.mk fun y16 e16 => lett.mk fun y17 e17 => fun hj => ports_inner hl h e8 e9 hj e14 e15 e16 e17⟩⟩⟩
  · have hle := le_of_y e3 h
    have : s = r.2.2.2.1.length := by omega
    subst this
    unfold fPorts
    rfl

theorem ok77 : DOk Tryz.prog 77 c77 :=
  DOk.of' (l := [(125, c125), (107, c107)]) (A := a77) tabOk ⟨ok125, ok107, trivial⟩ Tryz.func77 (by kernel_rfl) (by kernel_rfl) fun x _ hp => b77 x.1 x.2.1 hp

end YtpnnfimacblhgaaGreat
end Go.Proofs
end

section
set_option maxRecDepth 100000
set_option linter.unusedVariables false
set_option linter.unusedSimpArgs false
set_option maxHeartbeats 2000000
namespace Go.Proofs
open Go Go.Vc
namespace YtpnnfimacblhgaaGreat

/-! ### What a search keeps -/

theorem eqS {a b : SearchD} (h : a = b) : a.1 = b.1 ∧ a.2.1 = b.2.1 ∧ a.2.2.1 = b.2.2.1 ∧ a.2.2.2.1 = b.2.2.2.1 ∧ a.2.2.2.2.1 = b.2.2.2.2.1 ∧ a.2.2.2.2.2.1 = b.2.2.2.2.2.1 ∧ a.2.2.2.2.2.2.1 = b.2.2.2.2.2.2.1 ∧
    a.2.2.2.2.2.2.2.1 = b.2.2.2.2.2.2.2.1 ∧ a.2.2.2.2.2.2.2.2.1 = b.2.2.2.2.2.2.2.2.1 ∧ a.2.2.2.2.2.2.2.2.2.1 = b.2.2.2.2.2.2.2.2.2.1 ∧ a.2.2.2.2.2.2.2.2.2.2 = b.2.2.2.2.2.2.2.2.2.2 ∧ True := by
  subst h
  exact ⟨rfl, rfl, rfl, rfl, rfl, rfl, rfl, rfl, rfl, rfl, rfl, trivial⟩

theorem nodup_len {α : Type} [BEq α] [LawfulBEq α] : ∀ {l m : List α}, l.Nodup → (∀ x ∈ l, x ∈ m) → l.length ≤ m.length
  | [], _, _, _ => Nat.zero_le _
  | x :: l, m, hn, hs => by
    obtain ⟨h1, h2⟩ := List.nodup_cons.1 hn
    have hx := hs x (by simp)
    have ih := nodup_len (m := m.erase x) h2 fun y hy => by
      have hy' := hs y (List.mem_cons_of_mem _ hy)
      have hne : y ≠ x := fun e => h1 (e ▸ hy)
      exact (List.mem_erase_of_ne hne).2 hy'
    have hl := List.length_erase_of_mem hx
    have hpos : 0 < m.length := List.length_pos_of_mem hx
    rw [List.length_cons]
    omega

structure Keeps (s s' : SearchD) : Prop where
  inv : SInv s'
  plan : s'.1 = s.1
  met : (gMet s).length ≤ (gMet s').length

theorem Keeps.refl {s : SearchD} (h : SInv s) : Keeps s s := ⟨h, rfl, Nat.le_refl _⟩
theorem Keeps.trans {a b c : SearchD} (h : Keeps a b) (k : Keeps b c) : Keeps a c := ⟨k.inv, k.plan.trans h.plan, Nat.le_trans h.met k.met⟩
theorem Keeps.onOk {s s' : SearchD} {n : Nat} (h : Keeps s s') (k : onOk n s) : onOk n s' := ⟨h.inv, by rw [h.plan]; have := k.2; have := h.met; omega⟩

theorem bare_keeps {s : SearchD} (h : SInv s) : Keeps s (sBare s) := ⟨⟨h.joined, h.joins, h.nodup, h.sub, h.guards, h.holds, h.zone, h.steps⟩, rfl, Nat.le_refl _⟩

theorem zone_keeps {s : SearchD} (h : SInv s) (e : Int) : Keeps s (fZone s e).2 ∧ gMet (fZone s e).2 = gMet s := by
  unfold fZone
  cases fMem (gZone s) e with
  | true => exact ⟨.refl h, rfl⟩
  | false =>
    cases hd : decide (12 ≤ (gZone s).length) with
    | true => exact ⟨bare_keeps h, rfl⟩
    | false =>
      have hd := of_decide_eq_false hd
      refine ⟨⟨⟨h.joined, h.joins, h.nodup, h.sub, h.guards, h.holds, ?_, h.steps⟩, rfl, Nat.le_refl _⟩, rfl⟩
      show (gZone s ++ [e]).length ≤ 12
      rw [List.length_append]
      show (gZone s).length + 1 ≤ 12
      omega

theorem on_keeps {rec : PortD → SearchD → SearchD} {n : Nat} (hrec : ∀ y s, comeOk n y s → Keeps s (rec y s)) (e stop : Int) {s : SearchD} (h : onOk n s) : Keeps s (sOn rec e stop s) := by
  unfold sOn
  cases hn : (fNext s.1 (e, stop)).2 with
  | true => exact hrec _ _ ⟨h, next_mem hn⟩
  | false => exact .refl h.1

theorem points_keeps {rec : PortD → SearchD → SearchD} {n : Nat} (hrec : ∀ y s, comeOk n y s → Keeps s (rec y s)) {y : PortD} {s : SearchD} (h : pointsOk n y s) : Keeps s (sPoints rec y s) := by
  obtain ⟨⟨h1, h2⟩, h3⟩ := h
  obtain ⟨hz, _⟩ := zone_keeps h1.1 y.1
  unfold sPoints
  cases y.2 == 0 with
  | true =>
    cases (fZone s y.1).1 with
    | true =>
      have k1 := on_keeps hrec y.1 1 (hz.onOk h1)
      have k2 := on_keeps hrec y.1 2 (k1.onOk (hz.onOk h1))
      exact hz.trans (k1.trans k2)
    | false => exact hz
  | false =>
    cases !fHasNeed (gNeeds s) (y.1, y.2) && !fHasNeed (gGuards s) (y.1, y.2) with
    | true =>
      cases fHasNeed (gGuards s) (y.1, 3 - y.2) with
      | true => exact .refl h1.1
      | false =>
        refine ⟨⟨h1.1.joined, h1.1.joins, h1.1.nodup, h1.1.sub, ?_, h1.1.holds, h1.1.zone, h1.1.steps⟩, rfl, Nat.le_refl _⟩
        show (gGuards s ++ [(y.1, 3 - y.2)]).length ≤ (gMet s).length
        rw [List.length_append]
        show (gGuards s).length + 1 ≤ _
        omega
    | false =>
      cases (fZone s y.1).1 with
      | true => exact hz.trans (on_keeps hrec y.1 0 (hz.onOk h1))
      | false => exact hz

theorem new_keeps {rec : PortD → SearchD → SearchD} {n : Nat} (hrec : ∀ y s, comeOk n y s → Keeps s (rec y s)) {y : PortD} {s : SearchD} (h : pointsOk n y s) (hh : (gHolds s).length < (gMet s).length) : Keeps s (sNew rec y s) := by
  have h1 := h.1.1
  obtain ⟨hz, _⟩ := zone_keeps h1.1 y.1
  unfold sNew
  cases decide (0 ≤ fReads s.1 y) && !s.1.2.2.2.2.2.2.2.2 with
  | true =>
    cases fMem (gHolds s) (fReads s.1 y) with
    | true => exact .refl h1.1
    | false =>
      refine ⟨⟨h1.1.joined, h1.1.joins, h1.1.nodup, h1.1.sub, h1.1.guards, ?_, h1.1.zone, h1.1.steps⟩, rfl, Nat.le_refl _⟩
      show (gHolds s ++ [fReads s.1 y]).length ≤ (gMet s).length
      rw [List.length_append]
      show (gHolds s).length + 1 ≤ _
      omega
  | false =>
    cases fKind s.1 y.1 == 4 with
    | true => exact bare_keeps h1.1
    | false =>
      cases fKind s.1 y.1 == 2 with
      | true => exact points_keeps hrec h
      | false =>
        cases (fZone s y.1).1 with
        | true => exact hz.trans (on_keeps hrec _ _ (hz.onOk h1))
        | false => exact hz

theorem met_more {s : SearchD} {n : Nat} {y : PortD} (h : comeOk (n + 1) y s) (hy : fHasPort (gMet s) y = false) :
    pointsOk n y (sMet s (gMet s ++ [y])) ∧ (gHolds (sMet s (gMet s ++ [y]))).length < (gMet (sMet s (gMet s ++ [y]))).length ∧ Keeps s (sMet s (gMet s ++ [y])) := by
  obtain ⟨⟨h1, h2⟩, h3⟩ := h
  have hl : (gMet (sMet s (gMet s ++ [y]))).length = (gMet s).length + 1 := by
    show (gMet s ++ [y]).length = _
    rw [List.length_append]
    rfl
  have hnot : y ∉ gMet s := fun hm => by
    unfold fHasPort at hy
    have := List.any_eq_false.1 hy y hm
    simp at this
  have inv : SInv (sMet s (gMet s ++ [y])) := by
    refine ⟨h1.joined, h1.joins, ?_, ?_, ?_, ?_, h1.zone, h1.steps⟩
    · show (gMet s ++ [y]).Nodup
      rw [List.nodup_append]
      refine ⟨h1.nodup, by simp, fun a ha b hb => ?_⟩
      have : b = y := by simpa using hb
      subst this
      exact fun e => hnot (e ▸ ha)
    · intro z hz
      have hz : z ∈ gMet s ++ [y] := hz
      rcases List.mem_append.1 hz with hz | hz
      · exact h1.sub z hz
      · have : z = y := by simpa using hz
        rw [this]; exact h3
    · rw [hl]; have := h1.guards; show (gGuards s).length ≤ _; omega
    · rw [hl]; have := h1.holds; show (gHolds s).length ≤ _; omega
  refine ⟨⟨⟨⟨inv, ?_⟩, h3⟩, ?_⟩, ?_, ⟨inv, rfl, by rw [hl]; omega⟩⟩
  · rw [hl]; show (joinEnds s.1).length < _; omega
  · rw [hl]; have := h1.guards; show (gGuards s).length < _; omega
  · rw [hl]; have := h1.holds; show (gHolds s).length < _; omega

theorem come_zero {y : PortD} {s : SearchD} : ¬ comeOk 0 y s := fun h => by
  have := nodup_len h.1.1.nodup h.1.1.sub
  have := h.1.2
  omega

theorem come_keeps : ∀ (n : Nat) (y : PortD) (s : SearchD), comeOk n y s → Keeps s (sCome n y s)
  | 0, y, s, h => absurd h come_zero
  | n + 1, y, s, h => by
    show Keeps s (sStep (sCome n) y s)
    unfold sStep
    cases hb : fOwn (sRoad s) y.1 || fHasPort (gMet s) y with
    | true => exact .refl h.1.1
    | false =>
      rw [Bool.or_eq_false_iff] at hb
      obtain ⟨k1, k2, k3⟩ := met_more h hb.2
      exact k3.trans (new_keeps (come_keeps n) k1 k2)

theorem v152 (s : SearchD) (e : Int) : obodyVC (ctxOf tab [(16, c16)]) Tryz.f152 c152 noAnn (s, e, ()) = (
lett (fMem s.snd.snd.snd.snd.snd.snd.snd.fst e) fun (y2 : Bool) =>
lett (fZone s e).snd.snd.snd fun (y3 : Int × Int × List (Int × Int × Int) × List (Int × Int) × List (Int × Int) × List Int × List Int × Bool × List (Int × Int)) =>
lett (decide ((↑s.snd.snd.snd.snd.snd.snd.snd.fst.length : Int) ≥ (12 : Int))) fun (y4 : Bool) =>
lett ((List.replicate (1 : Nat) (0 : Int)).set (0 : Nat) e) fun (y5 : List Int) =>
True ∧
(y2 = true →
true = (fZone s e).fst ∧
s.fst = (fZone s e).snd.fst ∧
s.snd.fst = (fZone s e).snd.snd.fst ∧
s.snd.snd.fst = y3.fst ∧
s.snd.snd.snd.fst = y3.snd.fst ∧
s.snd.snd.snd.snd.fst = y3.snd.snd.fst ∧
s.snd.snd.snd.snd.snd.fst = y3.snd.snd.snd.fst ∧
s.snd.snd.snd.snd.snd.snd.fst = y3.snd.snd.snd.snd.fst ∧
s.snd.snd.snd.snd.snd.snd.snd.fst = y3.snd.snd.snd.snd.snd.fst ∧
s.snd.snd.snd.snd.snd.snd.snd.snd.fst = y3.snd.snd.snd.snd.snd.snd.fst ∧
s.snd.snd.snd.snd.snd.snd.snd.snd.snd.fst = y3.snd.snd.snd.snd.snd.snd.snd.fst ∧
s.snd.snd.snd.snd.snd.snd.snd.snd.snd.snd = y3.snd.snd.snd.snd.snd.snd.snd.snd ∧ True) ∧
(y2 = false →
(y4 = true →
false = (fZone s e).fst ∧
s.fst = (fZone s e).snd.fst ∧
s.snd.fst = (fZone s e).snd.snd.fst ∧
s.snd.snd.fst = y3.fst ∧
s.snd.snd.snd.fst = y3.snd.fst ∧
s.snd.snd.snd.snd.fst = y3.snd.snd.fst ∧
s.snd.snd.snd.snd.snd.fst = y3.snd.snd.snd.fst ∧
s.snd.snd.snd.snd.snd.snd.fst = y3.snd.snd.snd.snd.fst ∧
s.snd.snd.snd.snd.snd.snd.snd.fst = y3.snd.snd.snd.snd.snd.fst ∧
s.snd.snd.snd.snd.snd.snd.snd.snd.fst = y3.snd.snd.snd.snd.snd.snd.fst ∧
true = y3.snd.snd.snd.snd.snd.snd.snd.fst ∧ s.snd.snd.snd.snd.snd.snd.snd.snd.snd.snd = y3.snd.snd.snd.snd.snd.snd.snd.snd ∧ True) ∧
(y4 = false →
roomFor (s.snd.snd.snd.snd.snd.snd.snd.fst.length + y5.length) (8 : Nat) ∧
true = (fZone s e).fst ∧
s.fst = (fZone s e).snd.fst ∧
s.snd.fst = (fZone s e).snd.snd.fst ∧
s.snd.snd.fst = y3.fst ∧
s.snd.snd.snd.fst = y3.snd.fst ∧
s.snd.snd.snd.snd.fst = y3.snd.snd.fst ∧
s.snd.snd.snd.snd.snd.fst = y3.snd.snd.snd.fst ∧
s.snd.snd.snd.snd.snd.snd.fst = y3.snd.snd.snd.snd.fst ∧
s.snd.snd.snd.snd.snd.snd.snd.fst ++ y5 = y3.snd.snd.snd.snd.snd.fst ∧
s.snd.snd.snd.snd.snd.snd.snd.snd.fst = y3.snd.snd.snd.snd.snd.snd.fst ∧
s.snd.snd.snd.snd.snd.snd.snd.snd.snd.fst = y3.snd.snd.snd.snd.snd.snd.snd.fst ∧
s.snd.snd.snd.snd.snd.snd.snd.snd.snd.snd = y3.snd.snd.snd.snd.snd.snd.snd.snd ∧ True))) := by kernel_rfl

theorem b152 (s : SearchD) (e : Int) (hz : (gZone s).length ≤ 1000) : obodyVC (ctxOf tab [(16, c16)]) Tryz.f152 c152 noAnn (s, e, ()) := by
  have hz : s.2.2.2.2.2.2.2.1.length ≤ 1000 := hz
  rw [v152]
  refine lett.mk fun y2 e2 => lett.mk fun y3 e3 => lett.mk fun y4 e4 => lett.mk fun y5 e5 => ?_
  have e5 : y5 = [e] := e5
  rw [geN _ 12 12 rfl] at e4
  subst e3
  have hZ : fZone s e = bif y2 then (true, s) else bif y4 then (false, sBare s) else (true, sZone s (gZone s ++ [e])) := by
    rw [e2, e4]
    unfold fZone
    rfl
  refine ⟨trivial, fun h => ⟨by rw [hZ, h]; rfl, eqS (by rw [hZ, h]; rfl)⟩, fun h => ⟨fun h4 => ⟨by rw [hZ, h, h4]; rfl, eqS (a := sBare s) (by rw [hZ, h, h4]; rfl)⟩, fun h4 => ⟨roomB (by rw [e5]; simp; omega) (by omega), by rw [hZ, h, h4]; rfl, ?_⟩⟩⟩
  rw [e5]
  exact eqS (a := sZone s (gZone s ++ [e])) (by rw [hZ, h, h4]; rfl)

theorem ok152 : OOk Tryz.prog 152 c152 :=
  OOk.of' (l := [(16, c16)]) (A := fun _ => noAnn) tabOk ⟨ok16, trivial⟩ Tryz.func152 (by kernel_rfl) (by kernel_rfl) fun x _ hp => b152 x.1 x.2.1 hp

theorem v78 (n : Nat) (s : SearchD) (e : Int) (stop : Int) : obodyVC (ctxOf tab [(107, c107), (126, c126 n)]) Tryz.f78 (c78 n) noAnn (s, e, stop, ()) = (
lett (fNext s.fst (e, stop)) fun (y3 : PortD × Bool) =>
lett (sOn (sCome n) e stop s) fun (y4 : SearchD) =>
lett (sCome n y3.fst s).snd fun (y5 : Int × Int × Int × List (Int × Int × Int) × List (Int × Int) × List (Int × Int) × List Int × List Int × Bool × List (Int × Int)) =>
True ∧
(y3.snd = true →
comeOk n y3.fst s ∧
(sCome n y3.fst s).fst = y4.fst ∧
y5.fst = y4.snd.fst ∧
y5.snd.fst = y4.snd.snd.fst ∧
y5.snd.snd.fst = y4.snd.snd.snd.fst ∧
y5.snd.snd.snd.fst = y4.snd.snd.snd.snd.fst ∧
y5.snd.snd.snd.snd.fst = y4.snd.snd.snd.snd.snd.fst ∧
y5.snd.snd.snd.snd.snd.fst = y4.snd.snd.snd.snd.snd.snd.fst ∧
y5.snd.snd.snd.snd.snd.snd.fst = y4.snd.snd.snd.snd.snd.snd.snd.fst ∧
y5.snd.snd.snd.snd.snd.snd.snd.fst = y4.snd.snd.snd.snd.snd.snd.snd.snd.fst ∧
y5.snd.snd.snd.snd.snd.snd.snd.snd.fst = y4.snd.snd.snd.snd.snd.snd.snd.snd.snd.fst ∧
y5.snd.snd.snd.snd.snd.snd.snd.snd.snd = y4.snd.snd.snd.snd.snd.snd.snd.snd.snd.snd ∧ True) ∧
(y3.snd = false →
s.fst = y4.fst ∧
s.snd.fst = y4.snd.fst ∧
s.snd.snd.fst = y4.snd.snd.fst ∧
s.snd.snd.snd.fst = y4.snd.snd.snd.fst ∧
s.snd.snd.snd.snd.fst = y4.snd.snd.snd.snd.fst ∧
s.snd.snd.snd.snd.snd.fst = y4.snd.snd.snd.snd.snd.fst ∧
s.snd.snd.snd.snd.snd.snd.fst = y4.snd.snd.snd.snd.snd.snd.fst ∧
s.snd.snd.snd.snd.snd.snd.snd.fst = y4.snd.snd.snd.snd.snd.snd.snd.fst ∧
s.snd.snd.snd.snd.snd.snd.snd.snd.fst = y4.snd.snd.snd.snd.snd.snd.snd.snd.fst ∧
s.snd.snd.snd.snd.snd.snd.snd.snd.snd.fst = y4.snd.snd.snd.snd.snd.snd.snd.snd.snd.fst ∧
s.snd.snd.snd.snd.snd.snd.snd.snd.snd.snd = y4.snd.snd.snd.snd.snd.snd.snd.snd.snd.snd ∧ True)) := by kernel_rfl

theorem b78 (n : Nat) (s : SearchD) (e stop : Int) (hp : onOk n s) : obodyVC (ctxOf tab [(107, c107), (126, c126 n)]) Tryz.f78 (c78 n) noAnn (s, e, stop, ()) := by
  rw [v78]
  refine lett.mk fun y3 e3 => lett.mk fun y4 e4 => lett.mk fun y5 e5 => ?_
  subst e5
  have hS : y4 = bif y3.2 then sCome n y3.1 s else s := by
    rw [e4, e3]
    unfold sOn
    rfl
  refine ⟨trivial, fun h => ⟨⟨hp, by rw [e3] at h ⊢; exact next_mem h⟩, eqS (by rw [hS, h]; rfl)⟩, fun h => eqS (by rw [hS, h]; rfl)⟩

theorem v150 (n : Nat) (s : SearchD) (y : Int × Int) : obodyVC (ctxOf tab [(152, c152), (157, c157), (78, c78 n)]) Tryz.f150 (c150 n) noAnn (s, y, ()) = (
lett (sOn (sCome n) y.fst (1 : Int) (fZone s y.fst).snd) fun (y2 : SearchD) =>
lett (sOn (sCome n) y.fst (2 : Int) y2) fun (y3 : SearchD) =>
lett (sPoints (sCome n) y s).fst
fun (y4 : PlanD) =>
lett (sPoints (sCome n) y s).snd fun (y5 : Int × Int × Int × List (Int × Int × Int) × List (Int × Int) × List (Int × Int) × List Int × List Int × Bool × List (Int × Int)) =>
lett (fZone s y.fst).snd.snd fun (y6 : Int × Int × Int × List (Int × Int × Int) × List (Int × Int) × List (Int × Int) × List Int × List Int × Bool × List (Int × Int)) =>
lett (!fHasNeed s.snd.snd.snd.snd.snd.fst y) fun (y7 : Bool) =>
lett (bif y7 then !fHasNeed s.snd.snd.snd.snd.snd.snd.fst y else false) fun (y8 : Bool) =>
lett (y.fst, (3 : Int) - y.snd) fun (y9 : Int × Int) =>
lett (!fHasNeed s.snd.snd.snd.snd.snd.snd.fst y9) fun (y10 : Bool) =>
lett ((List.replicate (1 : Nat) ((0 : Int), (0 : Int))).set (0 : Nat) y9) fun (y11 : List (Int × Int)) =>
lett (sOn (sCome n) y.fst (0 : Int) (fZone s y.fst).snd) fun (y12 : SearchD) =>
((y.snd == (0 : Int)) = true →
(gZone s).length ≤ (1000 : Nat) ∧
((fZone s y.fst).fst = true →
onOk n (fZone s y.fst).snd ∧
onOk n y2 ∧
y3.fst = y4 ∧
y3.snd.fst = y5.fst ∧
y3.snd.snd.fst = y5.snd.fst ∧
y3.snd.snd.snd.fst = y5.snd.snd.fst ∧
y3.snd.snd.snd.snd.fst = y5.snd.snd.snd.fst ∧
y3.snd.snd.snd.snd.snd.fst = y5.snd.snd.snd.snd.fst ∧
y3.snd.snd.snd.snd.snd.snd.fst = y5.snd.snd.snd.snd.snd.fst ∧
y3.snd.snd.snd.snd.snd.snd.snd.fst = y5.snd.snd.snd.snd.snd.snd.fst ∧
y3.snd.snd.snd.snd.snd.snd.snd.snd.fst = y5.snd.snd.snd.snd.snd.snd.snd.fst ∧
y3.snd.snd.snd.snd.snd.snd.snd.snd.snd.fst = y5.snd.snd.snd.snd.snd.snd.snd.snd.fst ∧
y3.snd.snd.snd.snd.snd.snd.snd.snd.snd.snd = y5.snd.snd.snd.snd.snd.snd.snd.snd.snd ∧ True) ∧
((fZone s y.fst).fst = false →
(fZone s y.fst).snd.fst = y4 ∧
y6.fst = y5.fst ∧
y6.snd.fst = y5.snd.fst ∧
y6.snd.snd.fst = y5.snd.snd.fst ∧
y6.snd.snd.snd.fst = y5.snd.snd.snd.fst ∧
y6.snd.snd.snd.snd.fst = y5.snd.snd.snd.snd.fst ∧
y6.snd.snd.snd.snd.snd.fst = y5.snd.snd.snd.snd.snd.fst ∧
y6.snd.snd.snd.snd.snd.snd.fst = y5.snd.snd.snd.snd.snd.snd.fst ∧
y6.snd.snd.snd.snd.snd.snd.snd.fst = y5.snd.snd.snd.snd.snd.snd.snd.fst ∧
y6.snd.snd.snd.snd.snd.snd.snd.snd.fst = y5.snd.snd.snd.snd.snd.snd.snd.snd.fst ∧
y6.snd.snd.snd.snd.snd.snd.snd.snd.snd = y5.snd.snd.snd.snd.snd.snd.snd.snd.snd ∧ True)) ∧
((y.snd == (0 : Int)) = false →
InR IntKind.i64 ((3 : Int) - y.snd) ∧
True ∧
(y7 = true → True) ∧
(y8 = true →
True ∧
(y10 = true →
roomFor (s.snd.snd.snd.snd.snd.snd.fst.length + y11.length) (16 : Nat) ∧
s.fst = y4 ∧
s.snd.fst = y5.fst ∧
s.snd.snd.fst = y5.snd.fst ∧
s.snd.snd.snd.fst = y5.snd.snd.fst ∧
s.snd.snd.snd.snd.fst = y5.snd.snd.snd.fst ∧
s.snd.snd.snd.snd.snd.fst = y5.snd.snd.snd.snd.fst ∧
s.snd.snd.snd.snd.snd.snd.fst ++ y11 = y5.snd.snd.snd.snd.snd.fst ∧
s.snd.snd.snd.snd.snd.snd.snd.fst = y5.snd.snd.snd.snd.snd.snd.fst ∧
s.snd.snd.snd.snd.snd.snd.snd.snd.fst = y5.snd.snd.snd.snd.snd.snd.snd.fst ∧
s.snd.snd.snd.snd.snd.snd.snd.snd.snd.fst = y5.snd.snd.snd.snd.snd.snd.snd.snd.fst ∧
s.snd.snd.snd.snd.snd.snd.snd.snd.snd.snd = y5.snd.snd.snd.snd.snd.snd.snd.snd.snd ∧ True) ∧
(y10 = false →
s.fst = y4 ∧
s.snd.fst = y5.fst ∧
s.snd.snd.fst = y5.snd.fst ∧
s.snd.snd.snd.fst = y5.snd.snd.fst ∧
s.snd.snd.snd.snd.fst = y5.snd.snd.snd.fst ∧
s.snd.snd.snd.snd.snd.fst = y5.snd.snd.snd.snd.fst ∧
s.snd.snd.snd.snd.snd.snd.fst = y5.snd.snd.snd.snd.snd.fst ∧
s.snd.snd.snd.snd.snd.snd.snd.fst = y5.snd.snd.snd.snd.snd.snd.fst ∧
s.snd.snd.snd.snd.snd.snd.snd.snd.fst = y5.snd.snd.snd.snd.snd.snd.snd.fst ∧
s.snd.snd.snd.snd.snd.snd.snd.snd.snd.fst = y5.snd.snd.snd.snd.snd.snd.snd.snd.fst ∧
s.snd.snd.snd.snd.snd.snd.snd.snd.snd.snd = y5.snd.snd.snd.snd.snd.snd.snd.snd.snd ∧ True)) ∧
(y8 = false →
(gZone s).length ≤ (1000 : Nat) ∧
((fZone s y.fst).fst = true →
onOk n (fZone s y.fst).snd ∧
y12.fst = y4 ∧
y12.snd.fst = y5.fst ∧
y12.snd.snd.fst = y5.snd.fst ∧
y12.snd.snd.snd.fst = y5.snd.snd.fst ∧
y12.snd.snd.snd.snd.fst = y5.snd.snd.snd.fst ∧
y12.snd.snd.snd.snd.snd.fst = y5.snd.snd.snd.snd.fst ∧
y12.snd.snd.snd.snd.snd.snd.fst = y5.snd.snd.snd.snd.snd.fst ∧
y12.snd.snd.snd.snd.snd.snd.snd.fst = y5.snd.snd.snd.snd.snd.snd.fst ∧
y12.snd.snd.snd.snd.snd.snd.snd.snd.fst = y5.snd.snd.snd.snd.snd.snd.snd.fst ∧
y12.snd.snd.snd.snd.snd.snd.snd.snd.snd.fst = y5.snd.snd.snd.snd.snd.snd.snd.snd.fst ∧
y12.snd.snd.snd.snd.snd.snd.snd.snd.snd.snd = y5.snd.snd.snd.snd.snd.snd.snd.snd.snd ∧ True) ∧
((fZone s y.fst).fst = false →
(fZone s y.fst).snd.fst = y4 ∧
y6.fst = y5.fst ∧
y6.snd.fst = y5.snd.fst ∧
y6.snd.snd.fst = y5.snd.snd.fst ∧
y6.snd.snd.snd.fst = y5.snd.snd.snd.fst ∧
y6.snd.snd.snd.snd.fst = y5.snd.snd.snd.snd.fst ∧
y6.snd.snd.snd.snd.snd.fst = y5.snd.snd.snd.snd.snd.fst ∧
y6.snd.snd.snd.snd.snd.snd.fst = y5.snd.snd.snd.snd.snd.snd.fst ∧
y6.snd.snd.snd.snd.snd.snd.snd.fst = y5.snd.snd.snd.snd.snd.snd.snd.fst ∧
y6.snd.snd.snd.snd.snd.snd.snd.snd.fst = y5.snd.snd.snd.snd.snd.snd.snd.snd.fst ∧
y6.snd.snd.snd.snd.snd.snd.snd.snd.snd = y5.snd.snd.snd.snd.snd.snd.snd.snd.snd ∧ True)))) := by kernel_rfl

theorem port_end {s : SearchD} (h : SInv s) {y : PortD} (hy : y ∈ joinEnds s.1) : 0 ≤ y.2 ∧ y.2 ≤ 3 := by
  obtain ⟨i, hi, he⟩ := List.mem_iff_getElem.1 hy
  have hj := h.joined
  unfold fJoined at hj
  rw [Bool.and_eq_true] at hj
  have := allTo_iff.1 hj.1 i hi
  unfold endOk at this
  rw [Bool.and_eq_true, getD_at zP hi, he] at this
  exact has_end this.1

theorem smet_len (s : SearchD) (h : SInv s) : (gMet s).length ≤ 2000 := by
  have := nodup_len h.nodup h.sub
  have hlen : ∀ l : List JoinD, (l.flatMap fun j => [j.1, j.2]).length = 2 * l.length := fun l => by
    induction l with
    | nil => rfl
    | cons x l ih => rw [List.flatMap_cons, List.length_append, ih, List.length_cons]; simp; omega
  have he : (joinEnds s.1).length = 2 * s.1.2.1.length := hlen s.1.2.1
  have := h.joins
  omega

theorem b150 (n : Nat) (s : SearchD) (y : PortD) (hp : pointsOk n y s) : obodyVC (ctxOf tab [(152, c152), (157, c157), (78, c78 n)]) Tryz.f150 (c150 n) noAnn (s, y, ()) := by
  have h1 := hp.1.1
  have hm := smet_len s h1.1
  have hend := port_end h1.1 hp.1.2
  obtain ⟨hz, _⟩ := zone_keeps h1.1 y.1
  have hzl : (gZone s).length ≤ 1000 := by have := h1.1.zone; omega
  have hgl : s.2.2.2.2.2.2.1.length ≤ 2000 := by
    have := h1.1.guards
    show (gGuards s).length ≤ 2000
    omega
  rw [v150]
  refine lett.mk fun y2 e2 => lett.mk fun y3 e3 => lett.mk fun y4 e4 => lett.mk fun y5 e5 => lett.mk fun y6 e6 => lett.mk fun y7 e7 => lett.mk fun y8 e8 => lett.mk fun y9 e9 => lett.mk fun y10 e10 => lett.mk fun y11 e11 => lett.mk fun y12 e12 => ?_
  subst e4 e5 e6
  have e11 : y11 = [y9] := e11
  have hS : sPoints (sCome n) y s = bif y.2 == 0 then (bif (fZone s y.1).1 then y3 else (fZone s y.1).2) else
      bif y8 then (bif !y10 then s else sGuard s (gGuards s ++ [y9])) else (bif (fZone s y.1).1 then y12 else (fZone s y.1).2) := by
    rw [e3, e2, e12, e8, e7, e10, e9, Bool.not_not]
    have key : ∀ a b : Bool, (bif a then b else false) = (a && b) := by decide
    rw [key]
    unfold sPoints
    rfl
  refine ⟨fun h => ⟨hzl, fun hf => ⟨hz.onOk h1, ?_, eqS (by rw [hS, h, hf]; rfl)⟩, fun hf => eqS (a := (fZone s y.1).2) (by rw [hS, h, hf]; rfl)⟩, fun h => ⟨inR64 (by omega) (by omega), trivial, fun _ => trivial, fun h8 => ⟨trivial, fun h10 => ⟨roomB (by rw [e11]; simp; omega) (by omega), ?_⟩, fun h10 => eqS (by rw [hS, h, h8, h10]; rfl)⟩, fun h8 => ⟨hzl, fun hf => ⟨hz.onOk h1, eqS (by rw [hS, h, h8, hf]; rfl)⟩, fun hf => eqS (a := (fZone s y.1).2) (by rw [hS, h, h8, hf]; rfl)⟩⟩⟩
  · rw [e2]
    exact (on_keeps (come_keeps n) y.1 1 (hz.onOk h1)).onOk (hz.onOk h1)
  · rw [e11]
    exact eqS (a := sGuard s (gGuards s ++ [y9])) (by rw [hS, h, h8, h10]; rfl)

theorem v126 (n : Nat) (s : SearchD) (y : Int × Int) : obodyVC (ctxOf tab [(148, c148), (149, c149), (120, c120), (16, c16), (125, c125), (150, c150 n), (151, c151), (152, c152), (78, c78 n)]) Tryz.f126 (c126 (n + 1)) noAnn (s, y, ()) = (
lett
(fOwn
(s.snd.fst, s.snd.snd.fst, s.snd.snd.snd.fst, s.snd.snd.snd.snd.fst, s.snd.snd.snd.snd.snd.fst, s.snd.snd.snd.snd.snd.snd.fst, s.snd.snd.snd.snd.snd.snd.snd.fst,
s.snd.snd.snd.snd.snd.snd.snd.snd.fst, s.snd.snd.snd.snd.snd.snd.snd.snd.snd.fst)
y.fst)
fun (y2 : Bool) =>
lett (bif y2 then true else fHasPort s.snd.snd.snd.snd.snd.snd.snd.snd.snd.snd y) fun (y3 : Bool) =>
lett (sCome (n + (1 : Nat)) y s) fun (y4 : SearchD) =>
lett ((List.replicate (1 : Nat) ((0 : Int), (0 : Int))).set (0 : Nat) y) fun (y5 : List (Int × Int)) =>
lett (bif decide (fReads s.fst y ≥ (0 : Int)) then !s.fst.snd.snd.snd.snd.snd.snd.snd.snd else false) fun (y6 : Bool) =>
lett (!fMem s.snd.snd.snd.snd.snd.snd.snd.snd.fst (fReads s.fst y)) fun (y7 : Bool) =>
lett ((List.replicate (1 : Nat) (0 : Int)).set (0 : Nat) (fReads s.fst y)) fun (y8 : List Int) =>
lett (s.snd.snd.snd.snd.snd.snd.snd.snd.snd.snd ++ y5) fun (y9 : List (Int × Int)) =>
lett (fKind s.fst y.fst == (4 : Int)) fun (y10 : Bool) =>
lett (fKind s.fst y.fst == (2 : Int)) fun (y11 : Bool) =>
lett
(s.fst, s.snd.fst, s.snd.snd.fst, s.snd.snd.snd.fst, s.snd.snd.snd.snd.fst, s.snd.snd.snd.snd.snd.fst, s.snd.snd.snd.snd.snd.snd.fst, s.snd.snd.snd.snd.snd.snd.snd.fst,
s.snd.snd.snd.snd.snd.snd.snd.snd.fst, s.snd.snd.snd.snd.snd.snd.snd.snd.snd.fst, y9)
fun
(y12 :
SearchD) =>
lett (sPoints (sCome n) y y12).snd fun (y13 : Int × Int × Int × List (Int × Int × Int) × List (Int × Int) × List (Int × Int) × List Int × List Int × Bool × List (Int × Int)) =>
lett (sOn (sCome n) y.fst (fFrom s.fst y.fst y.snd (0 : Int)).fst (fZone y12 y.fst).snd) fun (y14 : SearchD) =>
lett (fZone y12 y.fst).snd.snd fun (y15 : Int × Int × Int × List (Int × Int × Int) × List (Int × Int) × List (Int × Int) × List Int × List Int × Bool × List (Int × Int)) =>
s.snd.snd.snd.snd.fst.length ≤ (1000000 : Nat) ∧
(y2 = false → True) ∧
(y3 = true →
s.fst = y4.fst ∧
s.snd.fst = y4.snd.fst ∧
s.snd.snd.fst = y4.snd.snd.fst ∧
s.snd.snd.snd.fst = y4.snd.snd.snd.fst ∧
s.snd.snd.snd.snd.fst = y4.snd.snd.snd.snd.fst ∧
s.snd.snd.snd.snd.snd.fst = y4.snd.snd.snd.snd.snd.fst ∧
s.snd.snd.snd.snd.snd.snd.fst = y4.snd.snd.snd.snd.snd.snd.fst ∧
s.snd.snd.snd.snd.snd.snd.snd.fst = y4.snd.snd.snd.snd.snd.snd.snd.fst ∧
s.snd.snd.snd.snd.snd.snd.snd.snd.fst = y4.snd.snd.snd.snd.snd.snd.snd.snd.fst ∧
s.snd.snd.snd.snd.snd.snd.snd.snd.snd.fst = y4.snd.snd.snd.snd.snd.snd.snd.snd.snd.fst ∧
s.snd.snd.snd.snd.snd.snd.snd.snd.snd.snd = y4.snd.snd.snd.snd.snd.snd.snd.snd.snd.snd ∧ True) ∧
(y3 = false →
roomFor (s.snd.snd.snd.snd.snd.snd.snd.snd.snd.snd.length + y5.length) (16 : Nat) ∧
True ∧
(y6 = true →
True ∧
(y7 = true →
roomFor (s.snd.snd.snd.snd.snd.snd.snd.snd.fst.length + y8.length) (8 : Nat) ∧
s.fst = y4.fst ∧
s.snd.fst = y4.snd.fst ∧
s.snd.snd.fst = y4.snd.snd.fst ∧
s.snd.snd.snd.fst = y4.snd.snd.snd.fst ∧
s.snd.snd.snd.snd.fst = y4.snd.snd.snd.snd.fst ∧
s.snd.snd.snd.snd.snd.fst = y4.snd.snd.snd.snd.snd.fst ∧
s.snd.snd.snd.snd.snd.snd.fst = y4.snd.snd.snd.snd.snd.snd.fst ∧
s.snd.snd.snd.snd.snd.snd.snd.fst = y4.snd.snd.snd.snd.snd.snd.snd.fst ∧
s.snd.snd.snd.snd.snd.snd.snd.snd.fst ++ y8 = y4.snd.snd.snd.snd.snd.snd.snd.snd.fst ∧
s.snd.snd.snd.snd.snd.snd.snd.snd.snd.fst = y4.snd.snd.snd.snd.snd.snd.snd.snd.snd.fst ∧
y9 = y4.snd.snd.snd.snd.snd.snd.snd.snd.snd.snd ∧ True) ∧
(y7 = false →
s.fst = y4.fst ∧
s.snd.fst = y4.snd.fst ∧
s.snd.snd.fst = y4.snd.snd.fst ∧
s.snd.snd.snd.fst = y4.snd.snd.snd.fst ∧
s.snd.snd.snd.snd.fst = y4.snd.snd.snd.snd.fst ∧
s.snd.snd.snd.snd.snd.fst = y4.snd.snd.snd.snd.snd.fst ∧
s.snd.snd.snd.snd.snd.snd.fst = y4.snd.snd.snd.snd.snd.snd.fst ∧
s.snd.snd.snd.snd.snd.snd.snd.fst = y4.snd.snd.snd.snd.snd.snd.snd.fst ∧
s.snd.snd.snd.snd.snd.snd.snd.snd.fst = y4.snd.snd.snd.snd.snd.snd.snd.snd.fst ∧
s.snd.snd.snd.snd.snd.snd.snd.snd.snd.fst = y4.snd.snd.snd.snd.snd.snd.snd.snd.snd.fst ∧
y9 = y4.snd.snd.snd.snd.snd.snd.snd.snd.snd.snd ∧ True)) ∧
(y6 = false →
True ∧
(y10 = true →
s.fst = y4.fst ∧
s.snd.fst = y4.snd.fst ∧
s.snd.snd.fst = y4.snd.snd.fst ∧
s.snd.snd.snd.fst = y4.snd.snd.snd.fst ∧
s.snd.snd.snd.snd.fst = y4.snd.snd.snd.snd.fst ∧
s.snd.snd.snd.snd.snd.fst = y4.snd.snd.snd.snd.snd.fst ∧
s.snd.snd.snd.snd.snd.snd.fst = y4.snd.snd.snd.snd.snd.snd.fst ∧
s.snd.snd.snd.snd.snd.snd.snd.fst = y4.snd.snd.snd.snd.snd.snd.snd.fst ∧
s.snd.snd.snd.snd.snd.snd.snd.snd.fst = y4.snd.snd.snd.snd.snd.snd.snd.snd.fst ∧
true = y4.snd.snd.snd.snd.snd.snd.snd.snd.snd.fst ∧ y9 = y4.snd.snd.snd.snd.snd.snd.snd.snd.snd.snd ∧ True) ∧
(y10 = false →
(y11 = true →
pointsOk n y y12 ∧
(sPoints (sCome n) y y12).fst = y4.fst ∧
y13.fst = y4.snd.fst ∧
y13.snd.fst = y4.snd.snd.fst ∧
y13.snd.snd.fst = y4.snd.snd.snd.fst ∧
y13.snd.snd.snd.fst = y4.snd.snd.snd.snd.fst ∧
y13.snd.snd.snd.snd.fst = y4.snd.snd.snd.snd.snd.fst ∧
y13.snd.snd.snd.snd.snd.fst = y4.snd.snd.snd.snd.snd.snd.fst ∧
y13.snd.snd.snd.snd.snd.snd.fst = y4.snd.snd.snd.snd.snd.snd.snd.fst ∧
y13.snd.snd.snd.snd.snd.snd.snd.fst = y4.snd.snd.snd.snd.snd.snd.snd.snd.fst ∧
y13.snd.snd.snd.snd.snd.snd.snd.snd.fst = y4.snd.snd.snd.snd.snd.snd.snd.snd.snd.fst ∧
y13.snd.snd.snd.snd.snd.snd.snd.snd.snd = y4.snd.snd.snd.snd.snd.snd.snd.snd.snd.snd ∧ True) ∧
(y11 = false →
True ∧
(gZone y12).length ≤ (1000 : Nat) ∧
((fZone y12 y.fst).fst = true →
onOk n (fZone y12 y.fst).snd ∧
y14.fst = y4.fst ∧
y14.snd.fst = y4.snd.fst ∧
y14.snd.snd.fst = y4.snd.snd.fst ∧
y14.snd.snd.snd.fst = y4.snd.snd.snd.fst ∧
y14.snd.snd.snd.snd.fst = y4.snd.snd.snd.snd.fst ∧
y14.snd.snd.snd.snd.snd.fst = y4.snd.snd.snd.snd.snd.fst ∧
y14.snd.snd.snd.snd.snd.snd.fst = y4.snd.snd.snd.snd.snd.snd.fst ∧
y14.snd.snd.snd.snd.snd.snd.snd.fst = y4.snd.snd.snd.snd.snd.snd.snd.fst ∧
y14.snd.snd.snd.snd.snd.snd.snd.snd.fst = y4.snd.snd.snd.snd.snd.snd.snd.snd.fst ∧
y14.snd.snd.snd.snd.snd.snd.snd.snd.snd.fst = y4.snd.snd.snd.snd.snd.snd.snd.snd.snd.fst ∧
y14.snd.snd.snd.snd.snd.snd.snd.snd.snd.snd = y4.snd.snd.snd.snd.snd.snd.snd.snd.snd.snd ∧ True) ∧
((fZone y12 y.fst).fst = false →
(fZone y12 y.fst).snd.fst = y4.fst ∧
y15.fst = y4.snd.fst ∧
y15.snd.fst = y4.snd.snd.fst ∧
y15.snd.snd.fst = y4.snd.snd.snd.fst ∧
y15.snd.snd.snd.fst = y4.snd.snd.snd.snd.fst ∧
y15.snd.snd.snd.snd.fst = y4.snd.snd.snd.snd.snd.fst ∧
y15.snd.snd.snd.snd.snd.fst = y4.snd.snd.snd.snd.snd.snd.fst ∧
y15.snd.snd.snd.snd.snd.snd.fst = y4.snd.snd.snd.snd.snd.snd.snd.fst ∧
y15.snd.snd.snd.snd.snd.snd.snd.fst = y4.snd.snd.snd.snd.snd.snd.snd.snd.fst ∧
y15.snd.snd.snd.snd.snd.snd.snd.snd.fst = y4.snd.snd.snd.snd.snd.snd.snd.snd.snd.fst ∧
y15.snd.snd.snd.snd.snd.snd.snd.snd.snd = y4.snd.snd.snd.snd.snd.snd.snd.snd.snd.snd ∧ True)))))) := by kernel_rfl

theorem b126 (n : Nat) (s : SearchD) (y : PortD) (hp : comeOk (n + 1) y s) : obodyVC (ctxOf tab [(148, c148), (149, c149), (120, c120), (16, c16), (125, c125), (150, c150 n), (151, c151), (152, c152), (78, c78 n)]) Tryz.f126 (c126 (n + 1)) noAnn (s, y, ()) := by
  have h1 := hp.1
  have hm := smet_len s h1.1
  have hst : s.2.2.2.2.1.length ≤ 1000 := h1.1.steps
  have hhl : s.2.2.2.2.2.2.2.2.1.length ≤ 2000 := by
    have := h1.1.holds
    show (gHolds s).length ≤ 2000
    omega
  have hml : s.2.2.2.2.2.2.2.2.2.2.length ≤ 2000 := hm
  rw [v126]
  refine lett.mk fun y2 e2 => lett.mk fun y3 e3 => lett.mk fun y4 e4 => lett.mk fun y5 e5 => lett.mk fun y6 e6 => lett.mk fun y7 e7 => lett.mk fun y8 e8 => lett.mk fun y9 e9 => lett.mk fun y10 e10 => lett.mk fun y11 e11 => lett.mk fun y12 e12 => lett.mk fun y13 e13 => lett.mk fun y14 e14 => lett.mk fun y15 e15 => ?_
  subst e13 e15
  have e5 : y5 = [y] := e5
  have e8 : y8 = [fReads s.1 y] := e8
  have e12 : y12 = sMet s (gMet s ++ [y]) := by rw [e12, e9, e5]; rfl
  have e9 : y9 = gMet s ++ [y] := by rw [e9, e5]
  have e2 : y2 = fOwn (sRoad s) y.1 := by rw [e2]; unfold sRoad; rfl
  have hS : y4 = bif y3 then s else sNew (sCome n) y y12 := by
    rw [e4, e3, e2, e12]
    show sStep (sCome n) y s = _
    unfold sStep
    have key : ∀ a b : Bool, (a || b) = (bif a then true else b) := by decide
    rw [key]
  have hN : sNew (sCome n) y y12 = bif y6 then (bif !y7 then y12 else sHold y12 (gHolds s ++ [fReads s.1 y])) else
      bif y10 then sBare y12 else bif y11 then sPoints (sCome n) y y12 else (bif (fZone y12 y.1).1 then y14 else (fZone y12 y.1).2) := by
    rw [e14, e6, e7, e10, e11, e12, Bool.not_not]
    have key : ∀ a b : Bool, (bif a then b else false) = (a && b) := by decide
    rw [key]
    unfold sNew
    rfl
  refine ⟨by omega, fun _ => trivial, fun h => eqS (by rw [hS, h]; rfl), fun h => ?_⟩
  have hfp : fHasPort (gMet s) y = false := by
    rw [h] at e3
    exact (bif_or e3.symm).2
  obtain ⟨k1, k2, k3⟩ := met_more hp hfp
  rw [← e12] at k1 k2 k3
  rw [h, cond_false, hN] at hS
  obtain ⟨hz, _⟩ := zone_keeps k1.1.1.1 y.1
  have hzl : (gZone y12).length ≤ 1000 := by have := k1.1.1.1.zone; omega
  refine ⟨roomB (by rw [e5]; simp; omega) (by omega), trivial, fun h6 => ⟨trivial, fun h7 => ⟨roomB (by rw [e8]; simp; omega) (by omega), ?_⟩, fun h7 => ?_⟩, fun h6 => ⟨trivial, fun h10 => ?_, fun h10 => ⟨fun h11 => ⟨k1, eqS (by rw [hS, h6, h10, h11]; rfl)⟩, fun h11 => ⟨trivial, hzl, fun hf => ⟨hz.onOk k1.1.1, eqS (by rw [hS, h6, h10, h11, hf]; rfl)⟩, fun hf => eqS (a := (fZone y12 y.1).2) (by rw [hS, h6, h10, h11, hf]; rfl)⟩⟩⟩⟩
  · rw [e8, e9]
    exact eqS (a := sHold (sMet s (gMet s ++ [y])) (gHolds s ++ [fReads s.1 y])) (by rw [hS, h6, h7, e12]; rfl)
  · rw [e9]
    exact eqS (a := sMet s (gMet s ++ [y])) (by rw [hS, h6, h7, e12]; rfl)
  · rw [e9]
    exact eqS (a := sBare (sMet s (gMet s ++ [y]))) (by rw [hS, h6, h10, e12]; rfl)

theorem ok126 : ∀ n : Nat, OOk Tryz.prog 126 (c126 n)
  | 0 => { fn := ⟨Tryz.f126, _, Tryz.func126, by kernel_rfl, rfl⟩, okA := by decide, okO := by decide, calls := fun F w x vs pl h1 h2 h3 h4 h5 hp h6 => absurd hp come_zero }
  | n + 1 => by
    have k26 : OOk Tryz.prog 78 (c78 n) := OOk.of' (l := [(107, c107), (126, c126 n)]) (A := fun _ => noAnn) tabOk ⟨ok107, ok126 n, trivial⟩ Tryz.func78 (by kernel_rfl) (by kernel_rfl) fun x _ hp => b78 n x.1 x.2.1 x.2.2.1 hp
    have k46 : OOk Tryz.prog 150 (c150 n) := OOk.of' (l := [(152, c152), (157, c157), (78, c78 n)]) (A := fun _ => noAnn) tabOk ⟨ok152, ok157, k26, trivial⟩ Tryz.func150 (by kernel_rfl) (by kernel_rfl) fun x _ hp => b150 n x.1 x.2.1 hp
    exact OOk.of' (l := [(148, c148), (149, c149), (120, c120), (16, c16), (125, c125), (150, c150 n), (151, c151), (152, c152), (78, c78 n)]) (A := fun _ => noAnn) tabOk ⟨ok148, ok149, ok120, ok16, ok125, k46, ok151, ok152, k26, trivial⟩ Tryz.func126 (by kernel_rfl) (by kernel_rfl) fun x _ hp => b126 n x.1 x.2.1 hp

theorem ok78 (n : Nat) : OOk Tryz.prog 78 (c78 n) :=
  OOk.of' (l := [(107, c107), (126, c126 n)]) (A := fun _ => noAnn) tabOk ⟨ok107, ok126 n, trivial⟩ Tryz.func78 (by kernel_rfl) (by kernel_rfl) fun x _ hp => b78 n x.1 x.2.1 x.2.2.1 hp

/-! ### Flanks -/

theorem check_facts {p : PlanD} (h : fCheck p = 0) : fSizes p = true ∧ fJoined p = true := by
  unfold fCheck at h
  cases h1 : fSizes p with
  | false => rw [h1] at h; have h : (3 : Int) = 0 := h; exact absurd h (by decide)
  | true =>
    rw [h1] at h
    cases h2 : fArgs p with
    | false => rw [h2] at h; have h : (1 : Int) = 0 := h; exact absurd h (by decide)
    | true =>
      rw [h2] at h
      cases h3 : (fTwice (p.1.map fun e => e.1) || (fTwice (p.2.2.1.map fun s => s.1) || fTwice (p.2.2.2.1.map fun l => l.1))) with
      | true => rw [h3] at h; have h : (4 : Int) = 0 := h; exact absurd h (by decide)
      | false =>
        rw [h3] at h
        cases h4 : fJoined p with
        | false => rw [h4] at h; have h : (6 : Int) = 0 := h; exact absurd h (by decide)
        | true => exact ⟨rfl, rfl⟩

theorem sizes_facts {p : PlanD} (h : fSizes p = true) : p.1.length ≤ 40 ∧ p.2.2.1.length ≤ 24 ∧ p.2.2.2.1.length ≤ 4 ∧ p.2.1.length ≤ 80 := by
  unfold fSizes at h
  simp only [Bool.and_eq_true] at h
  exact ⟨of_decide_eq_true h.1, of_decide_eq_true h.2.1, of_decide_eq_true h.2.2.1, of_decide_eq_true h.2.2.2⟩

theorem ends_len (p : PlanD) : (joinEnds p).length = 2 * p.2.1.length := by
  have hlen : ∀ l : List JoinD, (l.flatMap fun j => [j.1, j.2]).length = 2 * l.length := fun l => by
    induction l with
    | nil => rfl
    | cons x l ih => rw [List.flatMap_cons, List.length_append, ih, List.length_cons]; simp; omega
  exact hlen p.2.1

theorem flank_on {p : PlanD} {r : RoadD} (h : flankPre p r) : ∀ k, onOk 161 (flankUp p r k) ∧ (flankUp p r k).1 = p
  | 0 => by
    obtain ⟨h1, ⟨h2, _⟩, _⟩ := h
    obtain ⟨h3, h4⟩ := check_facts h1
    obtain ⟨_, _, _, h5⟩ := sizes_facts h3
    have := ends_len p
    refine ⟨⟨⟨h4, ?_, List.nodup_nil, (fun y hy => by cases hy), Nat.zero_le _, Nat.zero_le _, Nat.zero_le _, h2⟩, ?_⟩, rfl⟩
    · show p.2.1.length ≤ 1000
      omega
    · show (joinEnds p).length < 0 + 161
      omega
  | k + 1 => by
    obtain ⟨ih1, ih2⟩ := flank_on h k
    have hk := on_keeps (come_keeps 161) ((fPorts p r).getD k zP).1 ((fPorts p r).getD k zP).2 ih1
    exact ⟨hk.onOk ih1, hk.plan.trans ih2⟩

theorem v47 (p : PlanD) (r : RoadD) : bodyVC (ctxOf tab [(77, c77), (78, c78 161)]) Tryz.f47 c47 (a47 (p, r, ())) (p, r, ()) = (
lett (List.replicate (0 : Nat) ((0 : Int), (0 : Int), (0 : Int))) fun (y2 : List (Int × Int × Int)) =>
roomFor (y2.length + r.snd.snd.snd.fst.length) (24 : Nat) ∧
roomFor ((List.replicate (0 : Nat) ((0 : Int), (0 : Int))).length + r.snd.snd.snd.snd.fst.length) (16 : Nat) ∧
stepsOk r ∧
(∃ (s03 : Nat),
s03 ≤ (fPorts p r).length ∧
(↑s03 : Int) = (0 : Int) ∧
fPorts p r = fPorts p r ∧
(flankUp p r s03).fst.fst = p.fst ∧
(flankUp p r s03).fst.snd.fst = p.snd.fst ∧
(flankUp p r s03).fst.snd.snd.fst = p.snd.snd.fst ∧
(flankUp p r s03).fst.snd.snd.snd.fst = p.snd.snd.snd.fst ∧
(flankUp p r s03).fst.snd.snd.snd.snd.fst = p.snd.snd.snd.snd.fst ∧
(flankUp p r s03).fst.snd.snd.snd.snd.snd.fst = p.snd.snd.snd.snd.snd.fst ∧
(flankUp p r s03).fst.snd.snd.snd.snd.snd.snd.fst = p.snd.snd.snd.snd.snd.snd.fst ∧
(flankUp p r s03).fst.snd.snd.snd.snd.snd.snd.snd.fst = p.snd.snd.snd.snd.snd.snd.snd.fst ∧
(flankUp p r s03).fst.snd.snd.snd.snd.snd.snd.snd.snd = p.snd.snd.snd.snd.snd.snd.snd.snd ∧
(flankUp p r s03).snd.fst = r.fst ∧
(flankUp p r s03).snd.snd.fst = r.snd.fst ∧
(flankUp p r s03).snd.snd.snd.fst = r.snd.snd.fst ∧
(flankUp p r s03).snd.snd.snd.snd.snd.snd.snd.snd.snd.fst = false ∧
gSteps (flankUp p r s03) = y2 ++ r.snd.snd.snd.fst ∧
gNeeds (flankUp p r s03) = List.replicate (0 : Nat) ((0 : Int), (0 : Int)) ++ r.snd.snd.snd.snd.fst ∧
gGuards (flankUp p r s03) = [] ∧
gZone (flankUp p r s03) = [] ∧
gHolds (flankUp p r s03) = [] ∧
gMet (flankUp p r s03) = [] ∧ (0 : Int) = (0 : Int) ∧ (0 : Int) = (0 : Int) ∧ (0 : Int) = (0 : Int) ∧ false = false ∧ True) ∧
∀ (s3 : Nat),
lett (decide ((↑s3 : Int) < (↑(fPorts p r).length : Int))) fun (y4 : Bool) =>
lett (flankUp p r s3).snd.fst fun (y5 : Int) =>
lett (flankUp p r s3).snd.snd fun (y6 : Int × Int × List StepD × List NeedD × List NeedD × List Int × List Int × Bool × List PortD) =>
lett
((flankUp p r s3).fst, y5, y6.fst, y6.snd.fst, gSteps (flankUp p r s3), gNeeds (flankUp p r s3), gGuards (flankUp p r s3), gZone (flankUp p r s3), gHolds (flankUp p r s3),
y6.snd.snd.snd.snd.snd.snd.snd.fst, gMet (flankUp p r s3))
fun
(y7 :
SearchD) =>
lett ((fPorts p r).getD (↑s3 : Int).toNat ((0 : Int), (0 : Int))) fun (y8 : Int × Int) =>
lett (sOn (sCome (161 : Nat)) y8.fst y8.snd y7) fun (y9 : SearchD) =>
s3 ≤ (fPorts p r).length →
(y4 = true →
InB (↑s3 : Int) (fPorts p r).length ∧
InB (↑s3 : Int) (fPorts p r).length ∧
onOk (161 : Nat) y7 ∧
InR IntKind.i64 ((↑s3 : Int) + (1 : Int)) ∧
∃ (s'10 : Nat),
s'10 ≤ (fPorts p r).length ∧
(fPorts p r).length - s'10 < (fPorts p r).length - s3 ∧
(↑s'10 : Int) = (↑s3 : Int) + (1 : Int) ∧
fPorts p r = fPorts p r ∧
(flankUp p r s'10).fst.fst = y9.fst.fst ∧
(flankUp p r s'10).fst.snd.fst = y9.fst.snd.fst ∧
(flankUp p r s'10).fst.snd.snd.fst = y9.fst.snd.snd.fst ∧
(flankUp p r s'10).fst.snd.snd.snd.fst = y9.fst.snd.snd.snd.fst ∧
(flankUp p r s'10).fst.snd.snd.snd.snd.fst = y9.fst.snd.snd.snd.snd.fst ∧
(flankUp p r s'10).fst.snd.snd.snd.snd.snd.fst = y9.fst.snd.snd.snd.snd.snd.fst ∧
(flankUp p r s'10).fst.snd.snd.snd.snd.snd.snd.fst = y9.fst.snd.snd.snd.snd.snd.snd.fst ∧
(flankUp p r s'10).fst.snd.snd.snd.snd.snd.snd.snd.fst = y9.fst.snd.snd.snd.snd.snd.snd.snd.fst ∧
(flankUp p r s'10).fst.snd.snd.snd.snd.snd.snd.snd.snd = y9.fst.snd.snd.snd.snd.snd.snd.snd.snd ∧
(flankUp p r s'10).snd.fst = y9.snd.fst ∧
(flankUp p r s'10).snd.snd.fst = y9.snd.snd.fst ∧
(flankUp p r s'10).snd.snd.snd.fst = y9.snd.snd.snd.fst ∧
(flankUp p r s'10).snd.snd.snd.snd.snd.snd.snd.snd.snd.fst = y9.snd.snd.snd.snd.snd.snd.snd.snd.snd.fst ∧
gSteps (flankUp p r s'10) = y9.snd.snd.snd.snd.fst ∧
gNeeds (flankUp p r s'10) = y9.snd.snd.snd.snd.snd.fst ∧
gGuards (flankUp p r s'10) = y9.snd.snd.snd.snd.snd.snd.fst ∧
gZone (flankUp p r s'10) = y9.snd.snd.snd.snd.snd.snd.snd.fst ∧
gHolds (flankUp p r s'10) = y9.snd.snd.snd.snd.snd.snd.snd.snd.fst ∧
gMet (flankUp p r s'10) = y9.snd.snd.snd.snd.snd.snd.snd.snd.snd.snd ∧
(0 : Int) = (0 : Int) ∧ (0 : Int) = (0 : Int) ∧ (0 : Int) = (0 : Int) ∧ false = false ∧ True) ∧
(y4 = false →
(y5, y6.fst, y6.snd.fst, gSteps (flankUp p r s3), gNeeds (flankUp p r s3), gGuards (flankUp p r s3), gZone (flankUp p r s3), gHolds (flankUp p r s3),
y6.snd.snd.snd.snd.snd.snd.snd.fst) =
fFlank p r ∧
True)) := by kernel_rfl

theorem b47 (p : PlanD) (r : RoadD) (hp : flankPre p r) : bodyVC (ctxOf tab [(77, c77), (78, c78 161)]) Tryz.f47 c47 (a47 (p, r, ())) (p, r, ()) := by
  have hpl : (fPorts p r).length ≤ 2000 := by
    have h := ports_up_len p r r.2.2.2.1.length (Nat.le_refl _)
    have h2 := hp.2.1.1
    unfold fPorts
    omega
  obtain ⟨h1, h2, h3⟩ := hp
  rw [v47]
  refine lett.mk fun y2 e2 => ?_
  have e2 : y2 = [] := e2
  refine ⟨roomB (by rw [e2]; simp; have := h2.1; omega) (by omega), roomB (by simp; omega) (by omega), h2, ⟨0, by omega, rfl, rfl, rfl, rfl, rfl, rfl, rfl, rfl, rfl, rfl, rfl, rfl, rfl, rfl, rfl, by rw [e2]; rfl, rfl, rfl, rfl, rfl, rfl, rfl, rfl, rfl, rfl, trivial⟩, fun s => lett.mk fun y4 e4 => lett.mk fun y5 e5 => lett.mk fun y6 e6 => lett.mk fun y7 e7 => lett.mk fun y8 e8 => lett.mk fun y9 e9 => ?_⟩
  intro hs
  have e7 : y7 = flankUp p r s := by rw [e7, e6, e5]
  have e8 : y8 = (fPorts p r).getD s zP := by rw [e8, Int.toNat_natCast]; rfl
  refine ⟨fun h => ?_, fun h => ?_⟩
  · have h := lt_of_y e4 h
    have e9 : flankUp p r (s + 1) = y9 := by rw [e9, e8, e7]; rfl
    subst e9
    refine ⟨⟨by omega, by omega⟩, ⟨by omega, by omega⟩, by rw [e7]; exact (flank_on ⟨h1, h2, h3⟩ s).1, inR64 (by omega) (by omega), s + 1, by omega, by omega, by omega, rfl, rfl, rfl, rfl, rfl, rfl, rfl, rfl, rfl, rfl, rfl, rfl, rfl, rfl, rfl, rfl, rfl, rfl, rfl, rfl, rfl, rfl, rfl, rfl, trivial⟩
  · have hle := le_of_y e4 h
    have : s = (fPorts p r).length := by omega
    subst this
    subst e6 e5
    refine ⟨?_, trivial⟩
    unfold fFlank sRoad
    rfl

theorem ok47 : DOk Tryz.prog 47 c47 :=
  DOk.of' (l := [(77, c77), (78, c78 161)]) (A := a47) tabOk ⟨ok77, ok78 161, trivial⟩ Tryz.func47 (by kernel_rfl) (by kernel_rfl) fun x _ hp => b47 x.1 x.2.1 hp

/-! ### What roads there are -/

def roadOk (r : RoadD) : Prop := (∀ s ∈ r.2.2.2.1, stepOk s) ∧ r.2.2.2.1.length ≤ 13 ∧ r.2.2.2.2.1.length ≤ 13

theorem outs_range {p : PlanD} {e i : Int} (hi : fHas p (e, i) = true) {w : Int × Int} (hw : w ∈ fOuts p e i) : -1 ≤ w.1 ∧ w.1 ≤ 3 := by
  have hend := has_end hi
  have hend : 0 ≤ i ∧ i ≤ 3 := hend
  have hfa := (has_facts hi).2
  have hfa : 0 ≤ i ∧ i < fEnds (fKind p e) := hfa
  unfold fOuts at hw
  rw [hi] at hw
  cases h1 : fKind p e == 1 with
  | true =>
    rw [h1] at hw
    have hw : w = (1 - i, 0) := by simpa using hw
    have hk : fKind p e = 1 := eq_of_beq h1
    have he : fEnds (fKind p e) = 2 := by rw [hk]; unfold fEnds; rfl
    rw [hw]
    show -1 ≤ 1 - i ∧ 1 - i ≤ 3
    omega
  | false =>
    rw [h1] at hw
    cases h3 : fKind p e == 3 with
    | true =>
      rw [h3] at hw
      have hw : w = (fCross i, 0) := by simpa using hw
      rw [hw]
      show -1 ≤ fCross i ∧ fCross i ≤ 3
      unfold fCross
      cases i == 0 <;> cases i == 1 <;> cases i == 2 <;> simp
    | false =>
      rw [h3] at hw
      cases h2 : fKind p e == 2 with
      | false => rw [h2] at hw; cases hw
      | true =>
        rw [h2] at hw
        cases h0 : i == 0 with
        | true =>
          rw [h0] at hw
          have hw : w = (1, 1) ∨ w = (2, 2) := by simpa using hw
          rcases hw with rfl | rfl
          · show (-1 : Int) ≤ 1 ∧ (1 : Int) ≤ 3; decide
          · show (-1 : Int) ≤ 2 ∧ (2 : Int) ≤ 3; decide
        | false =>
          rw [h0] at hw
          have hw : w = (0, i) := by simpa using hw
          rw [hw]
          show (-1 : Int) ≤ 0 ∧ (0 : Int) ≤ 3; decide

theorem with_ok {r : RoadD} {s : StepD} {pos stop to : Int} (h : ∀ q ∈ r.2.2.2.1, stepOk q) (hs : stepOk s) (hl : r.2.2.2.1.length ≤ 12) (hn : r.2.2.2.2.1.length ≤ r.2.2.2.1.length) : roadOk (fWith r s pos stop to) := by
  refine ⟨fun q hq => ?_, ?_, ?_⟩
  · rw [with_steps] at hq
    rcases List.mem_append.1 hq with hq | hq
    · exact h q hq
    · have : q = s := by simpa using hq
      rw [this]; exact hs
  · rw [with_steps, List.length_append]; show _ + 1 ≤ 13; omega
  · have := with_needs r s pos stop to
    omega

theorem on_ok {p : PlanD} (hj : fJoined p = true) : ∀ (n : Nat) (r : RoadD) (x : PortD) (met : List Int), onPre n r met → (∀ q ∈ r.2.2.2.1, stepOk q) → (0 ≤ x.2 ∧ x.2 ≤ 3) → ∀ q ∈ fOn p n r x met, roadOk q
  | 0, r, x, met, hp, _, _, q, hq => absurd hp on_zero
  | n + 1, r, x, met, hp, hst, hx, q, hq => by
    obtain ⟨⟨p1, p2, p3⟩, p4, p5⟩ := hp
    have hq : q ∈ onStep p (fOn p n) r x met := hq
    unfold onStep at hq
    cases h1 : fMem met x.1 || decide (r.2.2.2.1.length = 12) with
    | true => rw [h1] at hq; cases hq
    | false =>
      rw [h1] at hq
      have hne : r.2.2.2.1.length ≠ 12 := of_decide_eq_false (Bool.or_eq_false_iff.1 h1).2
      cases h2 : fKind p x.1 == 4 with
      | true =>
        rw [h2] at hq
        have hq : q = fWith r (x.1, x.2, -1) 0 2 (-1) := by simpa using hq
        rw [hq]
        exact with_ok hst ⟨⟨by show -1 ≤ x.2; omega, hx.2⟩, by show (-1 : Int) ≤ -1; decide, by show (-1 : Int) ≤ 3; decide⟩ p2 p4
      | false =>
        rw [h2] at hq
        have hq : q ∈ onWays p (fOn p n) r x (met ++ [x.1]) (fOuts p x.1 x.2).length := hq
        unfold onWays at hq
        rw [List.take_length] at hq
        obtain ⟨w, hw, hq⟩ := List.mem_flatMap.1 hq
        have hh : fHas p (x.1, x.2) = true := by
          cases hh : fHas p (x.1, x.2) with
          | true => rfl
          | false =>
            unfold fOuts at hw
            rw [hh] at hw
            cases hw
        have hwr := outs_range hh hw
        have hs : stepOk (x.1, x.2, w.1) := ⟨⟨by show -1 ≤ x.2; omega, hx.2⟩, hwr⟩
        unfold onWay at hq
        cases h3 : decide (0 ≤ fReads p (x.1, w.1)) with
        | true =>
          rw [h3] at hq
          have hq : q = fWith r (x.1, x.2, w.1) w.2 1 (fReads p (x.1, w.1)) := by simpa using hq
          rw [hq]
          exact with_ok hst hs p2 p4
        | false =>
          rw [h3] at hq
          cases h4 : (fNext p (x.1, w.1)).2 with
          | false =>
            rw [h4] at hq
            have hq : q = fWith r (x.1, x.2, w.1) w.2 3 (-1) := by simpa using hq
            rw [hq]
            exact with_ok hst hs p2 p4
          | true =>
            rw [h4] at hq
            have hq : q ∈ fOn p n (fWith r (x.1, x.2, w.1) w.2 0 (-1)) (fNext p (x.1, w.1)).1 (met ++ [x.1]) := hq
            have hwk := with_ok (pos := w.2) (stop := 0) (to := -1) hst hs p2 p4
            have hl : (fWith r (x.1, x.2, w.1) w.2 0 (-1)).2.2.2.1.length = r.2.2.2.1.length + 1 := by rw [with_steps]; simp
            have hn := with_needs r (x.1, x.2, w.1) w.2 0 (-1)
            refine on_ok hj n _ _ _ ⟨⟨by omega, by omega, by omega⟩, by omega, by simp; omega⟩ hwk.1 (has_end (next_has hj h4)) q hq

theorem all_ok {p : PlanD} (hj : fJoined p = true) : ∀ q ∈ (fAll p).1, roadOk q := by
  intro q hq
  unfold fAll at hq
  cases h : anyTo (allLong p) p.2.2.1.length with
  | true => rw [h] at hq; cases hq
  | false =>
    rw [h] at hq
    have hq : q ∈ allUp p p.2.2.1.length := hq
    unfold allUp at hq
    obtain ⟨s, _, hq⟩ := List.mem_flatMap.1 hq
    unfold fOf at hq
    cases h1 : (fAt p (s : Int)).2 with
    | false => rw [h1] at hq; cases hq
    | true =>
      rw [h1] at hq
      cases h2 : (fNext p (fAt p (s : Int)).1).2 with
      | false => rw [h2] at hq; cases hq
      | true =>
        rw [h2] at hq
        exact on_ok hj 13 _ _ _ (of_pre _ _) (fun q hq => (by cases hq)) (has_end (next_has hj h2)) q hq

theorem all_len (p : PlanD) : (fAll p).1.length ≤ 64 := by
  unfold fAll
  cases h : anyTo (allLong p) p.2.2.1.length with
  | true => exact Nat.zero_le _
  | false => exact all_up_len h

theorem v19 (p : PlanD) : bodyVC (ctxOf tab [(45, c45), (46, c46), (47, c47)]) Tryz.f19 c19 (a19 (p, ())) (p, ()) = (
lett ((0 : Int), (0 : Int), (0 : Int), [], [], [], [], [], false) fun (y1 : RoadD) =>
shortLines p ∧
((fCheck p != (0 : Int)) = true → (([], [], [], [], (0 : Int), (0 : Int), (0 : Int), (0 : Int), false), []) = (fBuild p).fst ∧ fCheck p = (fBuild p).snd ∧ True) ∧
((fCheck p != (0 : Int)) = false →
p.snd.snd.fst.length ≤ (1000 : Nat) ∧
(((fAll p).snd != (0 : Int)) = true → (([], [], [], [], (0 : Int), (0 : Int), (0 : Int), (0 : Int), false), []) = (fBuild p).fst ∧ (fAll p).snd = (fBuild p).snd ∧ True) ∧
(((fAll p).snd != (0 : Int)) = false →
(∃ (s02 : Nat),
s02 ≤ (fAll p).fst.length ∧
(↑s02 : Int) = (0 : Int) ∧
List.map (fFlank p) (List.take s02 (fAll p).fst) ++ List.drop s02 (fAll p).fst = (fAll p).fst ∧
keepP p ((0 : Int) = (0 : Int) ∧ (0 : Int) = (0 : Int) ∧ (0 : Int) = (0 : Int) ∧ (0 : Int) = (0 : Int) ∧ false = false ∧ True)) ∧
∀ (s2 : Nat),
lett (List.map (fFlank p) (List.take s2 (fAll p).fst) ++ List.drop s2 (fAll p).fst) fun (y3 : List RoadD) =>
lett (decide ((↑s2 : Int) < (↑y3.length : Int))) fun (y4 : Bool) =>
lett (y3.getD (↑s2 : Int).toNat y1) fun (y5 : RoadD) =>
s2 ≤ (fAll p).fst.length →
(y4 = true →
InB (↑s2 : Int) y3.length ∧
flankPre p y5 ∧
InB (↑s2 : Int) y3.length ∧
InR IntKind.i64 ((↑s2 : Int) + (1 : Int)) ∧
∃ (s'6 : Nat),
s'6 ≤ (fAll p).fst.length ∧
(fAll p).fst.length - s'6 < (fAll p).fst.length - s2 ∧
(↑s'6 : Int) = (↑s2 : Int) + (1 : Int) ∧
List.map (fFlank p) (List.take s'6 (fAll p).fst) ++ List.drop s'6 (fAll p).fst = y3.set (↑s2 : Int).toNat (fFlank p y5) ∧
keepP p ((0 : Int) = (0 : Int) ∧ (0 : Int) = (0 : Int) ∧ (0 : Int) = (0 : Int) ∧ (0 : Int) = (0 : Int) ∧ false = false ∧ True)) ∧
(y4 = false → (p, y3) = (fBuild p).fst ∧ (0 : Int) = (fBuild p).snd ∧ True)))) := by kernel_rfl

theorem b19 (p : PlanD) (hp : shortLines p) : bodyVC (ctxOf tab [(45, c45), (46, c46), (47, c47)]) Tryz.f19 c19 (a19 (p, ())) (p, ()) := by
  have hB : fBuild p = bif fCheck p == 0 then (bif (fAll p).2 == 0 then ((p, (fAll p).1.map (fFlank p)), 0) else (zC, (fAll p).2)) else (zC, fCheck p) := by unfold fBuild; rfl
  have hal := all_len p
  rw [v19, bneB, bneB]
  refine lett.mk fun y1 e1 => ?_
  simp only [keepP_eq, true_and, and_true, Int.toNat_natCast]
  refine ⟨hp, fun h => ?_, fun h => ?_⟩
  · have h : (fCheck p == 0) = false := by simpa using h
    rw [hB, h]
    exact ⟨rfl, rfl⟩
  have h : (fCheck p == 0) = true := by simpa using h
  have hc : fCheck p = 0 := eq_of_beq h
  rw [h] at hB
  obtain ⟨h3, h4⟩ := check_facts hc
  obtain ⟨_, h5, _, _⟩ := sizes_facts h3
  refine ⟨by omega, fun h2 => ?_, fun h2 => ?_⟩
  · have h2 : ((fAll p).2 == 0) = false := by simpa using h2
    rw [hB, h2]
    exact ⟨rfl, rfl⟩
  have h2 : ((fAll p).2 == 0) = true := by simpa using h2
  rw [h2] at hB
  refine ⟨⟨0, by omega, rfl, rfl⟩, fun s => lett.mk fun y3 e3 => lett.mk fun y4 e4 => lett.mk fun y5 e5 => ?_⟩
  intro hs
  have hl3 : y3.length = (fAll p).1.length := by
    rw [e3, List.length_append, List.length_map, List.length_take, List.length_drop]
    omega
  refine ⟨fun h => ?_, fun h => ?_⟩
  · have h := lt_of_y e4 h
    have hlt : s < (fAll p).1.length := by omega
    have hml : (List.map (fFlank p) (List.take s (fAll p).1)).length = s := by rw [List.length_map, List.length_take]; omega
    have hd : (fAll p).1.drop s = (fAll p).1.getD s zR :: (fAll p).1.drop (s + 1) := by
      rw [getD_at zR hlt]
      exact List.drop_eq_getElem_cons hlt
    have e5 : y5 = (fAll p).1.getD s zR := by
      rw [e5, e3, hd, List.getD_eq_getElem?_getD, List.getElem?_append_right (by omega), hml, Nat.sub_self]
      rfl
    have hok := all_ok h4 y5 (by rw [e5]; exact mem_getD zR hlt)
    refine ⟨⟨by omega, by omega⟩, ⟨hc, ⟨by have := hok.2.1; omega, hok.1⟩, by have := hok.2.2; omega⟩, ⟨by omega, by omega⟩, inR64 (by omega) (by omega), s + 1, by omega, by omega, by omega, ?_⟩
    rw [e3, hd, List.set_append_right _ _ (by omega), hml, Nat.sub_self, List.set_cons_zero, map_succ _ zR hlt, List.append_assoc, e5]
    rfl
  · have hle := le_of_y e4 h
    have : s = (fAll p).1.length := by omega
    subst this
    rw [hB, e3, List.take_length, List.drop_length, List.append_nil]
    exact ⟨rfl, rfl⟩

theorem ok19 : DOk Tryz.prog 19 c19 :=
  DOk.of' (l := [(45, c45), (46, c46), (47, c47)]) (A := a19) tabOk ⟨ok45, ok46, ok47, trivial⟩ Tryz.func19 (by kernel_rfl) (by kernel_rfl) fun x _ hp => b19 x.1 hp

theorem v7 (p : PlanD) : bodyVC (ctxOf tab [(25, c25), (19, c19)]) Tryz.f7 c7 noAnn (p, ()) = (
True ∧
((!fFine p) = true → [] = (fRoads p).fst ∧ false = (fRoads p).snd ∧ True) ∧
((!fFine p) = false → shortLines p ∧ (fBuild p).fst.snd = (fRoads p).fst ∧ ((fBuild p).snd == (0 : Int)) = (fRoads p).snd ∧ True)) := by kernel_rfl

theorem fine_few {p : PlanD} (h : fFine p = true) : fFew p = true := by
  unfold fFine at h
  rw [Bool.and_eq_true] at h
  exact h.1

theorem ok7 : DOk Tryz.prog 7 c7 :=
  DOk.of' (l := [(25, c25), (19, c19)]) (A := fun _ => noAnn) tabOk ⟨ok25, ok19, trivial⟩ Tryz.func7 (by kernel_rfl) (by kernel_rfl) fun x _ hp => by
    obtain ⟨p, ⟨⟩⟩ := x
    rw [v7]
    refine ⟨trivial, fun h => ?_, fun h => ⟨?_, ?_⟩⟩
    · unfold fRoads
      have h : fFine p = false := by simpa using h
      rw [h]
      exact ⟨rfl, rfl, trivial⟩
    · have h : fFine p = true := by simpa using h
      exact few_lines (fine_few h)
    · unfold fRoads
      have h : fFine p = true := by simpa using h
      rw [h]
      exact ⟨rfl, rfl, trivial⟩

theorem v39 : bodyVC (ctxOf tab [(64, c64)]) Tryz.f39 c39 noAnn (()) = (
True ∧
True ∧
True ∧
True ∧
True ∧
(((((((List.replicate (6 : Nat) ([], (0 : Int), (0 : Int))).set (0 : Nat) ([(87 : UInt8)], (4 : Int), (0 : Int))).set (1 : Nat) ([(65 : UInt8)], (1 : Int), (20 : Int))).set (2 : Nat)
([(80 : UInt8)], (2 : Int), (10 : Int))).set
(3 : Nat) ([(66 : UInt8)], (1 : Int), (20 : Int))).set
(4 : Nat) ([(67 : UInt8)], (1 : Int), (30 : Int))).set
(5 : Nat) ([(69 : UInt8)], (4 : Int), (0 : Int)),
(((((List.replicate (5 : Nat) (((0 : Int), (0 : Int)), (0 : Int), (0 : Int))).set (0 : Nat) (((0 : Int), (0 : Int)), (1 : Int), (0 : Int))).set (1 : Nat)
(((1 : Int), (1 : Int)), (2 : Int), (0 : Int))).set
(2 : Nat) (((2 : Int), (1 : Int)), (3 : Int), (0 : Int))).set
(3 : Nat) (((3 : Int), (1 : Int)), (5 : Int), (0 : Int))).set
(4 : Nat) (((2 : Int), (2 : Int)), (4 : Int), (0 : Int)),
(((((List.replicate (5 : Nat) ([], ((0 : Int), (0 : Int)), false)).set (0 : Nat) ([(119 : UInt8)], ((0 : Int), (0 : Int)), false)).set (1 : Nat)
([(97 : UInt8)], ((1 : Int), (1 : Int)), false)).set
(2 : Nat) ([(101 : UInt8)], ((5 : Int), (0 : Int)), false)).set
(3 : Nat) ([(98 : UInt8)], ((3 : Int), (0 : Int)), false)).set
(4 : Nat) ([(99 : UInt8)], ((4 : Int), (0 : Int)), false),
[], (10 : Int), (5 : Int), (15 : Int), (2 : Int), false) =
smallP ∧
True) := by kernel_rfl

theorem ok39 : DOk Tryz.prog 39 c39 :=
  DOk.of' (l := [(64, c64)]) (A := fun _ => noAnn) tabOk ⟨ok64, trivial⟩ Tryz.func39 (by kernel_rfl) (by kernel_rfl) fun x _ hp => by
    obtain ⟨⟩ := x
    rw [v39]
    exact ⟨trivial, trivial, trivial, trivial, trivial, rfl, trivial⟩

end YtpnnfimacblhgaaGreat
end Go.Proofs
end

section
set_option maxRecDepth 100000
set_option linter.unusedVariables false
namespace Go.Proofs
open Go Go.Vc

namespace YtpnnfimacblhgaaGreat
abbrev MapPP : Ty := .map PortT PortT
abbrev MapPI : Ty := .map PortT I
abbrev MapIA : Ty := .map I (.pair I I)
abbrev MapII : Ty := .map I I
abbrev NetT : Ty := .pair PlanT (.pair MapPP (.pair MapPI (.pair MapIA MapII)))
abbrev NetD := PlanD × List (PortD × PortD) × List (PortD × Int) × List (Int × Int × Int) × List (Int × Int)

abbrev Clo83 : Ty := .clo 83 (.pair (.ref PlanT) .unit)
abbrev Clo84 : Ty := .clo 84 (.pair (.ref PlanT) .unit)
abbrev Clo85 : Ty := .clo 85 (.pair (.ref PlanT) .unit)

def fLet (n : Int) : Bool := (decide (97 ≤ n) && decide (n ≤ 122)) || (decide (65 ≤ n) && decide (n ≤ 90))

/-! ### Plans -/

def c128 : DCon where
  args := [I]
  out := .data [I]
  pre := fun (x : Int × Unit) => True
  fn := fun (x : Int × Unit) => (fEnds x.1, ())
def c131 : DCon where
  args := [I, I]
  out := .data [I]
  pre := fun (x : Int × Int × Unit) => True
  fn := fun (x : Int × Int × Unit) => (fStop x.1 x.2.1, ())
def c129 : DCon where
  args := [PlanT, PortT]
  out := .data [.bool]
  pre := fun (x : PlanD × PortD × Unit) => True
  fn := fun (x : PlanD × PortD × Unit) => (fHas x.1 x.2.1, ())
def c153 : DCon where
  args := [.int .u8]
  out := .data [.bool]
  pre := fun (x : Int × Unit) => True
  fn := fun (x : Int × Unit) => (fLet x.1, ())
def c127 : DCon where
  args := [.str]
  out := .data [.bool]
  pre := fun (x : Str × Unit) => True
  fn := fun (x : Str × Unit) => (fName x.1, ())
def c81 : DCon where
  args := [PlanT]
  out := .data [.bool]
  pre := fun (x : PlanD × Unit) => True
  fn := fun (x : PlanD × Unit) => (fArgs x.1, ())
def c83 : DCon where
  args := [I, .ref PlanT]
  out := .data [.str]
  pre := fun (x : Int × PlanD × Unit) => InB x.1 x.2.1.1.length
  fn := fun (x : Int × PlanD × Unit) => ((x.2.1.1.getD x.1.toNat zE).1, ())
def c84 : DCon where
  args := [I, .ref PlanT]
  out := .data [.str]
  pre := fun (x : Int × PlanD × Unit) => InB x.1 x.2.1.2.2.1.length
  fn := fun (x : Int × PlanD × Unit) => ((x.2.1.2.2.1.getD x.1.toNat zS).1, ())
def c85 : DCon where
  args := [I, .ref PlanT]
  out := .data [.str]
  pre := fun (x : Int × PlanD × Unit) => InB x.1 x.2.1.2.2.2.1.length
  fn := fun (x : Int × PlanD × Unit) => ((x.2.1.2.2.2.1.getD x.1.toNat zL).1, ())
def elNames (p : PlanD) : List Str := p.1.map fun e => e.1
def sigNames (p : PlanD) : List Str := p.2.2.1.map fun e => e.1
def lineNames (p : PlanD) : List Str := p.2.2.2.1.map fun e => e.1
def c840082 : DCon where
  args := [I, Clo83]
  out := .data [.bool]
  pre := fun (x : Int × (PlanD × Unit) × Unit) => x.1 = (x.2.1.1.1.length : Int)
  fn := fun (x : Int × (PlanD × Unit) × Unit) => (fTwice (elNames x.2.1.1), ())
def c850082 : DCon where
  args := [I, Clo84]
  out := .data [.bool]
  pre := fun (x : Int × (PlanD × Unit) × Unit) => x.1 = (x.2.1.1.2.2.1.length : Int)
  fn := fun (x : Int × (PlanD × Unit) × Unit) => (fTwice (sigNames x.2.1.1), ())
def c860082 : DCon where
  args := [I, Clo85]
  out := .data [.bool]
  pre := fun (x : Int × (PlanD × Unit) × Unit) => x.1 = (x.2.1.1.2.2.2.1.length : Int)
  fn := fun (x : Int × (PlanD × Unit) × Unit) => (fTwice (lineNames x.2.1.1), ())

/-- All joins, both ways. -/
@[irreducible] def fNexts (p : PlanD) : List (PortD × PortD) := p.2.1.flatMap fun j => [(j.1, j.2), (j.2, j.1)]
@[irreducible] def fNexts? (p : PlanD) : List (PortD × PortD) := bif fJoined p then fNexts p else []
def c86 : DCon where
  args := [PlanT]
  out := .data [MapPP, .bool]
  pre := fun (x : PlanD × Unit) => True
  fn := fun (x : PlanD × Unit) => (fNexts? x.1, fJoined x.1, ())
def c87 : DCon where
  args := [PlanT, MapPP]
  out := .data [.bool]
  pre := fun (x : PlanD × List (PortD × PortD) × Unit) => fJoined x.1 = true ∧ x.2.1 = fNexts x.1
  fn := fun (x : PlanD × List (PortD × PortD) × Unit) => (fSignals x.1, ())
/-- Are some tracks adjacent, each to the next? -/
def goRow (m : List (PortD × PortD)) (l : List Int) (out : Int) : Nat → Option Int
  | 0 => some out
  | k + 1 => match goRow m l out k with
    | none => none
    | some o => match mget PortT m (l.getD k 0, o) with
      | none => none
      | some q => bif q.1 == l.getD (k + 1) 0 then some (1 - q.2) else none
def outRow (m : List (PortD × PortD)) (l : List Int) (e : Int) : Bool := match mget PortT m (l.getD 0 0, e) with
  | none => false
  | some q => q.1 == l.getD 1 0
def out0Row (m : List (PortD × PortD)) (l : List Int) : Int := bif outRow m l 0 then 0 else bif outRow m l 1 then 1 else -1
@[irreducible] def fRow (m : List (PortD × PortD)) (l : List Int) : Bool :=
  bif decide (l.length < 2) then true else bif decide (out0Row m l < 0) then false else (goRow m l (out0Row m l) (l.length - 1)).isSome
def smallEnds (m : List (PortD × PortD)) : Prop := ∀ x ∈ m, 0 ≤ x.2.2 ∧ x.2.2 ≤ 3
def c130 : DCon where
  args := [.list I, MapPP]
  out := .data [.bool]
  pre := fun (x : List Int × List (PortD × PortD) × Unit) => smallEnds x.2.1
  fn := fun (x : List Int × List (PortD × PortD) × Unit) => (fRow x.2.1 x.1, ())
def c88 : DCon where
  args := [PlanT, MapPP]
  out := .data [.bool]
  pre := fun (x : PlanD × List (PortD × PortD) × Unit) => fJoined x.1 = true ∧ x.2.1 = fNexts x.1
  fn := fun (x : PlanD × List (PortD × PortD) × Unit) => (fLines x.1, ())
def c89 : DCon where
  args := [PlanT]
  out := .data [.bool]
  pre := fun (x : PlanD × Unit) => fNums x.1 = true ∧ fSignals x.1 = true
  fn := fun (x : PlanD × Unit) => (fLong x.1, ())
def c51 : DCon where
  args := [PlanT]
  out := .data [I]
  pre := fun (x : PlanD × Unit) => True
  fn := fun (x : PlanD × Unit) => (fCheck x.1, ())

end YtpnnfimacblhgaaGreat
end Go.Proofs
end

section
set_option maxRecDepth 100000
set_option linter.unusedVariables false
namespace Go.Proofs
open Go Go.Vc

namespace YtpnnfimacblhgaaGreat

/-- A loop that fills a map. -/
def mapLoop (n : Nat) (ok : Nat → Prop) (slot id : Nat) (a b : Ty) (m : Nat → List (a.den × b.den)) (keep keepB : List Nat) : LA where
  σ := Nat
  ok := fun k => k ≤ n ∧ ok k
  mu := fun k => n - k
  sl := fun k => [(slot, .one (.dat I (k : Int)))]
  bl := fun k => [(id, .map false a b (m k) none)]
  keep := keep
  keepB := keepB

def a131 (x : Int × Int × Unit) : Ann := loopAnn [(5, fun _ => {
  σ := Nat
  ok := fun k => k ≤ 60 ∧ noneOf (stopDone x.1 x.2.1) k
  mu := fun k => 60 - k
  sl := fun k => [(0, .one (.dat I (x.1 - x.2.1 * ((k : Int) + 1)))), (5, .one (.dat I (stopUp x.1 x.2.1 k)))]
  bl := fun _ => []
  keep := [1]
  keepB := [] })]
def from1 (p : Nat → Prop) (k : Nat) : Prop := 1 ≤ k ∧ p k
def a127 (x : Str × Unit) : Ann := loopAnn [(4, fun _ => upLoop x.1.length (from1 (allOf (fNameAt x.1))) 3 [0] [])]
def a81 (x : PlanD × Unit) : Ann := loopAnn [(4, fun _ => upLoop x.1.1.length (allT fElemOk x.1.1) 56 [1, 54, 55] [1]),
  (15, fun _ => upLoop x.1.2.2.1.length (allT sigName x.1.2.2.1) 91 [1, 89, 90] [1]),
  (21, fun _ => upLoop x.1.2.2.2.1.length (allT lineName x.1.2.2.2.1) 103 [101, 102] [])]
def seenUp (l : List Str) (k : Nat) : List (Str × Bool) := (l.take k).map fun s => (s, true)
def onceUp (l : List Str) (k : Nat) : Prop := noneOf (fun i => anyTo (sameText l i) i) k
def twiceLoop (l : List Str) : LA := mapLoop l.length (onceUp l) 9 7 .str .bool (seenUp l) [1, 5, 8] []
def a840082 (x : Int × (PlanD × Unit) × Unit) : Ann := loopAnn [(3, fun _ => twiceLoop (elNames x.2.1.1))]
def a850082 (x : Int × (PlanD × Unit) × Unit) : Ann := loopAnn [(3, fun _ => twiceLoop (sigNames x.2.1.1))]
def a860082 (x : Int × (PlanD × Unit) × Unit) : Ann := loopAnn [(3, fun _ => twiceLoop (lineNames x.2.1.1))]

def nextsUp (p : PlanD) (k : Nat) : List (PortD × PortD) := (p.2.1.take k).flatMap fun j => [(j.1, j.2), (j.2, j.1)]
def endsUp (p : PlanD) (k : Nat) : Prop := allTo (endOk p) (2 * k) = true
def a86 (x : PlanD × Unit) : Ann := loopAnn [(3, fun _ => mapLoop x.1.2.1.length (endsUp x.1) 19 15 PortT PortT (nextsUp x.1) [1, 4, 17, 18] [1]),
  (12, fun _ => upLoop x.1.1.length (allOf (gateOk x.1)) 76 [1, 4, 74, 75] [1, 15])]
def atsUp (p : PlanD) (k : Nat) : List (PortD × Bool) := (p.2.2.1.take k).map fun s => (s.2.1, true)
def a87 (x : PlanD × List (PortD × PortD) × Unit) : Ann := loopAnn [(3, fun _ => mapLoop x.1.2.2.1.length (allOf (sigOk x.1)) 17 13 PortT .bool (atsUp x.1) [1, 2, 5, 15, 16] [2]),
  (16, fun _ => upLoop x.1.1.length (allOf (gateSig x.1)) 72 [5, 70, 71] [13])]
def outDn (m : List (PortD × PortD)) (l : List Int) : Nat → Int
  | 0 => -1
  | 1 => bif outRow m l 1 then 1 else -1
  | _ => out0Row m l
def a130 (x : List Int × List (PortD × PortD) × Unit) : Ann := loopAnn [(5, fun _ => {
    σ := Nat
    ok := fun k => k ≤ 2
    mu := fun k => 2 - k
    sl := fun k => [(6, .one (.dat I (1 - (k : Int)))), (5, .one (.dat I (outDn x.2.1 x.1 k)))]
    bl := fun _ => []
    keep := [0, 1]
    keepB := [] }),
  (13, fun _ => {
    σ := Nat × Int
    ok := fun s => s.1 < x.1.length ∧ goRow x.2.1 x.1 (out0Row x.2.1 x.1) s.1 = some s.2
    mu := fun s => x.1.length - s.1
    sl := fun s => [(9, .one (.dat I ((s.1 : Int) + 1))), (5, .one (.dat I s.2))]
    bl := fun _ => []
    keep := [0, 1]
    keepB := [] })]
def metUp (p : PlanD) (i k : Nat) : List (Int × Bool) := (metBy p i ++ (p.2.2.2.1.getD i zL).2.take k).map fun e => (e, true)
def lineUp (p : PlanD) (i k : Nat) : Prop := allOf (lineNew p i) k ∧ allT (isTrack p) (p.2.2.2.1.getD i zL).2 k
def a88 (x : PlanD × List (PortD × PortD) × Unit) : Ann := loopAnn [(3, fun _ => mapLoop x.1.2.2.2.1.length (allOf (lineOk x.1)) 14 10 I .bool (fun k => metUp x.1 k 0) [1, 2, 5, 12, 13] [2]),
  (8, fun S => mapLoop (x.1.2.2.2.1.getD (slotI S 14).toNat zL).2.length (lineUp x.1 (slotI S 14).toNat) 25 10 I .bool (metUp x.1 (slotI S 14).toNat) [1, 2, 5, 7, 12, 13, 14, 23, 24] [2, 7])]
def a89 (x : PlanD × Unit) : Ann := loopAnn [(4, fun _ => upLoop x.1.2.2.1.length (allT (sigLong x.1) x.1.2.2.1) 22 [1, 20, 21] [1]),
  (11, fun _ => upLoop x.1.1.length (allT (elemLong x.1) x.1.1) 47 [1, 45, 46] [1])]

end YtpnnfimacblhgaaGreat
end Go.Proofs
end

section
set_option maxRecDepth 100000
set_option linter.unusedVariables false
set_option linter.unusedSimpArgs false
namespace Go.Proofs
open Go Go.Vc
namespace YtpnnfimacblhgaaGreat

/-! ### Maps -/

theorem portKey : Ty.isKey PortT = true := rfl
theorem intKey : Ty.isKey I = true := rfl
theorem strKey : Ty.isKey .str = true := rfl

theorem keqP (a b : PortD) : Ty.keq PortT a b = (a == b) := rfl
theorem keqI (a b : Int) : Ty.keq I a b = (a == b) := rfl
theorem keqS (a b : Str) : Ty.keq .str a b = (a == b) := rfl

theorem mget_isSome (a : Ty) {β : Type} : ∀ (m : List (a.den × β)) (k : a.den), (mget a m k).isSome = m.any fun x => a.keq k x.1
  | [], k => by simp [mget]
  | x :: m, k => by
    simp only [mget, List.any_cons, ← mget_isSome a m k]
    cases a.keq k x.1 <;> rfl

theorem mget_seen {α : Type} (a : Ty) (f : α → a.den) : ∀ (xs : List α) (k : a.den), (mget a (xs.map fun x => (f x, true)) k).getD false = xs.any fun x => a.keq k (f x)
  | [], k => by simp [mget]
  | x :: m, k => by
    simp only [List.map_cons, mget, List.any_cons, ← mget_seen a f m k]
    cases a.keq k (f x) <;> rfl

theorem mput_new {a : Ty} (ha : a.isKey = true) {β : Type} {m : List (a.den × β)} {k : a.den} (h : (mget a m k).isSome = false) (v : β) : mput a m k v = m ++ [(k, v)] := by
  rcases mfind ha m k with ⟨_, h2, _⟩ | ⟨v0, h1, _⟩
  · exact h2 v
  · rw [h1] at h; cases h

theorem anyTo_take {α : Type} [BEq α] (d : α) (q : α → Bool) (xs : List α) : ∀ (n : Nat), n ≤ xs.length → anyTo (fun i => q (xs.getD i d)) n = (xs.take n).any q
  | 0, _ => by simp [anyTo]
  | n + 1, h => by
    show (anyTo (fun i => q (xs.getD i d)) n || q (xs.getD n d)) = _
    rw [anyTo_take d q xs n (by omega), take_succ' d (by omega), List.any_append]
    simp

theorem beqComm {α : Type} [BEq α] [LawfulBEq α] (a b : α) : (a == b) = (b == a) := by
  by_cases h : a = b
  · subst h; rfl
  · rw [beq_eq_false_iff_ne.2 h, beq_eq_false_iff_ne.2 (Ne.symm h)]

/-! ### Names -/

theorem seen_spec (l : List Str) (s : Nat) (hs : s ≤ l.length) (y : Str) : (mget .str (seenUp l s) y).getD false = anyTo (fun k => l.getD k [] == y) s := by
  unfold seenUp
  rw [mget_seen .str (fun s : Str => s), anyTo_take [] (fun x => x == y) l s hs]
  congr 1
  funext x
  exact beqComm y x

theorem seen_put (l : List Str) (s : Nat) (hs : s < l.length) (h : (mget .str (seenUp l s) (l.getD s [])).getD false = false) : mput .str (seenUp l s) (l.getD s []) true = seenUp l (s + 1) := by
  have h1 : (mget .str (seenUp l s) (l.getD s [])).isSome = false := by
    unfold seenUp at h ⊢
    rw [mget_seen .str (fun s : Str => s)] at h
    rw [mget_isSome, List.any_map]
    exact h
  rw [mput_new strKey h1]
  unfold seenUp
  rw [map_succ _ [] hs]

/-! ### Joins -/

theorem next_get (p : PlanD) (x : PortD) : mget PortT (fNexts p) x = bif (fNext p x).2 then some (fNext p x).1 else none := by
  unfold fNexts fNext
  generalize p.2.1 = l
  induction l with
  | nil => simp [mget, nextOf]
  | cons j l ih =>
    simp only [List.flatMap_cons, List.cons_append, List.nil_append, mget, List.find?_cons, keqP]
    rw [beqComm x j.1, beqComm x j.2]
    cases h1 : (j.1 == x) with
    | true => simp [nextOf, h1]
    | false =>
      cases h2 : (j.2 == x) with
      | true => simp [nextOf, h1]
      | false => simpa using ih

theorem ends_take (p : PlanD) (k : Nat) (hk : k ≤ p.2.1.length) : (joinEnds p).take (2 * k) = (p.2.1.take k).flatMap fun j => [j.1, j.2] := by
  unfold joinEnds
  generalize p.2.1 = l at hk ⊢
  induction l generalizing k with
  | nil => simp
  | cons j l ih =>
    cases k with
    | zero => simp
    | succ k =>
      rw [show 2 * (k + 1) = 2 * k + 1 + 1 by omega]
      simp only [List.flatMap_cons, List.cons_append, List.nil_append, List.take_succ_cons]
      rw [ih k (by simpa using hk)]

theorem ends_lenQ (p : PlanD) : (joinEnds p).length = 2 * p.2.1.length := by
  unfold joinEnds
  generalize p.2.1 = l
  induction l with
  | nil => rfl
  | cons j l ih => simp only [List.flatMap_cons, List.length_append, ih, List.length_cons, List.length_nil]; omega

theorem ends_get (p : PlanD) (k : Nat) (hk : k < p.2.1.length) : (joinEnds p).getD (2 * k) zP = (p.2.1.getD k zJ).1 ∧ (joinEnds p).getD (2 * k + 1) zP = (p.2.1.getD k zJ).2 := by
  unfold joinEnds
  generalize p.2.1 = l at hk ⊢
  induction l generalizing k with
  | nil => simp at hk
  | cons j l ih =>
    cases k with
    | zero => simp
    | succ k =>
      rw [show 2 * (k + 1) = 2 * k + 1 + 1 by omega]
      simp only [List.flatMap_cons, List.cons_append, List.nil_append, List.getD_cons_succ]
      exact ih k (by simpa using hk)

theorem nexts_any (p : PlanD) (k : Nat) (hk : k ≤ p.2.1.length) (x : PortD) : (mget PortT (nextsUp p k) x).isSome = anyTo (fun i => (joinEnds p).getD i zP == x) (2 * k) := by
  rw [anyTo_take zP (fun y => y == x) (joinEnds p) (2 * k) (by rw [ends_lenQ]; omega), ends_take p k hk, mget_isSome]
  unfold nextsUp
  generalize p.2.1.take k = l
  induction l with
  | nil => rfl
  | cons j l ih =>
    simp only [keqP] at ih
    simp only [List.flatMap_cons, List.cons_append, List.nil_append, List.any_cons, keqP, ih]
    rw [beqComm x j.1, beqComm x j.2]

theorem nexts_full (p : PlanD) (k : Nat) (hk : p.2.1.length ≤ k) : nextsUp p k = fNexts p := by
  unfold nextsUp fNexts
  rw [List.take_of_length_le hk]

theorem joined_eq (p : PlanD) : fJoined p = (allTo (endOk p) (joinEnds p).length && allTo (gateOk p) p.1.length) := by unfold fJoined; rfl

theorem joined_ends {p : PlanD} (h : fJoined p = true) {j : JoinD} (hj : j ∈ p.2.1) : fHas p j.1 = true ∧ fHas p j.2 = true := by
  rw [joined_eq, Bool.and_eq_true] at h
  have h1 := allTo_iff.1 h.1
  obtain ⟨k, hk, rfl⟩ := List.mem_iff_getElem.1 hj
  have e := ends_get p k hk
  rw [getD_at zJ hk] at e
  have a := h1 (2 * k) (by rw [ends_lenQ]; omega)
  have b := h1 (2 * k + 1) (by rw [ends_lenQ]; omega)
  unfold endOk at a b
  rw [e.1, Bool.and_eq_true] at a
  rw [e.2, Bool.and_eq_true] at b
  exact ⟨a.1, b.1⟩

theorem next_hasQ {p : PlanD} (h : fJoined p = true) {x q : PortD} (hq : mget PortT (fNexts p) x = some q) : fHas p q = true := by
  have hm := mem_of_mget portKey hq
  unfold fNexts at hm
  obtain ⟨j, hj, hm⟩ := List.mem_flatMap.1 hm
  obtain ⟨h1, h2⟩ := joined_ends h hj
  simp only [List.mem_cons, Prod.mk.injEq, List.not_mem_nil, or_false] at hm
  rcases hm with ⟨_, rfl⟩ | ⟨_, rfl⟩
  · exact h2
  · exact h1

theorem has_factsQ {p : PlanD} {x : PortD} (h : fHas p x = true) : 0 ≤ x.1 ∧ x.1 < p.1.length ∧ 0 ≤ x.2 ∧ x.2 ≤ 3 ∧ fKind p x.1 = (p.1.getD x.1.toNat zE).2.1 := by
  unfold fHas at h
  simp only [Bool.and_eq_true, decide_eq_true_eq] at h
  obtain ⟨h1, h2, h3, h4⟩ := h
  have hE : fEnds (fKind p x.1) ≤ 4 := by
    unfold fEnds
    generalize fKind p x.1 = k
    cases k == 1 <;> cases k == 2 <;> cases k == 3 <;> cases k == 4 <;> decide
  refine ⟨h1, h2, h3, by omega, ?_⟩
  unfold fKind
  rw [decide_eq_false (by omega), decide_eq_false (by omega)]
  rfl

theorem nexts_small {p : PlanD} (h : fJoined p = true) : smallEnds (fNexts p) := fun x hx => by
  unfold fNexts at hx
  obtain ⟨j, hj, hm⟩ := List.mem_flatMap.1 hx
  obtain ⟨h1, h2⟩ := joined_ends h hj
  simp only [List.mem_cons, List.not_mem_nil, or_false] at hm
  rcases hm with rfl | rfl
  · have := has_factsQ h2; exact ⟨this.2.2.1, this.2.2.2.1⟩
  · have := has_factsQ h1; exact ⟨this.2.2.1, this.2.2.2.1⟩

/-! ### Signals -/

theorem reads_at (p : PlanD) (i : Nat) (hi : i < p.2.2.1.length) : (fReads p (p.2.2.1.getD i zS).2.1 == (i : Int)) = !anyTo (readOf p (p.2.2.1.getD i zS).2.1) i := by
  unfold fReads
  have hr : readOf p (p.2.2.1.getD i zS).2.1 i = true := by unfold readOf; simp
  show (idxOr (firstTo (readOf p (p.2.2.1.getD i zS).2.1) p.2.2.1.length) == (i : Int)) = _
  cases h : anyTo (readOf p (p.2.2.1.getD i zS).2.1) i with
  | false =>
    rw [firstTo_at hi h hr]
    simp [idxOr]
  | true =>
    rw [Bool.not_true, beq_eq_false_iff_ne]
    intro e
    cases hf : firstTo (readOf p (p.2.2.1.getD i zS).2.1) p.2.2.1.length with
    | none => rw [hf] at e; simp [idxOr] at e
    | some j =>
      rw [hf] at e
      have e : (j : Int) = i := by simpa [idxOr] using e
      have e : j = i := by omega
      subst e
      unfold firstTo at hf
      rw [List.find?_range_eq_some] at hf
      have : anyTo (readOf p (p.2.2.1.getD j zS).2.1) j = false := anyTo_none.2 fun k hk => by simpa using hf.2.2 k hk
      rw [this] at h; cases h

theorem ats_spec (p : PlanD) (k : Nat) (hk : k ≤ p.2.2.1.length) (x : PortD) : (mget PortT (atsUp p k) x).getD false = anyTo (readOf p x) k := by
  unfold atsUp
  rw [mget_seen PortT (fun s : SignalD => s.2.1)]
  have := anyTo_take zS (fun s : SignalD => s.2.1 == x) p.2.2.1 k hk
  show _ = anyTo (fun i => (p.2.2.1.getD i zS).2.1 == x) k
  rw [this]
  congr 1
  funext s
  exact beqComm x s.2.1

theorem ats_put (p : PlanD) (k : Nat) (hk : k < p.2.2.1.length) (h : (mget PortT (atsUp p k) (p.2.2.1.getD k zS).2.1).getD false = false) : mput PortT (atsUp p k) (p.2.2.1.getD k zS).2.1 true = atsUp p (k + 1) := by
  have h1 : (mget PortT (atsUp p k) (p.2.2.1.getD k zS).2.1).isSome = false := by
    unfold atsUp at h ⊢
    rw [mget_seen PortT (fun s : SignalD => s.2.1)] at h
    rw [mget_isSome, List.any_map]
    exact h
  rw [mput_new portKey h1]
  unfold atsUp
  rw [map_succ _ zS hk]

theorem reads_any (p : PlanD) (x : PortD) : decide (0 ≤ fReads p x) = anyTo (readOf p x) p.2.2.1.length := by
  unfold fReads
  show decide (0 ≤ idxOr (firstTo (readOf p x) p.2.2.1.length)) = _
  cases hf : firstTo (readOf p x) p.2.2.1.length with
  | none =>
    have : anyTo (readOf p x) p.2.2.1.length = false := anyTo_none.2 fun k hk => by
      unfold firstTo at hf
      rw [List.find?_eq_none] at hf
      simpa using hf k (List.mem_range.2 hk)
    rw [this]; rfl
  | some j =>
    obtain ⟨h1, h2⟩ := firstTo_some hf
    rw [anyTo_yes h1 h2]
    simp [idxOr]

/-! ### Lines -/

theorem outRow_eq (p : PlanD) (l : List Int) (e : Int) : outRow (fNexts p) l e = outTo p l e := by
  unfold outRow outTo
  rw [next_get]
  cases (fNext p (l.getD 0 0, e)).2 <;> rfl

theorem out0Row_eq (p : PlanD) (l : List Int) : out0Row (fNexts p) l = fOut0 p l := by
  unfold out0Row fOut0
  rw [outRow_eq, outRow_eq]

theorem goRow_eq (p : PlanD) (l : List Int) (out : Int) : ∀ k, goRow (fNexts p) l out k = bif (fEnt p l out k).2.2 then some (fEnt p l out k).2.1 else none
  | 0 => rfl
  | k + 1 => by
    simp only [goRow, fEnt, goRow_eq p l out k]
    cases h : (fEnt p l out k).2.2 with
    | false => rfl
    | true =>
      simp only [cond_true, next_get, entGo, Bool.true_and]
      cases h2 : (fNext p (l.getD k 0, (fEnt p l out k).2.1)).2 with
      | false => rfl
      | true =>
        simp only [cond_true, Bool.true_and]
        cases (fNext p (l.getD k 0, (fEnt p l out k).2.1)).1.1 == l.getD (k + 1) 0 <;> rfl

theorem row_enters (p : PlanD) (l : List Int) (h0 : l.length ≠ 0) (ht : l.all (fun e => fKind p e == 1) = true) : fRow (fNexts p) l = (fEnters p l).2 := by
  unfold fRow fEnters
  rw [decide_eq_false h0, ht, out0Row_eq, goRow_eq]
  simp only [Bool.not_true, Bool.or_self, cond_false]
  by_cases h1 : l.length = 1
  · rw [decide_eq_true h1, decide_eq_true (by omega)]; rfl
  · rw [decide_eq_false h1, decide_eq_false (by omega)]
    simp only [cond_false]
    cases decide (fOut0 p l < 0) with
    | true => rfl
    | false =>
      simp only [cond_false]
      cases (fEnt p l (fOut0 p l) (l.length - 1)).2.2 <;> rfl

end YtpnnfimacblhgaaGreat
end Go.Proofs
end

section
set_option maxRecDepth 100000
set_option linter.unusedVariables false
set_option linter.unusedSimpArgs false
set_option maxHeartbeats 1000000
namespace Go.Proofs
open Go Go.Vc
namespace YtpnnfimacblhgaaGreat

theorem v128 (k : Int) : bodyVC (ctxOf tab []) Tryz.f128 c128 noAnn (k, ()) = (
((k == (1 : Int)) = true → (2 : Int) = fEnds k ∧ True) ∧
((k == (1 : Int)) = false →
((k == (2 : Int)) = true → (3 : Int) = fEnds k ∧ True) ∧
((k == (2 : Int)) = false →
((k == (3 : Int)) = true → (4 : Int) = fEnds k ∧ True) ∧
((k == (3 : Int)) = false → ((k == (4 : Int)) = true → (1 : Int) = fEnds k ∧ True) ∧ ((k == (4 : Int)) = false → (0 : Int) = fEnds k ∧ True))))) := by kernel_rfl

theorem ok128 : DOk Tryz.prog 128 c128 :=
  DOk.of' (l := []) (A := fun _ => noAnn) tabOk trivial Tryz.func128 (by kernel_rfl) (by kernel_rfl) fun x _ hp => by
    obtain ⟨k, u⟩ := x
    show bodyVC (ctxOf tab []) Tryz.f128 c128 noAnn (k, ())
    rw [v128]
    unfold fEnds
    cases k == 1 <;> cases k == 2 <;> cases k == 3 <;> cases k == 4 <;> simp

theorem v129 (p : PlanD) (x : Int × Int) : bodyVC (ctxOf tab [(128, c128)]) Tryz.f129 c129 noAnn (p, x, ()) = (
lett (bif bif decide (x.fst ≥ (0 : Int)) then decide (x.fst < (↑p.fst.length : Int)) else false then decide (x.snd ≥ (0 : Int)) else false) fun (y2 : Bool) =>
lett (fEnds (p.fst.getD x.fst.toNat ([], (0 : Int), (0 : Int))).snd.fst) fun (y3 : Int) =>
(y2 = true → InB x.fst p.fst.length) ∧ (y2 = true → True) ∧ (bif y2 then decide (x.snd < y3) else false) = fHas p x ∧ True) := by kernel_rfl

theorem b129 (p : PlanD) (x : PortD) : bodyVC (ctxOf tab [(128, c128)]) Tryz.f129 c129 noAnn (p, x, ()) := by
  rw [v129]
  refine lett.mk fun y2 e2 => lett.mk fun y3 e3 => ?_
  refine ⟨fun h => ?_, fun _ => trivial, ?_, trivial⟩
  · rw [e2] at h
    by_cases h1 : x.1 ≥ 0
    · by_cases h2 : x.1 < (p.1.length : Int)
      · exact ⟨h1, h2⟩
      · rw [decide_eq_false h2] at h; cases hb : decide (x.1 ≥ 0) <;> rw [hb] at h <;> cases h
    · rw [decide_eq_false h1] at h; cases h
  · have hE : y2 = true → y3 = fEnds (fKind p x.1) := fun h => by
      rw [e2] at h
      rw [e3]
      unfold fKind
      by_cases h1 : x.1 ≥ 0
      · by_cases h2 : x.1 < (p.1.length : Int)
        · rw [decide_eq_false (show ¬ x.1 < 0 by omega), decide_eq_false (show ¬ (p.1.length : Int) ≤ x.1 by omega)]
          rfl
        · rw [decide_eq_false h2] at h; cases hb : decide (x.1 ≥ 0) <;> rw [hb] at h <;> cases h
      · rw [decide_eq_false h1] at h; cases h
    unfold fHas
    cases hy : y2 with
    | true =>
      rw [hE hy]
      rw [hy, geI, geI] at e2
      generalize decide (x.2 < fEnds (fKind p x.1)) = q
      revert e2
      generalize decide (0 ≤ x.1) = a; generalize decide (x.1 < (p.1.length : Int)) = b; generalize decide (0 ≤ x.2) = c
      cases a <;> cases b <;> cases c <;> simp
    | false =>
      rw [hy, geI, geI] at e2
      revert e2
      generalize decide (0 ≤ x.1) = a; generalize decide (x.1 < (p.1.length : Int)) = b; generalize decide (0 ≤ x.2) = c
      cases a <;> cases b <;> cases c <;> simp

theorem ok129 : DOk Tryz.prog 129 c129 :=
  DOk.of' (l := [(128, c128)]) (A := fun _ => noAnn) tabOk ⟨ok128, trivial⟩ Tryz.func129 (by kernel_rfl) (by kernel_rfl) fun x _ hp => b129 x.1 x.2.1

theorem v153 (c : Int) : bodyVC (ctxOf tab []) Tryz.f153 c153 noAnn (c, ()) = (
(bif bif decide (c ≥ (97 : Int)) then decide (c ≤ (122 : Int)) else false then true else bif decide (c ≥ (65 : Int)) then decide (c ≤ (90 : Int)) else false) = fLet c ∧ True) := by kernel_rfl

theorem ok153 : DOk Tryz.prog 153 c153 :=
  DOk.of' (l := []) (A := fun _ => noAnn) tabOk trivial Tryz.func153 (by kernel_rfl) (by kernel_rfl) fun x _ hp => by
    obtain ⟨c, u⟩ := x
    show bodyVC (ctxOf tab []) Tryz.f153 c153 noAnn (c, ())
    rw [v153, geI, geI]
    unfold fLet
    refine ⟨?_, trivial⟩
    generalize decide (97 ≤ c) = a; generalize decide (c ≤ 122) = b; generalize decide (65 ≤ c) = d; generalize decide (c ≤ 90) = e
    cases a <;> cases b <;> cases d <;> cases e <;> rfl

theorem v127 (s : List UInt8) : bodyVC (ctxOf tab [(153, c153)]) Tryz.f127 c127 (a127 (s, ())) (s, ()) = (
lett (bif s == [] then true else decide ((↑s.length : Int) > (8 : Int))) fun (y1 : Bool) =>
lett (bif y1 then true else !fLet (↑(s.getD (Int.toNat (0 : Int)) (0 : UInt8)).toNat : Int)) fun (y2 : Bool) =>
(y1 = false → InB (0 : Int) s.length) ∧
(y1 = false → True) ∧
(y2 = true → false = fName s ∧ True) ∧
(y2 = false →
(∃ (s03 : Nat), (s03 ≤ s.length ∧ from1 (allOf (fNameAt s)) s03) ∧ (↑s03 : Int) = (1 : Int) ∧ s = s ∧ True) ∧
∀ (s3 : Nat),
lett (decide ((↑s3 : Int) < (↑s.length : Int))) fun (y4 : Bool) =>
lett (!fLet (↑(s.getD (↑s3 : Int).toNat (0 : UInt8)).toNat : Int)) fun (y5 : Bool) =>
lett (decide ((↑(s.getD (↑s3 : Int).toNat (0 : UInt8)).toNat : Int) < (48 : Int))) fun (y6 : Bool) =>
lett (bif y5 then bif y6 then true else decide ((↑(s.getD (↑s3 : Int).toNat (0 : UInt8)).toNat : Int) > (57 : Int)) else false) fun (y7 : Bool) =>
s3 ≤ s.length ∧ from1 (allOf (fNameAt s)) s3 →
(y4 = true →
InB (↑s3 : Int) s.length ∧
True ∧
(y5 = true → InB (↑s3 : Int) s.length) ∧
(y5 = true → y6 = false → InB (↑s3 : Int) s.length) ∧
(y7 = true → false = fName s ∧ True) ∧
(y7 = false →
InR IntKind.i64 ((↑s3 : Int) + (1 : Int)) ∧
∃ (s'8 : Nat), (s'8 ≤ s.length ∧ from1 (allOf (fNameAt s)) s'8) ∧ s.length - s'8 < s.length - s3 ∧ (↑s'8 : Int) = (↑s3 : Int) + (1 : Int) ∧ s = s ∧ True)) ∧
(y4 = false → true = fName s ∧ True))) := by kernel_rfl

theorem letter_eq (c : UInt8) : fLet (c.toNat : Int) = fLetter c := by
  unfold fLet fLetter
  have g : ∀ (k : Nat), decide ((k : Int) ≤ (c.toNat : Int)) = decide (k ≤ c.toNat) := fun k => by
    by_cases h : k ≤ c.toNat
    · rw [decide_eq_true h, decide_eq_true (by omega)]
    · rw [decide_eq_false h, decide_eq_false (by omega)]
  have g' : ∀ (k : Nat), decide ((c.toNat : Int) ≤ (k : Int)) = decide (c.toNat ≤ k) := fun k => by
    by_cases h : c.toNat ≤ k
    · rw [decide_eq_true h, decide_eq_true (by omega)]
    · rw [decide_eq_false h, decide_eq_false (by omega)]
  have a : decide ((97 : Int) ≤ (c.toNat : Int)) = decide (97 ≤ c.toNat) := g 97
  have b : decide ((c.toNat : Int) ≤ (122 : Int)) = decide (c.toNat ≤ 122) := g' 122
  have d : decide ((65 : Int) ≤ (c.toNat : Int)) = decide (65 ≤ c.toNat) := g 65
  have e : decide ((c.toNat : Int) ≤ (90 : Int)) = decide (c.toNat ≤ 90) := g' 90
  rw [a, b, d, e]

theorem b127 (s : Str) (hw : s.length ≤ maxLenI) : bodyVC (ctxOf tab [(153, c153)]) Tryz.f127 c127 (a127 (s, ())) (s, ()) := by
  rw [v127]
  have hN : fName s = (allTo (fNameAt s) s.length && (decide (1 ≤ s.length) && decide (s.length ≤ 8))) := by unfold fName; rfl
  refine lett.mk fun y1 e1 => lett.mk fun y2 e2 => ?_
  simp only [true_and, and_true, eq_self, Int.toNat_natCast]
  have hz : (Int.toNat (0 : Int)) = 0 := rfl
  rw [hz, letter_eq] at e2
  have h8 : decide ((s.length : Int) > 8) = !decide (s.length ≤ 8) := gtN _ 8 8 rfl
  rw [h8] at e1
  have hs0 : y1 = false → 1 ≤ s.length := fun h => by
    rw [h] at e1
    cases s with
    | nil => cases e1
    | cons c s => simp
  have n0 : fNameAt s 0 = fLetter (s.getD 0 0) := by unfold fNameAt; simp
  refine ⟨fun h => ⟨by omega, by have := hs0 h; omega⟩, fun _ => trivial, fun h => ?_, fun h => ?_⟩
  · rw [hN]
    rw [h] at e2
    cases hy : y1 with
    | true =>
      rw [hy] at e1
      cases hs : s with
      | nil => rfl
      | cons c t =>
        rw [hs] at e1
        have : decide ((c :: t).length ≤ 8) = false := by
          have e1 : true = (bif (c :: t) == [] then true else !decide ((c :: t).length ≤ 8)) := e1
          have : ((c :: t) == ([] : Str)) = false := rfl
          rw [this] at e1
          simpa using e1.symm
        rw [this]; simp
    | false =>
      rw [hy] at e2
      have hl : fLetter (s.getD 0 0) = false := by simpa using e2.symm
      rw [allTo_no (k := 0) (by have := hs0 hy; omega) (by rw [n0, hl])]
      rfl
  have hy1 : y1 = false := by
    cases hy : y1 with
    | false => rfl
    | true => rw [h, hy] at e2; cases e2
  have hl : fLetter (s.getD 0 0) = true := by rw [h, hy1] at e2; simpa using e2.symm
  have hs1 := hs0 hy1
  have hlen : decide (s.length ≤ 8) = true := by
    rw [hy1] at e1
    cases hs : s with
    | nil => rw [hs] at hs1; simp at hs1
    | cons c t =>
      rw [hs] at e1
      have e1 : false = (bif (c :: t) == [] then true else !decide ((c :: t).length ≤ 8)) := e1
      have : ((c :: t) == ([] : Str)) = false := rfl
      rw [this] at e1
      simpa using e1.symm
  refine ⟨⟨1, ⟨by omega, by omega, ?_⟩, rfl⟩, fun i => lett.mk fun y4 e4 => lett.mk fun y5 e5 => lett.mk fun y6 e6 => lett.mk fun y7 e7 => ?_⟩
  · exact allTo_succ (k := 0) rfl (by rw [n0, hl])
  rintro ⟨g0, g1, g2⟩
  have g2 : allTo (fNameAt s) i = true := g2
  have hc : fNameAt s i = !y7 := by
    rw [letter_eq] at e5
    rw [ltN _ 48 48 rfl] at e6
    rw [gtN _ 57 57 rfl] at e7
    rw [e7, e6, e5]
    unfold fNameAt fDigit
    have : (i == 0) = false := by rw [beq_eq_false_iff_ne]; omega
    rw [this]
    have key : ∀ l e f : Bool, (l || (!false && (e && f))) = !(bif !l then (bif !e then true else !f) else false) := by decide
    exact key _ _ _
  refine ⟨fun hs => ?_, fun hs => ?_⟩
  · have hs := lt_of_y e4 hs
    refine ⟨⟨by omega, by omega⟩, fun _ => ⟨by omega, by omega⟩, fun _ _ => ⟨by omega, by omega⟩, fun h7 => ?_, fun h7 => ⟨inRlen hs hw, i + 1, ⟨by omega, by omega, ?_⟩, by omega, by omega⟩⟩
    · rw [hN, allTo_no hs (by rw [hc, h7]; rfl)]
      rfl
    · exact allTo_succ g2 (by rw [hc, h7]; rfl)
  · have hs := le_of_y e4 hs
    have : i = s.length := by omega
    subst this
    rw [hN, g2, hlen, decide_eq_true hs1]
    rfl

theorem ok127 : DOk Tryz.prog 127 c127 :=
  DOk.of' (l := [(153, c153)]) (A := a127) tabOk ⟨ok153, trivial⟩ Tryz.func127 (by kernel_rfl) (by kernel_rfl) fun x hw _ => b127 x.1 hw.1

theorem v131 (v : Int) (b : Int) : bodyVC (ctxOf tab []) Tryz.f131 c131 (a131 (v, b, ())) (v, b, ()) = (
lett (bif bif bif decide (v < (0 : Int)) then true else decide (v > (60 : Int)) then true else decide (b < (1 : Int)) then true else decide (b > (10 : Int))) fun (y2 : Bool) =>
(y2 = true → (0 : Int) = fStop v b ∧ True) ∧
(y2 = false →
InR IntKind.i64 (v - b) ∧
(∃ (s03 : Nat), (s03 ≤ (60 : Nat) ∧ noneOf (stopDone v b) s03) ∧ v - b * ((↑s03 : Int) + (1 : Int)) = v - b ∧ stopUp v b s03 = (0 : Int) ∧ b = b ∧ True) ∧
∀ (s3 : Nat),
lett (v - b * ((↑s3 : Int) + (1 : Int))) fun (y4 : Int) =>
lett (stopUp v b s3 + y4) fun (y5 : Int) =>
s3 ≤ (60 : Nat) ∧ noneOf (stopDone v b) s3 →
(decide (y4 > (0 : Int)) = true →
InR IntKind.i64 y5 ∧
InR IntKind.i64 (y4 - b) ∧
∃ (s'6 : Nat),
(s'6 ≤ (60 : Nat) ∧ noneOf (stopDone v b) s'6) ∧ (60 : Nat) - s'6 < (60 : Nat) - s3 ∧ v - b * ((↑s'6 : Int) + (1 : Int)) = y4 - b ∧ stopUp v b s'6 = y5 ∧ b = b ∧ True) ∧
(decide (y4 > (0 : Int)) = false → stopUp v b s3 = fStop v b ∧ True))) := by kernel_rfl

theorem b131 (v : Int) (b : Int) : bodyVC (ctxOf tab []) Tryz.f131 c131 (a131 (v, b, ())) (v, b, ()) := by
  rw [v131]
  refine lett.mk fun y2 e2 => ?_
  simp only [true_and, and_true, eq_self, Int.toNat_natCast]
  have e2 : y2 = !(fIn 0 60 v && fIn 1 10 b) := by
    rw [e2, ltI, gtI, ltI, gtI]
    unfold fIn
    have key : ∀ a b c d : Bool, (bif (bif (bif !a then true else !b) then true else !c) then true else !d) = !((a && b) && (c && d)) := by decide
    exact key _ _ _ _
  refine ⟨fun h => ?_, fun h => ?_⟩
  · rw [e2] at h
    simp only [Bool.not_eq_true'] at h
    unfold fStop
    rw [h]
    rfl
  rw [e2] at h
  simp only [Bool.not_eq_false'] at h
  have hS : fStop v b = stopUp v b (stopAt v b) := by
    unfold fStop
    rw [h]
    rfl
  rw [Bool.and_eq_true] at h
  unfold fIn at h
  rw [Bool.and_eq_true, Bool.and_eq_true] at h
  obtain ⟨⟨h1, h2⟩, h3, h4⟩ := h
  have h1 := of_decide_eq_true h1
  have h2 := of_decide_eq_true h2
  have h3 := of_decide_eq_true h3
  have h4 := of_decide_eq_true h4
  refine ⟨inR64 (by omega) (by omega), ⟨0, ⟨by omega, rfl⟩, by simp, rfl⟩, fun s => lett.mk fun y4 e4 => lett.mk fun y5 e5 => ?_⟩
  rintro ⟨g1, g2⟩
  have g2 : anyTo (stopDone v b) s = false := g2
  have hr := stop_range ⟨h1, h2⟩ h3 s g2
  have hq := stop_small (v := v) h3 s
  refine ⟨fun h => ?_, fun h => ?_⟩
  · have h := of_decide_eq_true h
    refine ⟨inR64 (by omega) (by omega), inR64 (by omega) (by omega), s + 1, ⟨by omega, ?_⟩, by omega, ?_, ?_⟩
    · exact anyTo_succ g2 (decide_eq_false (by omega))
    · have : ((s + 1 : Nat) : Int) = (s : Int) + 1 := by omega
      rw [this, e4, Int.mul_add b ((s : Int) + 1) 1, Int.mul_one]
      omega
    · rw [e5, e4]; rfl
  · have h := of_decide_eq_false h
    rw [hS]
    congr 1
    unfold stopAt
    have hd : stopDone v b s = true := decide_eq_true (by omega)
    show s = (firstTo (stopDone v b) 100).getD 0
    rw [firstTo_at (by omega) g2 hd]
    rfl

theorem ok131 : DOk Tryz.prog 131 c131 :=
  DOk.of' (l := []) (A := a131) tabOk trivial Tryz.func131 (by kernel_rfl) (by kernel_rfl) fun x _ _ => b131 x.1 x.2.1

theorem v83 (i : Int) (p : PlanD) : bodyVC (ctxOf tab []) Tryz.f83 c83 noAnn (i, p, ()) = (
InB i p.fst.length ∧ (p.fst.getD i.toNat ([], (0 : Int), (0 : Int))).fst = (p.fst.getD i.toNat zE).fst ∧ True) := by kernel_rfl
theorem v84 (i : Int) (p : PlanD) : bodyVC (ctxOf tab []) Tryz.f84 c84 noAnn (i, p, ()) = (
InB i p.snd.snd.fst.length ∧ (p.snd.snd.fst.getD i.toNat ([], ((0 : Int), (0 : Int)), false)).fst = (p.snd.snd.fst.getD i.toNat zS).fst ∧ True) := by kernel_rfl
theorem v85 (i : Int) (p : PlanD) : bodyVC (ctxOf tab []) Tryz.f85 c85 noAnn (i, p, ()) = (
InB i p.snd.snd.snd.fst.length ∧ (p.snd.snd.snd.fst.getD i.toNat ([], [])).fst = (p.snd.snd.snd.fst.getD i.toNat zL).fst ∧ True) := by kernel_rfl

theorem ok83 : DOk Tryz.prog 83 c83 :=
  DOk.of' (l := []) (A := fun _ => noAnn) tabOk trivial Tryz.func83 (by kernel_rfl) (by kernel_rfl) fun x _ hp => by
    obtain ⟨i, p, u⟩ := x
    show bodyVC (ctxOf tab []) Tryz.f83 c83 noAnn (i, p, ())
    rw [v83]
    exact ⟨hp, rfl, trivial⟩
theorem ok84 : DOk Tryz.prog 84 c84 :=
  DOk.of' (l := []) (A := fun _ => noAnn) tabOk trivial Tryz.func84 (by kernel_rfl) (by kernel_rfl) fun x _ hp => by
    obtain ⟨i, p, u⟩ := x
    show bodyVC (ctxOf tab []) Tryz.f84 c84 noAnn (i, p, ())
    rw [v84]
    exact ⟨hp, rfl, trivial⟩
theorem ok85 : DOk Tryz.prog 85 c85 :=
  DOk.of' (l := []) (A := fun _ => noAnn) tabOk trivial Tryz.func85 (by kernel_rfl) (by kernel_rfl) fun x _ hp => by
    obtain ⟨i, p, u⟩ := x
    show bodyVC (ctxOf tab []) Tryz.f85 c85 noAnn (i, p, ())
    rw [v85]
    exact ⟨hp, rfl, trivial⟩

/-- One round of the search for a name that stands twice. -/
theorem twice_round (l : List Str) (s : Nat) (hs : s < l.length) (h : onceUp l s) :
    ((mget .str (seenUp l s) (l.getD s [])).getD false = true → fTwice l = true) ∧
    ((mget .str (seenUp l s) (l.getD s [])).getD false = false → onceUp l (s + 1) ∧ seenUp l (s + 1) = mput .str (seenUp l s) (l.getD s []) true) := by
  have e := seen_spec l s (by omega) (l.getD s [])
  have e2 : anyTo (fun k => l.getD k [] == l.getD s []) s = anyTo (sameText l s) s := by
    congr 1
    funext k
    exact beqComm _ _
  rw [e2] at e
  refine ⟨fun hy => ?_, fun hy => ⟨?_, (seen_put l s hs hy).symm⟩⟩
  · unfold fTwice
    exact anyTo_yes (p := fun i => anyTo (fun k => l.getD i [] == l.getD k []) i) hs (by rw [e] at hy; exact hy)
  · exact anyTo_succ (p := fun i => anyTo (sameText l i) i) h (by rw [e] at hy; exact hy)

theorem twice_end (l : List Str) (s : Nat) (hs : l.length ≤ s) (hs' : s ≤ l.length) (h : onceUp l s) : fTwice l = false := by
  have : s = l.length := by omega
  subst this
  unfold fTwice
  exact h

theorem v840082 (n : Int) (f : (PlanD) × Unit) : bodyVC (ctxOf tab [(83, c83)]) Tryz.f82 c840082 (a840082 (n, f, ())) (n, f, ()) = (
(∃ (s02 : Nat), (s02 ≤ (elNames f.fst).length ∧ onceUp (elNames f.fst) s02) ∧ (↑s02 : Int) = (0 : Int) ∧ f = f ∧ n = n ∧ seenUp (elNames f.fst) s02 = [] ∧ True) ∧
∀ (s2 : Nat),
lett (f.fst.fst.getD (↑s2 : Int).toNat zE).fst fun (y3 : Str) =>
lett ((mget Ty.str (seenUp (elNames f.fst) s2) y3).getD false) fun (y4 : Bool) =>
s2 ≤ (elNames f.fst).length ∧ onceUp (elNames f.fst) s2 →
(decide ((↑s2 : Int) < n) = true →
InB (↑s2 : Int) f.fst.fst.length ∧
(y4 = true → true = fTwice (elNames f.fst) ∧ True) ∧
(y4 = false →
InB (↑s2 : Int) f.fst.fst.length ∧
InR IntKind.i64 ((↑s2 : Int) + (1 : Int)) ∧
∃ (s'5 : Nat),
(s'5 ≤ (elNames f.fst).length ∧ onceUp (elNames f.fst) s'5) ∧
(elNames f.fst).length - s'5 < (elNames f.fst).length - s2 ∧
(↑s'5 : Int) = (↑s2 : Int) + (1 : Int) ∧ f = f ∧ n = n ∧ seenUp (elNames f.fst) s'5 = mput Ty.str (seenUp (elNames f.fst) s2) y3 true ∧ True)) ∧
(decide ((↑s2 : Int) < n) = false → false = fTwice (elNames f.fst) ∧ True)) := by kernel_rfl
theorem v850082 (n : Int) (f : (PlanD) × Unit) : bodyVC (ctxOf tab [(84, c84)]) Tryz.f82 c850082 (a850082 (n, f, ())) (n, f, ()) = (
(∃ (s02 : Nat), (s02 ≤ (sigNames f.fst).length ∧ onceUp (sigNames f.fst) s02) ∧ (↑s02 : Int) = (0 : Int) ∧ f = f ∧ n = n ∧ seenUp (sigNames f.fst) s02 = [] ∧ True) ∧
∀ (s2 : Nat),
lett (f.fst.snd.snd.fst.getD (↑s2 : Int).toNat zS).fst fun (y3 : Str) =>
lett ((mget Ty.str (seenUp (sigNames f.fst) s2) y3).getD false) fun (y4 : Bool) =>
s2 ≤ (sigNames f.fst).length ∧ onceUp (sigNames f.fst) s2 →
(decide ((↑s2 : Int) < n) = true →
InB (↑s2 : Int) f.fst.snd.snd.fst.length ∧
(y4 = true → true = fTwice (sigNames f.fst) ∧ True) ∧
(y4 = false →
InB (↑s2 : Int) f.fst.snd.snd.fst.length ∧
InR IntKind.i64 ((↑s2 : Int) + (1 : Int)) ∧
∃ (s'5 : Nat),
(s'5 ≤ (sigNames f.fst).length ∧ onceUp (sigNames f.fst) s'5) ∧
(sigNames f.fst).length - s'5 < (sigNames f.fst).length - s2 ∧
(↑s'5 : Int) = (↑s2 : Int) + (1 : Int) ∧ f = f ∧ n = n ∧ seenUp (sigNames f.fst) s'5 = mput Ty.str (seenUp (sigNames f.fst) s2) y3 true ∧ True)) ∧
(decide ((↑s2 : Int) < n) = false → false = fTwice (sigNames f.fst) ∧ True)) := by kernel_rfl
theorem v860082 (n : Int) (f : (PlanD) × Unit) : bodyVC (ctxOf tab [(85, c85)]) Tryz.f82 c860082 (a860082 (n, f, ())) (n, f, ()) = (
(∃ (s02 : Nat), (s02 ≤ (lineNames f.fst).length ∧ onceUp (lineNames f.fst) s02) ∧ (↑s02 : Int) = (0 : Int) ∧ f = f ∧ n = n ∧ seenUp (lineNames f.fst) s02 = [] ∧ True) ∧
∀ (s2 : Nat),
lett (f.fst.snd.snd.snd.fst.getD (↑s2 : Int).toNat zL).fst fun (y3 : Str) =>
lett ((mget Ty.str (seenUp (lineNames f.fst) s2) y3).getD false) fun (y4 : Bool) =>
s2 ≤ (lineNames f.fst).length ∧ onceUp (lineNames f.fst) s2 →
(decide ((↑s2 : Int) < n) = true →
InB (↑s2 : Int) f.fst.snd.snd.snd.fst.length ∧
(y4 = true → true = fTwice (lineNames f.fst) ∧ True) ∧
(y4 = false →
InB (↑s2 : Int) f.fst.snd.snd.snd.fst.length ∧
InR IntKind.i64 ((↑s2 : Int) + (1 : Int)) ∧
∃ (s'5 : Nat),
(s'5 ≤ (lineNames f.fst).length ∧ onceUp (lineNames f.fst) s'5) ∧
(lineNames f.fst).length - s'5 < (lineNames f.fst).length - s2 ∧
(↑s'5 : Int) = (↑s2 : Int) + (1 : Int) ∧ f = f ∧ n = n ∧ seenUp (lineNames f.fst) s'5 = mput Ty.str (seenUp (lineNames f.fst) s2) y3 true ∧ True)) ∧
(decide ((↑s2 : Int) < n) = false → false = fTwice (lineNames f.fst) ∧ True)) := by kernel_rfl

theorem b840082 (n : Int) (f : PlanD × Unit) (hp : n = (f.1.1.length : Int)) (hl : f.1.1.length ≤ maxLenI) : bodyVC (ctxOf tab [(83, c83)]) Tryz.f82 c840082 (a840082 (n, f, ())) (n, f, ()) := by
  have hlen : (elNames f.1).length = f.1.1.length := by simp [elNames]
  rw [v840082]
  simp only [true_and, and_true, eq_self, Int.toNat_natCast]
  refine ⟨⟨0, ⟨by omega, rfl⟩, rfl, rfl⟩, fun s => lett.mk fun y3 e3 => lett.mk fun y4 e4 => ?_⟩
  rintro ⟨h1, h2⟩
  refine ⟨fun h => ?_, fun h => ?_⟩
  · have h := of_decide_eq_true h
    have hs : s < (elNames f.1).length := by omega
    have e3 : y3 = (elNames f.1).getD s [] := by
      rw [e3]
      unfold elNames
      rw [getD_at _ (by omega), getD_at _ (by simpa using (by omega : s < f.1.1.length))]
      simp
    rw [e3] at e4
    obtain ⟨k1, k2⟩ := twice_round _ s hs h2
    refine ⟨⟨by omega, by omega⟩, fun hy => (k1 (by rw [← e4, hy])).symm, fun hy => ?_⟩
    obtain ⟨k3, k4⟩ := k2 (by rw [← e4, hy])
    exact ⟨⟨by omega, by omega⟩, inRlen (by omega) hl, s + 1, ⟨by omega, k3⟩, by omega, by omega, by rw [e3]; exact k4⟩
  · have h := of_decide_eq_false h
    rw [twice_end _ s (by omega) h1 h2]
theorem ok840082 : DOk Tryz.prog 82 c840082 :=
  DOk.of' (l := [(83, c83)]) (A := a840082) tabOk ⟨ok83, trivial⟩ Tryz.func82 (by kernel_rfl) (by kernel_rfl) fun x hw hp => b840082 x.1 x.2.1 hp (plan_wf hw.2.1.1).1

theorem b850082 (n : Int) (f : PlanD × Unit) (hp : n = (f.1.2.2.1.length : Int)) (hl : f.1.2.2.1.length ≤ maxLenI) : bodyVC (ctxOf tab [(84, c84)]) Tryz.f82 c850082 (a850082 (n, f, ())) (n, f, ()) := by
  have hlen : (sigNames f.1).length = f.1.2.2.1.length := by simp [sigNames]
  rw [v850082]
  simp only [true_and, and_true, eq_self, Int.toNat_natCast]
  refine ⟨⟨0, ⟨by omega, rfl⟩, rfl, rfl⟩, fun s => lett.mk fun y3 e3 => lett.mk fun y4 e4 => ?_⟩
  rintro ⟨h1, h2⟩
  refine ⟨fun h => ?_, fun h => ?_⟩
  · have h := of_decide_eq_true h
    have hs : s < (sigNames f.1).length := by omega
    have e3 : y3 = (sigNames f.1).getD s [] := by
      rw [e3]
      unfold sigNames
      rw [getD_at _ (by omega), getD_at _ (by simpa using (by omega : s < f.1.2.2.1.length))]
      simp
    rw [e3] at e4
    obtain ⟨k1, k2⟩ := twice_round _ s hs h2
    refine ⟨⟨by omega, by omega⟩, fun hy => (k1 (by rw [← e4, hy])).symm, fun hy => ?_⟩
    obtain ⟨k3, k4⟩ := k2 (by rw [← e4, hy])
    exact ⟨⟨by omega, by omega⟩, inRlen (by omega) hl, s + 1, ⟨by omega, k3⟩, by omega, by omega, by rw [e3]; exact k4⟩
  · have h := of_decide_eq_false h
    rw [twice_end _ s (by omega) h1 h2]
theorem ok850082 : DOk Tryz.prog 82 c850082 :=
  DOk.of' (l := [(84, c84)]) (A := a850082) tabOk ⟨ok84, trivial⟩ Tryz.func82 (by kernel_rfl) (by kernel_rfl) fun x hw hp => b850082 x.1 x.2.1 hp (plan_wf hw.2.1.1).2.2.1

theorem b860082 (n : Int) (f : PlanD × Unit) (hp : n = (f.1.2.2.2.1.length : Int)) (hl : f.1.2.2.2.1.length ≤ maxLenI) : bodyVC (ctxOf tab [(85, c85)]) Tryz.f82 c860082 (a860082 (n, f, ())) (n, f, ()) := by
  have hlen : (lineNames f.1).length = f.1.2.2.2.1.length := by simp [lineNames]
  rw [v860082]
  simp only [true_and, and_true, eq_self, Int.toNat_natCast]
  refine ⟨⟨0, ⟨by omega, rfl⟩, rfl, rfl⟩, fun s => lett.mk fun y3 e3 => lett.mk fun y4 e4 => ?_⟩
  rintro ⟨h1, h2⟩
  refine ⟨fun h => ?_, fun h => ?_⟩
  · have h := of_decide_eq_true h
    have hs : s < (lineNames f.1).length := by omega
    have e3 : y3 = (lineNames f.1).getD s [] := by
      rw [e3]
      unfold lineNames
      rw [getD_at _ (by omega), getD_at _ (by simpa using (by omega : s < f.1.2.2.2.1.length))]
      simp
    rw [e3] at e4
    obtain ⟨k1, k2⟩ := twice_round _ s hs h2
    refine ⟨⟨by omega, by omega⟩, fun hy => (k1 (by rw [← e4, hy])).symm, fun hy => ?_⟩
    obtain ⟨k3, k4⟩ := k2 (by rw [← e4, hy])
    exact ⟨⟨by omega, by omega⟩, inRlen (by omega) hl, s + 1, ⟨by omega, k3⟩, by omega, by omega, by rw [e3]; exact k4⟩
  · have h := of_decide_eq_false h
    rw [twice_end _ s (by omega) h1 h2]
theorem ok860082 : DOk Tryz.prog 82 c860082 :=
  DOk.of' (l := [(85, c85)]) (A := a860082) tabOk ⟨ok85, trivial⟩ Tryz.func82 (by kernel_rfl) (by kernel_rfl) fun x hw hp => b860082 x.1 x.2.1 hp (plan_wf hw.2.1.1).2.2.2

end YtpnnfimacblhgaaGreat
end Go.Proofs
end

section
set_option maxRecDepth 100000
set_option linter.unusedVariables false
set_option linter.unusedSimpArgs false
set_option maxHeartbeats 2000000
namespace Go.Proofs
open Go Go.Vc
namespace YtpnnfimacblhgaaGreat

theorem v81 (p : PlanD) : bodyVC (ctxOf tab [(127, c127), (128, c128)]) Tryz.f81 c81 (a81 (p, ())) (p, ()) = (
lett
(bif
bif
bif
bif
bif
bif
bif bif decide (p.snd.snd.snd.snd.fst < (1 : Int)) then true else decide (p.snd.snd.snd.snd.fst > (60 : Int)) then true
else decide (p.snd.snd.snd.snd.snd.fst < (1 : Int)) then
true
else decide (p.snd.snd.snd.snd.snd.fst > (10 : Int)) then
true
else decide (p.snd.snd.snd.snd.snd.snd.fst < (1 : Int)) then
true
else decide (p.snd.snd.snd.snd.snd.snd.fst > (4000 : Int)) then
true
else decide (p.snd.snd.snd.snd.snd.snd.snd.fst < (1 : Int)) then
true
else decide (p.snd.snd.snd.snd.snd.snd.snd.fst > (20 : Int)) then
true
else (↑p.fst.length : Int) == (0 : Int))
fun (y1 : Bool) =>
(y1 = true → false = fArgs p ∧ True) ∧
(y1 = false →
(∃ (s02 : Nat),
(s02 ≤ p.fst.length ∧ allT fElemOk p.fst s02) ∧
(↑s02 : Int) = (0 : Int) ∧
p.fst = p.fst ∧
(↑p.fst.length : Int) = (↑p.fst.length : Int) ∧
keepP p (True)) ∧
∀ (s2 : Nat),
lett (decide ((↑s2 : Int) < (↑p.fst.length : Int))) fun (y3 : Bool) =>
lett (p.fst.getD (↑s2 : Int).toNat ([], (0 : Int), (0 : Int))) fun (y4 : List UInt8 × Int × Int) =>
lett (bif !fName y4.fst then true else fEnds y4.snd.fst == (0 : Int)) fun (y5 : Bool) =>
lett (bif decide (y4.snd.snd < (1 : Int)) then true else decide (y4.snd.snd > (4000 : Int))) fun (y6 : Bool) =>
s2 ≤ p.fst.length ∧ allT fElemOk p.fst s2 →
(y3 = true →
InB (↑s2 : Int) p.fst.length ∧
True ∧
((!fName y4.fst) = false → True) ∧
(y5 = true → false = fArgs p ∧ True) ∧
(y5 = false →
((y4.snd.fst == (4 : Int)) = true →
((y4.snd.snd != (0 : Int)) = true → false = fArgs p ∧ True) ∧
((y4.snd.snd != (0 : Int)) = false →
InR IntKind.i64 ((↑s2 : Int) + (1 : Int)) ∧
∃ (s'7 : Nat),
(s'7 ≤ p.fst.length ∧ allT fElemOk p.fst s'7) ∧
p.fst.length - s'7 < p.fst.length - s2 ∧
(↑s'7 : Int) = (↑s2 : Int) + (1 : Int) ∧
p.fst = p.fst ∧
(↑p.fst.length : Int) = (↑p.fst.length : Int) ∧
keepP p (True))) ∧
((y4.snd.fst == (4 : Int)) = false →
(y6 = true → false = fArgs p ∧ True) ∧
(y6 = false →
InR IntKind.i64 ((↑s2 : Int) + (1 : Int)) ∧
∃ (s'7 : Nat),
(s'7 ≤ p.fst.length ∧ allT fElemOk p.fst s'7) ∧
p.fst.length - s'7 < p.fst.length - s2 ∧
(↑s'7 : Int) = (↑s2 : Int) + (1 : Int) ∧
p.fst = p.fst ∧
(↑p.fst.length : Int) = (↑p.fst.length : Int) ∧
keepP p (True))))) ∧
(y3 = false →
(∃ (s07 : Nat),
(s07 ≤ p.snd.snd.fst.length ∧ allT sigName p.snd.snd.fst s07) ∧
(↑s07 : Int) = (0 : Int) ∧
p.snd.snd.fst = p.snd.snd.fst ∧
(↑p.snd.snd.fst.length : Int) = (↑p.snd.snd.fst.length : Int) ∧
keepP p (True)) ∧
∀ (s7 : Nat),
lett (decide ((↑s7 : Int) < (↑p.snd.snd.fst.length : Int))) fun (y8 : Bool) =>
lett (!fName (p.snd.snd.fst.getD (↑s7 : Int).toNat ([], ((0 : Int), (0 : Int)), false)).fst) fun (y9 : Bool) =>
s7 ≤ p.snd.snd.fst.length ∧ allT sigName p.snd.snd.fst s7 →
(y8 = true →
InB (↑s7 : Int) p.snd.snd.fst.length ∧
True ∧
(y9 = true → false = fArgs p ∧ True) ∧
(y9 = false →
InR IntKind.i64 ((↑s7 : Int) + (1 : Int)) ∧
∃ (s'10 : Nat),
(s'10 ≤ p.snd.snd.fst.length ∧ allT sigName p.snd.snd.fst s'10) ∧
p.snd.snd.fst.length - s'10 < p.snd.snd.fst.length - s7 ∧
(↑s'10 : Int) = (↑s7 : Int) + (1 : Int) ∧
p.snd.snd.fst = p.snd.snd.fst ∧
(↑p.snd.snd.fst.length : Int) = (↑p.snd.snd.fst.length : Int) ∧
keepP p (True))) ∧
(y8 = false →
(∃ (s010 : Nat),
(s010 ≤ p.snd.snd.snd.fst.length ∧ allT lineName p.snd.snd.snd.fst s010) ∧
(↑s010 : Int) = (0 : Int) ∧ p.snd.snd.snd.fst = p.snd.snd.snd.fst ∧ (↑p.snd.snd.snd.fst.length : Int) = (↑p.snd.snd.snd.fst.length : Int) ∧ True) ∧
∀ (s10 : Nat),
lett (decide ((↑s10 : Int) < (↑p.snd.snd.snd.fst.length : Int))) fun (y11 : Bool) =>
lett (!fName (p.snd.snd.snd.fst.getD (↑s10 : Int).toNat ([], [])).fst) fun (y12 : Bool) =>
s10 ≤ p.snd.snd.snd.fst.length ∧ allT lineName p.snd.snd.snd.fst s10 →
(y11 = true →
InB (↑s10 : Int) p.snd.snd.snd.fst.length ∧
True ∧
(y12 = true → false = fArgs p ∧ True) ∧
(y12 = false →
InR IntKind.i64 ((↑s10 : Int) + (1 : Int)) ∧
∃ (s'13 : Nat),
(s'13 ≤ p.snd.snd.snd.fst.length ∧ allT lineName p.snd.snd.snd.fst s'13) ∧
p.snd.snd.snd.fst.length - s'13 < p.snd.snd.snd.fst.length - s10 ∧
(↑s'13 : Int) = (↑s10 : Int) + (1 : Int) ∧
p.snd.snd.snd.fst = p.snd.snd.snd.fst ∧ (↑p.snd.snd.snd.fst.length : Int) = (↑p.snd.snd.snd.fst.length : Int) ∧ True)) ∧
(y11 = false → true = fArgs p ∧ True))))) := by kernel_rfl

theorem b81 (p : PlanD) (hw : planWf p) : bodyVC (ctxOf tab [(127, c127), (128, c128)]) Tryz.f81 c81 (a81 (p, ())) (p, ()) := by
  rw [v81]
  refine lett.mk fun y1 e1 => ?_
  simp only [keepP_eq, true_and, and_true, eq_self, Int.toNat_natCast]
  have hN : fNums p = !y1 := by
    rw [e1, ltI, gtI, ltI, gtI, ltI, gtI, ltI, gtI, eqN' _ 0 0 rfl]
    unfold fNums fIn
    generalize decide (1 ≤ p.2.2.2.2.1) = a1; generalize decide (p.2.2.2.2.1 ≤ 60) = a2
    generalize decide (1 ≤ p.2.2.2.2.2.1) = a3; generalize decide (p.2.2.2.2.2.1 ≤ 10) = a4
    generalize decide (1 ≤ p.2.2.2.2.2.2.1) = a5; generalize decide (p.2.2.2.2.2.2.1 ≤ 4000) = a6
    generalize decide (1 ≤ p.2.2.2.2.2.2.2.1) = a7; generalize decide (p.2.2.2.2.2.2.2.1 ≤ 20) = a8
    generalize decide (p.1.length = 0) = a9
    cases a1 <;> cases a2 <;> cases a3 <;> cases a4 <;> cases a5 <;> cases a6 <;> cases a7 <;> cases a8 <;> cases a9 <;> rfl
  refine ⟨fun h => ?_, fun h => ?_⟩
  · unfold fArgs
    rw [hN, h]
    rfl
  have hA : fArgs p = (p.1.all fElemOk && (p.2.2.1.all sigName && p.2.2.2.1.all lineName)) := by
    unfold fArgs
    rw [hN, h]
    rfl
  rw [hA]
  refine ⟨⟨0, ⟨by omega, rfl⟩, rfl⟩, fun s => lett.mk fun y3 e3 => lett.mk fun y4 e4 => lett.mk fun y5 e5 => lett.mk fun y6 e6 => ?_⟩
  rintro ⟨h1, h2⟩
  have h2 : (p.1.take s).all fElemOk = true := h2
  have e4 : y4 = p.1.getD s zE := e4
  rw [ltI, gtI] at e6
  have hE : fElemOk y4 = (!y5 && bif y4.2.1 == 4 then y4.2.2 == 0 else !y6) := by
    rw [e5, e6]
    unfold fElemOk fIn
    generalize fName y4.1 = a; generalize (fEnds y4.2.1 == 0) = b; generalize (y4.2.1 == 4) = c; generalize (y4.2.2 == 0) = d; generalize decide (1 ≤ y4.2.2) = e; generalize decide (y4.2.2 ≤ 4000) = f
    cases a <;> cases b <;> cases c <;> cases d <;> cases e <;> cases f <;> rfl
  refine ⟨fun h => ?_, fun h => ?_⟩
  · have h := lt_of_y e3 h
    have no : fElemOk y4 = false → false = (p.1.all fElemOk && (p.2.2.1.all sigName && p.2.2.2.1.all lineName)) := fun hf => by
      rw [all_no zE h (by rw [← e4, hf])]; rfl
    have yes : fElemOk y4 = true → ∃ s', (s' ≤ p.1.length ∧ allT fElemOk p.1 s') ∧ p.1.length - s' < p.1.length - s ∧ (s' : Int) = (s : Int) + 1 := fun hf =>
      ⟨s + 1, ⟨by omega, all_succ zE h h2 (by rw [← e4, hf])⟩, by omega, by omega⟩
    refine ⟨⟨by omega, by omega⟩, fun _ => trivial, fun h5 => no (by rw [hE, h5]; rfl), fun h5 => ⟨fun h4 => ⟨fun h6 => no ?_, fun h6 => ⟨inRlen h hw.1, yes ?_⟩⟩, fun h4 => ⟨fun h6 => no ?_, fun h6 => ⟨inRlen h hw.1, yes ?_⟩⟩⟩⟩
    · rw [bneB] at h6
      rw [hE, h5, h4]
      simpa using h6
    · rw [bneB] at h6
      rw [hE, h5, h4]
      simpa using h6
    · rw [hE, h5, h4, h6]; rfl
    · rw [hE, h5, h4, h6]; rfl
  rw [all_full (le_of_y e3 h) h2, Bool.true_and]
  refine ⟨⟨0, ⟨by omega, rfl⟩, rfl⟩, fun t => lett.mk fun y8 e8 => lett.mk fun y9 e9 => ?_⟩
  rintro ⟨h1, h2⟩
  have h2 : (p.2.2.1.take t).all sigName = true := h2
  have e9 : sigName (p.2.2.1.getD t zS) = !y9 := by rw [e9, Bool.not_not]; rfl
  refine ⟨fun h => ?_, fun h => ?_⟩
  · have h := lt_of_y e8 h
    refine ⟨⟨by omega, by omega⟩, fun h9 => ?_, fun h9 => ⟨inRlen h hw.2.2.1, t + 1, ⟨by omega, ?_⟩, by omega, by omega⟩⟩
    · rw [all_no zS h (by rw [e9, h9]; rfl)]
      rfl
    · exact all_succ zS h h2 (by rw [e9, h9]; rfl)
  rw [all_full (le_of_y e8 h) h2, Bool.true_and]
  refine ⟨⟨0, ⟨by omega, rfl⟩, rfl⟩, fun u => lett.mk fun y11 e11 => lett.mk fun y12 e12 => ?_⟩
  rintro ⟨h1, h2⟩
  have h2 : (p.2.2.2.1.take u).all lineName = true := h2
  have e12 : lineName (p.2.2.2.1.getD u zL) = !y12 := by rw [e12, Bool.not_not]; rfl
  refine ⟨fun h => ?_, fun h => ?_⟩
  · have h := lt_of_y e11 h
    refine ⟨⟨by omega, by omega⟩, fun h9 => ?_, fun h9 => ⟨inRlen h hw.2.2.2, u + 1, ⟨by omega, ?_⟩, by omega, by omega⟩⟩
    · rw [all_no zL h (by rw [e12, h9]; rfl)]
    · exact all_succ zL h h2 (by rw [e12, h9]; rfl)
  rw [all_full (le_of_y e11 h) h2]

theorem ok81 : DOk Tryz.prog 81 c81 :=
  DOk.of' (l := [(127, c127), (128, c128)]) (A := a81) tabOk ⟨ok127, ok128, trivial⟩ Tryz.func81 (by kernel_rfl) (by kernel_rfl) fun x hw hp => b81 x.1 (plan_wf hw.1)

/-! ### Joins -/

/-- One join: both its ends are free and right, or something is wrong. -/
theorem join_round (p : PlanD) (k : Nat) (hk : k < p.2.1.length) (h : endsUp p k) :
    let j := p.2.1.getD k zJ
    let bad := !fHas p j.1 || (!fHas p j.2 || ((mget PortT (nextsUp p k) j.1).isSome || ((mget PortT (nextsUp p k) j.2).isSome || j.1 == j.2)))
    (bad = true → fJoined p = false) ∧ (bad = false → endsUp p (k + 1) ∧ nextsUp p (k + 1) = mput PortT (mput PortT (nextsUp p k) j.1 j.2) j.2 j.1) := by
  intro j bad
  have e := ends_get p k hk
  have n1 := nexts_any p k (by omega) j.1
  have n2 := nexts_any p k (by omega) j.2
  have hA : endOk p (2 * k) = (fHas p j.1 && !(mget PortT (nextsUp p k) j.1).isSome) := by
    unfold endOk
    rw [e.1, n1]
  have hB : endOk p (2 * k + 1) = (fHas p j.2 && !((mget PortT (nextsUp p k) j.2).isSome || j.1 == j.2)) := by
    unfold endOk
    rw [e.2, n2]
    show (_ && !(anyTo _ (2 * k) || (joinEnds p).getD (2 * k) zP == _)) = _
    rw [e.1]
  have hbad : bad = !(endOk p (2 * k) && endOk p (2 * k + 1)) := by
    rw [hA, hB]
    show (!fHas p j.1 || (!fHas p j.2 || ((mget PortT (nextsUp p k) j.1).isSome || ((mget PortT (nextsUp p k) j.2).isSome || j.1 == j.2)))) = _
    generalize fHas p j.1 = a; generalize fHas p j.2 = b; generalize (mget PortT (nextsUp p k) j.1).isSome = c; generalize (mget PortT (nextsUp p k) j.2).isSome = d; generalize (j.1 == j.2) = f
    cases a <;> cases b <;> cases c <;> cases d <;> cases f <;> rfl
  have hlen : 2 * k + 1 < (joinEnds p).length := by rw [ends_lenQ]; omega
  refine ⟨fun hb => ?_, fun hb => ?_⟩
  · rw [hbad, Bool.not_eq_true', Bool.and_eq_false_iff] at hb
    rw [joined_eq]
    rcases hb with hb | hb
    · rw [allTo_no (by omega) hb]; rfl
    · rw [allTo_no hlen hb]; rfl
  · have hb0 := hb
    rw [hbad, Bool.not_eq_false', Bool.and_eq_true] at hb
    refine ⟨?_, ?_⟩
    · show allTo (endOk p) (2 * (k + 1)) = true
      rw [show 2 * (k + 1) = 2 * k + 1 + 1 by omega]
      exact allTo_succ (allTo_succ h hb.1) hb.2
    · rw [hA] at hb
      rw [hB] at hb
      simp only [Bool.and_eq_true, Bool.not_eq_true', Bool.or_eq_false_iff] at hb
      obtain ⟨⟨_, m1⟩, _, m2, m3⟩ := hb
      rw [mput_new portKey m1]
      have m4 : (mget PortT (nextsUp p k ++ [(j.1, j.2)]) j.2).isSome = false := by
        have m2' := mget_isSome PortT (nextsUp p k) j.2
        rw [m2] at m2'
        rw [mget_isSome, List.any_append, ← m2']
        simp only [List.any_cons, List.any_nil, Bool.or_false, Bool.false_or, keqP]
        rw [beqComm]
        exact m3
      rw [mput_new portKey m4]
      unfold nextsUp
      rw [flat_succ _ zJ hk]
      simp [j]

theorem v86 (p : PlanD) : bodyVC (ctxOf tab [(129, c129)]) Tryz.f86 c86 (a86 (p, ())) (p, ()) = (
lett (((0 : Int), (0 : Int)), (0 : Int), (0 : Int)) fun (y1 : (Int × Int) × Int × Int) =>
(∃ (s02 : Nat),
(s02 ≤ p.snd.fst.length ∧ endsUp p s02) ∧
(↑s02 : Int) = (0 : Int) ∧
p.snd.fst = p.snd.fst ∧
(↑p.snd.fst.length : Int) = (↑p.snd.fst.length : Int) ∧
nextsUp p s02 = [] ∧
keepP p (True)) ∧
∀ (s2 : Nat),
lett (decide ((↑s2 : Int) < (↑p.snd.fst.length : Int))) fun (y3 : Bool) =>
lett (p.snd.fst.getD (↑s2 : Int).toNat y1) fun (y4 : (Int × Int) × Int × Int) =>
lett
(bif
bif (mget PortT (nextsUp p s2) y4.fst).isSome then true
else (mget PortT (nextsUp p s2) y4.snd).isSome then
true
else y4.fst.fst == y4.snd.fst && (y4.fst.snd == y4.snd.snd && true))
fun (y5 : Bool) =>
lett (bif y5 then true else !fHas p y4.fst) fun (y6 : Bool) =>
lett (bif y6 then true else !fHas p y4.snd) fun (y7 : Bool) =>
s2 ≤ p.snd.fst.length ∧ endsUp p s2 →
(y3 = true →
InB (↑s2 : Int) p.snd.fst.length ∧
(y5 = false → True) ∧
(y6 = false → True) ∧
(y7 = true → [] = fNexts? p ∧ false = fJoined p ∧ True) ∧
(y7 = false →
InR IntKind.i64 ((↑s2 : Int) + (1 : Int)) ∧
∃ (s'8 : Nat),
(s'8 ≤ p.snd.fst.length ∧ endsUp p s'8) ∧
p.snd.fst.length - s'8 < p.snd.fst.length - s2 ∧
(↑s'8 : Int) = (↑s2 : Int) + (1 : Int) ∧
p.snd.fst = p.snd.fst ∧
(↑p.snd.fst.length : Int) = (↑p.snd.fst.length : Int) ∧
nextsUp p s'8 =
mput PortT (mput PortT (nextsUp p s2) y4.fst y4.snd) y4.snd
y4.fst ∧
keepP p (True))) ∧
(y3 = false →
(∃ (s08 : Nat),
(s08 ≤ p.fst.length ∧ allOf (gateOk p) s08) ∧
(↑s08 : Int) = (0 : Int) ∧
p.fst = p.fst ∧
(↑p.fst.length : Int) = (↑p.fst.length : Int) ∧
keepP p (nextsUp p s2 = nextsUp p s2 ∧ True)) ∧
∀ (s8 : Nat),
lett (decide ((↑s8 : Int) < (↑p.fst.length : Int))) fun (y9 : Bool) =>
lett ((p.fst.getD (↑s8 : Int).toNat ([], (0 : Int), (0 : Int))).snd.fst != (4 : Int)) fun (y10 : Bool) =>
lett (mget PortT (nextsUp p s2) ((↑s8 : Int), (0 : Int))) fun (y11 : Option (Int × Int)) =>
lett (y11.getD ((0 : Int), (0 : Int))).fst fun (y12 : Int) =>
lett (bif !y11.isSome then true else (p.fst.getD y12.toNat ([], (0 : Int), (0 : Int))).snd.fst == (4 : Int)) fun (y13 : Bool) =>
s8 ≤ p.fst.length ∧ allOf (gateOk p) s8 →
(y9 = true →
InB (↑s8 : Int) p.fst.length ∧
(y10 = true →
InR IntKind.i64 ((↑s8 : Int) + (1 : Int)) ∧
∃ (s'14 : Nat),
(s'14 ≤ p.fst.length ∧ allOf (gateOk p) s'14) ∧
p.fst.length - s'14 < p.fst.length - s8 ∧
(↑s'14 : Int) = (↑s8 : Int) + (1 : Int) ∧
p.fst = p.fst ∧
(↑p.fst.length : Int) = (↑p.fst.length : Int) ∧
keepP p (nextsUp p s2 = nextsUp p s2 ∧ True)) ∧
(y10 = false →
((!y11.isSome) = false → InB y12 p.fst.length) ∧
(y13 = true → [] = fNexts? p ∧ false = fJoined p ∧ True) ∧
(y13 = false →
InR IntKind.i64 ((↑s8 : Int) + (1 : Int)) ∧
∃ (s'14 : Nat),
(s'14 ≤ p.fst.length ∧ allOf (gateOk p) s'14) ∧
p.fst.length - s'14 < p.fst.length - s8 ∧
(↑s'14 : Int) = (↑s8 : Int) + (1 : Int) ∧
p.fst = p.fst ∧
(↑p.fst.length : Int) = (↑p.fst.length : Int) ∧
keepP p (nextsUp p s2 = nextsUp p s2 ∧ True)))) ∧
(y9 = false → nextsUp p s2 = fNexts? p ∧ true = fJoined p ∧ True))) := by kernel_rfl

theorem b86 (p : PlanD) (hw : planWf p) : bodyVC (ctxOf tab [(129, c129)]) Tryz.f86 c86 (a86 (p, ())) (p, ()) := by
  have hno : fJoined p = false → ([] : List (PortD × PortD)) = fNexts? p ∧ false = fJoined p := fun h => by
    unfold fNexts?
    rw [h]; exact ⟨rfl, rfl⟩
  rw [v86]
  refine lett.mk fun y1 e1 => ?_
  simp only [keepP_eq, true_and, and_true, eq_self, Int.toNat_natCast]
  refine ⟨⟨0, ⟨by omega, rfl⟩, rfl, rfl⟩, fun k => lett.mk fun y3 e3 => lett.mk fun y4 e4 => lett.mk fun y5 e5 => lett.mk fun y6 e6 => lett.mk fun y7 e7 => ?_⟩
  rintro ⟨g1, g2⟩
  refine ⟨fun h => ?_, fun h => ?_⟩
  · have hk := lt_of_y e3 h
    have e4 : y4 = p.2.1.getD k zJ := by rw [e4, e1]; rfl
    obtain ⟨r1, r2⟩ := join_round p k hk g2
    have hbad : (!fHas p (p.2.1.getD k zJ).1 || (!fHas p (p.2.1.getD k zJ).2 || ((mget PortT (nextsUp p k) (p.2.1.getD k zJ).1).isSome || ((mget PortT (nextsUp p k) (p.2.1.getD k zJ).2).isSome || (p.2.1.getD k zJ).1 == (p.2.1.getD k zJ).2)))) = y7 := by
      rw [e7, e6, e5, portBeq, e4]
      generalize fHas p (p.2.1.getD k zJ).1 = a; generalize fHas p (p.2.1.getD k zJ).2 = b; generalize (mget PortT (nextsUp p k) (p.2.1.getD k zJ).1).isSome = c; generalize (mget PortT (nextsUp p k) (p.2.1.getD k zJ).2).isSome = d; generalize ((p.2.1.getD k zJ).1 == (p.2.1.getD k zJ).2) = f
      cases a <;> cases b <;> cases c <;> cases d <;> cases f <;> rfl
    refine ⟨⟨by omega, by omega⟩, fun _ => trivial, fun _ => trivial, fun h7 => hno (r1 (by rw [hbad, h7])), fun h7 => ?_⟩
    obtain ⟨q1, q2⟩ := r2 (by rw [hbad, h7])
    exact ⟨inRlen hk hw.2.1, k + 1, ⟨by omega, q1⟩, by omega, by omega, by rw [e4]; exact q2⟩
  · have hk := le_of_y e3 h
    have hkk : k = p.2.1.length := by omega
    have hN : nextsUp p k = fNexts p := nexts_full p k hk
    have hends : allTo (endOk p) (joinEnds p).length = true := by rw [ends_lenQ, ← hkk]; exact g2
    refine ⟨⟨0, ⟨by omega, rfl⟩, rfl⟩, fun s => lett.mk fun y9 e9 => lett.mk fun y10 e10 => lett.mk fun y11 e11 => lett.mk fun y12 e12 => lett.mk fun y13 e13 => ?_⟩
    rintro ⟨s1, s2⟩
    rw [hN, next_get] at e11
    have e10 : y10 = !((p.1.getD s zE).2.1 == 4) := by rw [e10, bneB]; rfl
    -- the join's other end
    have hkind : y11.isSome = true → InB y12 p.1.length ∧ fKind p (fNext p ((s : Int), 0)).1.1 = (p.1.getD y12.toNat zE).2.1 ∧ y12 = (fNext p ((s : Int), 0)).1.1 := fun hs => by
      cases hn : (fNext p ((s : Int), 0)).2 with
      | false => rw [e11, hn] at hs; cases hs
      | true =>
        rw [hn] at e11
        have e12 : y12 = (fNext p ((s : Int), 0)).1.1 := by rw [e12, e11]; rfl
        have hm := mem_of_mget portKey (by rw [next_get, hn]; rfl : mget PortT (fNexts p) ((s : Int), 0) = some (fNext p ((s : Int), 0)).1)
        have hh : fHas p (fNext p ((s : Int), 0)).1 = true := by
          unfold fNexts at hm
          obtain ⟨j, hj, hm⟩ := List.mem_flatMap.1 hm
          have hb : fHas p j.1 = true ∧ fHas p j.2 = true := by
            obtain ⟨i, hi, rfl⟩ := List.mem_iff_getElem.1 hj
            have e := ends_get p i hi
            rw [getD_at zJ hi] at e
            have a := allTo_iff.1 hends (2 * i) (by rw [ends_lenQ]; omega)
            have b := allTo_iff.1 hends (2 * i + 1) (by rw [ends_lenQ]; omega)
            unfold endOk at a b
            rw [e.1, Bool.and_eq_true] at a
            rw [e.2, Bool.and_eq_true] at b
            exact ⟨a.1, b.1⟩
          simp only [List.mem_cons, Prod.mk.injEq, List.not_mem_nil, or_false] at hm
          rcases hm with ⟨_, hm⟩ | ⟨_, hm⟩
          · rw [hm]; exact hb.2
          · rw [hm]; exact hb.1
        have hf := has_factsQ hh
        rw [e12]
        exact ⟨⟨hf.1, hf.2.1⟩, hf.2.2.2.2, rfl⟩
    have hg : gateOk p s = (y10 || !y13) := by
      unfold gateOk
      rw [e10]
      cases (p.1.getD s zE).2.1 == 4 with
      | false => rfl
      | true =>
        simp only [cond_true, Bool.not_true, Bool.false_or]
        have hs : y11.isSome = (fNext p ((s : Int), 0)).2 := by rw [e11]; cases (fNext p ((s : Int), 0)).2 <;> rfl
        cases hn : (fNext p ((s : Int), 0)).2 with
        | false => rw [hn] at hs; rw [e13, hs]; rfl
        | true =>
          rw [hn] at hs
          have := hkind hs
          rw [this.2.1, e13, hs]
          simp only [Bool.true_and, Bool.not_true, cond_false]
          rfl
    refine ⟨fun h => ?_, fun h => ?_⟩
    · have hs := lt_of_y e9 h
      have yes : gateOk p s = true → ∃ s', (s' ≤ p.1.length ∧ allOf (gateOk p) s') ∧ p.1.length - s' < p.1.length - s ∧ (s' : Int) = (s : Int) + 1 := fun hf =>
        ⟨s + 1, ⟨by omega, allTo_succ s2 hf⟩, by omega, by omega⟩
      refine ⟨⟨by omega, by omega⟩, fun h10 => ⟨inRlen hs hw.1, yes (by rw [hg, h10]; rfl)⟩, fun h10 => ⟨fun h11 => (hkind (by simpa using h11)).1, fun h13 => hno ?_, fun h13 => ⟨inRlen hs hw.1, yes (by rw [hg, h10, h13]; rfl)⟩⟩⟩
      rw [joined_eq, allTo_no hs (by rw [hg, h10, h13]; rfl), Bool.and_false]
    · have hs := le_of_y e9 h
      have : s = p.1.length := by omega
      have hJ : fJoined p = true := by
        rw [joined_eq, hends, ← this]
        exact s2
      unfold fNexts?
      rw [hJ, hN]
      exact ⟨rfl, rfl⟩

theorem ok86 : DOk Tryz.prog 86 c86 :=
  DOk.of' (l := [(129, c129)]) (A := a86) tabOk ⟨ok129, trivial⟩ Tryz.func86 (by kernel_rfl) (by kernel_rfl) fun x hw hp => b86 x.1 (plan_wf hw.1)

/-! ### Signals -/

theorem v87 (p : PlanD) (m : List ((Int × Int) × Int × Int)) : bodyVC (ctxOf tab [(129, c129)]) Tryz.f87 c87 (a87 (p, m, ())) (p, m, ()) = (
lett ([], ((0 : Int), (0 : Int)), false) fun (y2 : List UInt8 × (Int × Int) × Bool) =>
(∃ (s03 : Nat),
(s03 ≤ p.snd.snd.fst.length ∧ allOf (sigOk p) s03) ∧
(↑s03 : Int) = (0 : Int) ∧
m = m ∧
p.snd.snd.fst = p.snd.snd.fst ∧
(↑p.snd.snd.fst.length : Int) = (↑p.snd.snd.fst.length : Int) ∧
atsUp p s03 = [] ∧
keepP p (True)) ∧
∀ (s3 : Nat),
lett (decide ((↑s3 : Int) < (↑p.snd.snd.fst.length : Int))) fun (y4 : Bool) =>
lett (p.snd.snd.fst.getD (↑s3 : Int).toNat y2).snd.fst fun (y5 : Int × Int) =>
lett (bif !fHas p y5 then true else (mget PortT (atsUp p s3) y5).getD false) fun (y6 : Bool) =>
lett (p.fst.getD y5.fst.toNat ([], (0 : Int), (0 : Int))).snd.fst fun (y7 : Int) =>
lett (bif y7 != (1 : Int) then y7 != (4 : Int) else false) fun (y8 : Bool) =>
lett (mget PortT m y5) fun (y9 : Option (Int × Int)) =>
lett (y9.getD ((0 : Int), (0 : Int))).fst fun (y10 : Int) =>
lett (bif !y9.isSome then true else (p.fst.getD y10.toNat ([], (0 : Int), (0 : Int))).snd.fst == (4 : Int)) fun (y11 : Bool) =>
s3 ≤ p.snd.snd.fst.length ∧ allOf (sigOk p) s3 →
(y4 = true →
InB (↑s3 : Int) p.snd.snd.fst.length ∧
True ∧
(y6 = true → false = fSignals p ∧ True) ∧
(y6 = false →
InB y5.fst p.fst.length ∧
(y8 = true → false = fSignals p ∧ True) ∧
(y8 = false →
((!y9.isSome) = false → InB y10 p.fst.length) ∧
(y11 = true → false = fSignals p ∧ True) ∧
(y11 = false →
InR IntKind.i64 ((↑s3 : Int) + (1 : Int)) ∧
∃ (s'12 : Nat),
(s'12 ≤ p.snd.snd.fst.length ∧ allOf (sigOk p) s'12) ∧
p.snd.snd.fst.length - s'12 < p.snd.snd.fst.length - s3 ∧
(↑s'12 : Int) = (↑s3 : Int) + (1 : Int) ∧
m = m ∧
p.snd.snd.fst = p.snd.snd.fst ∧
(↑p.snd.snd.fst.length : Int) = (↑p.snd.snd.fst.length : Int) ∧
atsUp p s'12 = mput PortT (atsUp p s3) y5 true ∧
keepP p (True))))) ∧
(y4 = false →
(∃ (s012 : Nat),
(s012 ≤ p.fst.length ∧ allOf (gateSig p) s012) ∧
(↑s012 : Int) = (0 : Int) ∧ p.fst = p.fst ∧ (↑p.fst.length : Int) = (↑p.fst.length : Int) ∧ atsUp p s3 = atsUp p s3 ∧ True) ∧
∀ (s12 : Nat),
lett (decide ((↑s12 : Int) < (↑p.fst.length : Int))) fun (y13 : Bool) =>
lett
(bif (p.fst.getD (↑s12 : Int).toNat ([], (0 : Int), (0 : Int))).snd.fst == (4 : Int) then
!(mget PortT (atsUp p s3) ((↑s12 : Int), (0 : Int))).getD false
else false)
fun (y14 : Bool) =>
s12 ≤ p.fst.length ∧ allOf (gateSig p) s12 →
(y13 = true →
InB (↑s12 : Int) p.fst.length ∧
(y14 = true → false = fSignals p ∧ True) ∧
(y14 = false →
InR IntKind.i64 ((↑s12 : Int) + (1 : Int)) ∧
∃ (s'15 : Nat),
(s'15 ≤ p.fst.length ∧ allOf (gateSig p) s'15) ∧
p.fst.length - s'15 < p.fst.length - s12 ∧
(↑s'15 : Int) = (↑s12 : Int) + (1 : Int) ∧ p.fst = p.fst ∧ (↑p.fst.length : Int) = (↑p.fst.length : Int) ∧ atsUp p s3 = atsUp p s3 ∧ True)) ∧
(y13 = false → true = fSignals p ∧ True))) := by kernel_rfl

theorem b87 (p : PlanD) (m : List (PortD × PortD)) (hj : fJoined p = true) (hm : m = fNexts p) (hw : planWf p) : bodyVC (ctxOf tab [(129, c129)]) Tryz.f87 c87 (a87 (p, m, ())) (p, m, ()) := by
  subst hm
  have hS : fSignals p = (allTo (sigOk p) p.2.2.1.length && allTo (gateSig p) p.1.length) := by unfold fSignals; rfl
  rw [v87, hS]
  simp only [keepP_eq, true_and, and_true, eq_self, Int.toNat_natCast]
  refine lett.mk fun y2 e2 => ?_
  refine ⟨⟨0, ⟨by omega, rfl⟩, rfl, rfl⟩, fun k => lett.mk fun y4 e4 => lett.mk fun y5 e5 => lett.mk fun y6 e6 => lett.mk fun y7 e7 => lett.mk fun y8 e8 => lett.mk fun y9 e9 => lett.mk fun y10 e10 => lett.mk fun y11 e11 => ?_⟩
  rintro ⟨g1, g2⟩
  rw [next_get] at e9
  refine ⟨fun h => ?_, fun h => ?_⟩
  · have hk := lt_of_y e4 h
    have e5 : y5 = (p.2.2.1.getD k zS).2.1 := by rw [e5, e2]; rfl
    have hat : (mget PortT (atsUp p k) y5).getD false = anyTo (readOf p y5) k := ats_spec p k (by omega) y5
    have hreads : (fReads p y5 == (k : Int)) = !(mget PortT (atsUp p k) y5).getD false := by rw [hat, e5]; exact reads_at p k hk
    have hs : y9.isSome = (fNext p y5).2 := by rw [e9]; cases (fNext p y5).2 <;> rfl
    have hK : fHas p y5 = true → InB y5.1 p.1.length ∧ fKind p y5.1 = y7 := fun hh => by
      have hf := has_factsQ hh
      exact ⟨⟨hf.1, hf.2.1⟩, by rw [hf.2.2.2.2, e7]; rfl⟩
    have hK2 : y9.isSome = true → InB y10 p.1.length ∧ fKind p (fNext p y5).1.1 = (p.1.getD y10.toNat zE).2.1 := fun h9 => by
      rw [hs] at h9
      rw [h9] at e9
      have e10 : y10 = (fNext p y5).1.1 := by rw [e10, e9]; rfl
      have hh := next_hasQ hj (by rw [next_get, h9]; rfl : mget PortT (fNexts p) y5 = some (fNext p y5).1)
      have hf := has_factsQ hh
      rw [e10]
      exact ⟨⟨hf.1, hf.2.1⟩, hf.2.2.2.2⟩
    have hok : sigOk p k = (!y6 && (!y8 && !y11)) := by
      unfold sigOk sigOkX
      rw [← e5, hreads, e6, e8, e11, bneB, bneB]
      cases hh : fHas p y5 with
      | false => rfl
      | true =>
        rw [(hK hh).2, hs]
        cases hn : (fNext p y5).2 with
        | false =>
          generalize (mget PortT (atsUp p k) y5).getD false = a; generalize (y7 == 1) = b; generalize (y7 == 4) = c
          cases a <;> cases b <;> cases c <;> rfl
        | true =>
          rw [(hK2 (by rw [hs, hn])).2]
          have e : ((p.1.getD y10.toNat ([], (0 : Int), (0 : Int))).2.1 == 4) = ((p.1.getD y10.toNat zE).2.1 == 4) := rfl
          rw [e]
          generalize (mget PortT (atsUp p k) y5).getD false = a; generalize (y7 == 1) = b; generalize (y7 == 4) = c; generalize ((p.1.getD y10.toNat zE).2.1 == 4) = d
          cases a <;> cases b <;> cases c <;> cases d <;> rfl
    have no : sigOk p k = false → false = (allTo (sigOk p) p.2.2.1.length && allTo (gateSig p) p.1.length) := fun hf => by rw [allTo_no hk hf]; rfl
    refine ⟨⟨by omega, by omega⟩, fun h6 => no (by rw [hok, h6]; rfl), fun h6 => ⟨?_, fun h8 => no (by rw [hok, h8, h6]; rfl), fun h8 => ⟨fun h9 => (hK2 (by simpa using h9)).1, fun h11 => no (by rw [hok, h11, h8, h6]; rfl), fun h11 => ⟨inRlen hk hw.2.2.1, k + 1, ⟨by omega, allTo_succ g2 (by rw [hok, h6, h8, h11]; rfl)⟩, by omega, by omega, ?_⟩⟩⟩⟩
    · refine (hK ?_).1
      rw [e6] at h6
      cases hh : fHas p y5 with
      | true => rfl
      | false => rw [hh] at h6; cases h6
    · rw [e5]
      refine (ats_put p k hk ?_).symm
      rw [e6] at h6
      rw [← e5]
      cases hh : fHas p y5 with
      | true => rw [hh] at h6; exact h6
      | false => rw [hh] at h6; cases h6
  · have hk := le_of_y e4 h
    have hkk : k = p.2.2.1.length := by omega
    have hall : allTo (sigOk p) p.2.2.1.length = true := by rw [← hkk]; exact g2
    rw [hall, Bool.true_and]
    refine ⟨⟨0, ⟨by omega, rfl⟩, rfl⟩, fun s => lett.mk fun y13 e13 => lett.mk fun y14 e14 => ?_⟩
    rintro ⟨s1, s2⟩
    have hg : gateSig p s = !y14 := by
      unfold gateSig
      rw [e14, ats_spec p k (by omega), hkk, ← reads_any]
      have e : ((p.1.getD s ([], (0 : Int), (0 : Int))).2.1 == 4) = ((p.1.getD s zE).2.1 == 4) := rfl
      rw [e]
      generalize ((p.1.getD s zE).2.1 == 4) = a; generalize decide (0 ≤ fReads p ((s : Int), 0)) = b
      cases a <;> cases b <;> rfl
    refine ⟨fun h => ?_, fun h => ?_⟩
    · have hs := lt_of_y e13 h
      exact ⟨⟨by omega, by omega⟩, fun h14 => by rw [allTo_no hs (by rw [hg, h14]; rfl)], fun h14 => ⟨inRlen hs hw.1, s + 1, ⟨by omega, allTo_succ s2 (by rw [hg, h14]; rfl)⟩, by omega, by omega⟩⟩
    · have hs := le_of_y e13 h
      have : s = p.1.length := by omega
      rw [← this]
      exact Eq.symm s2

theorem ok87 : DOk Tryz.prog 87 c87 :=
  DOk.of' (l := [(129, c129)]) (A := a87) tabOk ⟨ok129, trivial⟩ Tryz.func87 (by kernel_rfl) (by kernel_rfl) fun x hw hp => b87 x.1 x.2.1 hp.1 hp.2 (plan_wf hw.1)

end YtpnnfimacblhgaaGreat
end Go.Proofs
end

section
set_option maxRecDepth 100000
set_option linter.unusedVariables false
set_option linter.unusedSimpArgs false
set_option maxHeartbeats 2000000
namespace Go.Proofs
open Go Go.Vc
namespace YtpnnfimacblhgaaGreat

theorem v130 (l : List Int) (m : List ((Int × Int) × Int × Int)) : bodyVC (ctxOf tab []) Tryz.f130 c130 (a130 (l, m, ())) (l, m, ()) = (
lett (decide ((↑l.length : Int) < (2 : Int))) fun (y2 : Bool) =>
(y2 = true → true = fRow m l ∧ True) ∧
(y2 = false →
(∃ (s03 : Nat), s03 ≤ (2 : Nat) ∧ (1 : Int) - (↑s03 : Int) = (1 : Int) ∧ outDn m l s03 = (-1 : Int) ∧ l = l ∧ m = m ∧ True) ∧
∀ (s3 : Nat),
lett (decide ((1 : Int) - (↑s3 : Int) ≥ (0 : Int))) fun (y4 : Bool) =>
lett (mget PortT m (l.getD (Int.toNat (0 : Int)) (0 : Int), (1 : Int) - (↑s3 : Int))) fun (y5 : Option (Int × Int)) =>
lett ((1 : Int) - (↑s3 : Int) - (1 : Int)) fun (y6 : Int) =>
lett (decide (outDn m l s3 < (0 : Int))) fun (y7 : Bool) =>
s3 ≤ (2 : Nat) →
(y4 = true →
InB (0 : Int) l.length ∧
(y5.isSome = true → InB (1 : Int) l.length) ∧
InR IntKind.i64 y6 ∧
∃ (s'8 : Nat),
s'8 ≤ (2 : Nat) ∧
(2 : Nat) - s'8 < (2 : Nat) - s3 ∧
(1 : Int) - (↑s'8 : Int) = y6 ∧
(outDn m l s'8 =
bif bif y5.isSome then (y5.getD ((0 : Int), (0 : Int))).fst == l.getD (Int.toNat (1 : Int)) (0 : Int) else false then (1 : Int) - (↑s3 : Int)
else outDn m l s3) ∧
l = l ∧ m = m ∧ True) ∧
(y4 = false →
(y7 = true → false = fRow m l ∧ True) ∧
(y7 = false →
(∃ (s08 : Nat × Int),
(s08.fst < l.length ∧ goRow m l (out0Row m l) s08.fst = some s08.snd) ∧ (↑s08.fst : Int) + (1 : Int) = (1 : Int) ∧ s08.snd = outDn m l s3 ∧ l = l ∧ m = m ∧ True) ∧
∀ (s8 : Nat × Int),
lett (decide ((↑s8.fst : Int) + (1 : Int) < (↑l.length : Int))) fun (y9 : Bool) =>
lett ((↑s8.fst : Int) + (1 : Int) - (1 : Int)) fun (y10 : Int) =>
lett (mget PortT m (l.getD y10.toNat (0 : Int), s8.snd)) fun (y11 : Option (Int × Int)) =>
lett (bif !y11.isSome then true else (y11.getD ((0 : Int), (0 : Int))).fst != l.getD ((↑s8.fst : Int) + (1 : Int)).toNat (0 : Int)) fun (y12 : Bool) =>
lett ((1 : Int) - (y11.getD ((0 : Int), (0 : Int))).snd) fun (y13 : Int) =>
lett ((↑s8.fst : Int) + (1 : Int) + (1 : Int)) fun (y14 : Int) =>
s8.fst < l.length ∧ goRow m l (out0Row m l) s8.fst = some s8.snd →
(y9 = true →
InR IntKind.i64 y10 ∧
InB y10 l.length ∧
((!y11.isSome) = false → InB ((↑s8.fst : Int) + (1 : Int)) l.length) ∧
(y12 = true → false = fRow m l ∧ True) ∧
(y12 = false →
InR IntKind.i64 y13 ∧
InR IntKind.i64 y14 ∧
∃ (s'15 : Nat × Int),
(s'15.fst < l.length ∧ goRow m l (out0Row m l) s'15.fst = some s'15.snd) ∧
l.length - s'15.fst < l.length - s8.fst ∧ (↑s'15.fst : Int) + (1 : Int) = y14 ∧ s'15.snd = y13 ∧ l = l ∧ m = m ∧ True)) ∧
(y9 = false → true = fRow m l ∧ True))))) := by kernel_rfl

theorem goRow_some {m : List (PortD × PortD)} {l : List Int} {out : Int} {n : Nat} : ∀ {k : Nat}, k ≤ n → (goRow m l out n).isSome = true → (goRow m l out k).isSome = true := by
  induction n with
  | zero => intro k hk h; have : k = 0 := by omega
            subst this; exact h
  | succ n ih =>
    intro k hk h
    by_cases e : k = n + 1
    · rw [e]; exact h
    · refine ih (by omega) ?_
      unfold goRow at h
      cases hg : goRow m l out n with
      | none => rw [hg] at h; cases h
      | some o => rfl

def goNext : Option PortD → Int → Option Int
  | none, _ => none
  | some q, y => bif q.1 == y then some (1 - q.2) else none

theorem goRow_step {m : List (PortD × PortD)} {l : List Int} {out o : Int} {k : Nat} (h : goRow m l out k = some o) : goRow m l out (k + 1) = goNext (mget PortT m (l.getD k 0, o)) (l.getD (k + 1) 0) := by
  unfold goRow
  rw [h]
  simp only
  cases mget PortT m (l.getD k 0, o) <;> rfl

theorem b130 (l : List Int) (m : List (PortD × PortD)) (hm : smallEnds m) (hw : l.length ≤ maxLenI) : bodyVC (ctxOf tab []) Tryz.f130 c130 (a130 (l, m, ())) (l, m, ()) := by
  rw [v130]
  simp only [true_and, and_true, eq_self, Int.toNat_natCast]
  have hR : fRow m l = bif decide (l.length < 2) then true else bif decide (out0Row m l < 0) then false else (goRow m l (out0Row m l) (l.length - 1)).isSome := by unfold fRow; rfl
  refine lett.mk fun y2 e2 => ⟨fun h => ?_, fun h => ?_⟩
  · rw [h] at e2
    have := of_decide_eq_true e2.symm
    rw [hR, decide_eq_true (by omega)]; rfl
  have hl : 2 ≤ l.length := by
    rw [h] at e2
    have := of_decide_eq_false e2.symm
    omega
  rw [decide_eq_false (by omega)] at hR
  simp only [cond_false] at hR
  refine ⟨⟨0, by omega, by simp, rfl⟩, fun k => lett.mk fun y4 e4 => lett.mk fun y5 e5 => lett.mk fun y6 e6 => lett.mk fun y7 e7 => ?_⟩
  intro hk
  refine ⟨fun h4 => ?_, fun h4 => ?_⟩
  · rw [h4] at e4
    have h4 := of_decide_eq_true e4.symm
    have hkk : k = 0 ∨ k = 1 := by omega
    refine ⟨⟨by omega, by omega⟩, fun _ => ⟨by omega, by omega⟩, inR64 (by omega) (by omega), k + 1, by omega, by omega, by omega, ?_⟩
    have hr : (bif y5.isSome then (y5.getD ((0 : Int), (0 : Int))).1 == l.getD (Int.toNat (1 : Int)) (0 : Int) else false) = outRow m l (1 - (k : Int)) := by
      rw [e5]
      unfold outRow
      show (bif (mget PortT m (l.getD 0 0, 1 - (k : Int))).isSome then ((mget PortT m (l.getD 0 0, 1 - (k : Int))).getD (0, 0)).1 == l.getD 1 0 else false) = _
      cases mget PortT m (l.getD 0 0, 1 - (k : Int)) <;> rfl
    rw [hr]
    rcases hkk with rfl | rfl
    · rfl
    · show out0Row m l = bif outRow m l 0 then 0 else bif outRow m l 1 then 1 else -1
      rfl
  have hk2 : k = 2 := by
    rw [h4] at e4
    have := of_decide_eq_false e4.symm
    omega
  subst hk2
  have hout : outDn m l 2 = out0Row m l := rfl
  rw [hout] at e7
  rw [← e7] at hR
  refine ⟨fun h7 => by rw [hR, h7]; rfl, fun h7 => ?_⟩
  rw [h7] at hR
  simp only [cond_false] at hR
  refine ⟨⟨(0, out0Row m l), ⟨by show 0 < l.length; omega, rfl⟩, rfl, hout.symm⟩, fun s => lett.mk fun y9 e9 => lett.mk fun y10 e10 => lett.mk fun y11 e11 => lett.mk fun y12 e12 => lett.mk fun y13 e13 => lett.mk fun y14 e14 => ?_⟩
  rintro ⟨g1, g2⟩
  have e10 : y10 = (s.1 : Int) := by omega
  have t10 : y10.toNat = s.1 := by omega
  have t11 : ((s.1 : Int) + 1).toNat = s.1 + 1 := by omega
  rw [t10] at e11
  rw [t11] at e12
  have hstep : goRow m l (out0Row m l) (s.1 + 1) = goNext y11 (l.getD (s.1 + 1) 0) := by rw [e11]; exact goRow_step g2
  refine ⟨fun h9 => ?_, fun h9 => ?_⟩
  · rw [h9] at e9
    have h9 := of_decide_eq_true e9.symm
    have hb : y11.isSome = true → 0 ≤ (y11.getD ((0 : Int), (0 : Int))).2 ∧ (y11.getD ((0 : Int), (0 : Int))).2 ≤ 3 := fun hs => by
      obtain ⟨q, hq⟩ := Option.isSome_iff_exists.1 hs
      rw [hq] at e11 ⊢
      exact hm _ (mem_of_mget portKey e11.symm)
    refine ⟨inR_of (by have : maxLenI = 9223372036854775807 := rfl; omega) (by have : maxLenI = 9223372036854775807 := rfl; omega), ⟨by omega, by omega⟩, fun _ => ⟨by omega, by omega⟩, fun h12 => ?_, fun h12 => ?_⟩
    · have hno : (goRow m l (out0Row m l) (s.1 + 1)).isSome = false := by
        rw [hstep]
        rw [h12, bneB] at e12
        cases hy : y11 with
        | none => rfl
        | some q =>
          rw [hy] at e12
          simp only [Option.isSome_some, Bool.not_true, cond_false, Option.getD_some] at e12
          have : (q.1 == l.getD (s.1 + 1) 0) = false := by simpa using e12.symm
          simp only [goNext, this, cond_false]
          rfl
      rw [hR]
      symm
      cases hc : (goRow m l (out0Row m l) (l.length - 1)).isSome with
      | false => rfl
      | true => rw [goRow_some (k := s.1 + 1) (by omega) hc] at hno; cases hno
    · rw [h12, bneB] at e12
      cases hy : y11 with
      | none => rw [hy] at e12; cases e12
      | some q =>
        rw [hy] at e12 e13 hb hstep
        have hq := hb rfl
        simp only [Option.isSome_some, Bool.not_true, cond_false, Option.getD_some] at e12 e13 hq
        have hq1 : (q.1 == l.getD (s.1 + 1) 0) = true := by simpa using e12.symm
        have hs2 : goRow m l (out0Row m l) (s.1 + 1) = some (1 - q.2) := by rw [hstep]; simp only [goNext, hq1, cond_true]
        have hlt : s.1 + 1 < l.length := by omega
        refine ⟨inR64 (by omega) (by omega), inR_of (by have : maxLenI = 9223372036854775807 := rfl; omega) (by have : maxLenI = 9223372036854775807 := rfl; omega), (s.1 + 1, 1 - q.2), ⟨hlt, hs2⟩, ?_, ?_, e13.symm⟩
        · show l.length - (s.1 + 1) < l.length - s.1; omega
        · show ((s.1 + 1 : Nat) : Int) + 1 = y14; omega
  · rw [h9] at e9
    have h9 := of_decide_eq_false e9.symm
    have : s.1 = l.length - 1 := by omega
    rw [hR, ← this, g2]
    rfl

theorem ok130 : DOk Tryz.prog 130 c130 :=
  DOk.of' (l := []) (A := a130) tabOk trivial Tryz.func130 (by kernel_rfl) (by kernel_rfl) fun x hw hp => b130 x.1 x.2.1 hp hw.1.1

/-! ### Lines -/

theorem met_spec (l : List Int) (y : Int) : (mget I (l.map fun e => (e, true)) y).getD false = fMem l y := by
  rw [mget_seen I (fun e : Int => e)]
  unfold fMem
  congr 1
  funext e
  exact beqComm y e

theorem met_put (l : List Int) (y : Int) (h : fMem l y = false) : mput I (l.map fun e => (e, true)) y true = (l ++ [y]).map fun e => (e, true) := by
  have h1 : (mget I (l.map fun e => (e, true)) y).isSome = false := by
    rw [mget_isSome, List.any_map]
    unfold fMem at h
    rw [← h]
    congr 1
    funext e
    exact beqComm y e
  rw [mput_new intKey h1, List.map_append]
  rfl

theorem metBy_succ (p : PlanD) (i : Nat) (hi : i < p.2.2.2.1.length) : metBy p (i + 1) = metBy p i ++ (p.2.2.2.1.getD i zL).2 := by
  unfold metBy
  rw [flat_succ _ zL hi]

theorem v88 (p : PlanD) (m : List ((Int × Int) × Int × Int)) : bodyVC (ctxOf tab [(130, c130)]) Tryz.f88 c88 (a88 (p, m, ())) (p, m, ()) = (
(∃ (s02 : Nat),
(s02 ≤ p.snd.snd.snd.fst.length ∧ allOf (lineOk p) s02) ∧
(↑s02 : Int) = (0 : Int) ∧
m = m ∧
p.snd.snd.snd.fst = p.snd.snd.snd.fst ∧
(↑p.snd.snd.snd.fst.length : Int) = (↑p.snd.snd.snd.fst.length : Int) ∧
metUp p s02 (0 : Nat) = [] ∧
keepP p (True)) ∧
∀ (s2 : Nat),
lett (decide ((↑s2 : Int) < (↑p.snd.snd.snd.fst.length : Int))) fun (y3 : Bool) =>
lett (p.snd.snd.snd.fst.getD (↑s2 : Int).toNat ([], [])) fun (y4 : List UInt8 × List Int) =>
lett ((↑y4.snd.length : Int) == (0 : Int)) fun (y5 : Bool) =>
lett (p.snd.snd.snd.fst.getD (↑s2 : Int).toNat zL).snd.length fun (y6 : Nat) =>
s2 ≤ p.snd.snd.snd.fst.length ∧ allOf (lineOk p) s2 →
(y3 = true →
InB (↑s2 : Int) p.snd.snd.snd.fst.length ∧
(y5 = true → false = fLines p ∧ True) ∧
(y5 = false →
(∃ (s07 : Nat),
(s07 ≤ y6 ∧ lineUp p (↑s2 : Int).toNat s07) ∧
(↑s07 : Int) = (0 : Int) ∧
m = m ∧
p.snd.snd.snd.fst = p.snd.snd.snd.fst ∧
(↑p.snd.snd.snd.fst.length : Int) = (↑p.snd.snd.snd.fst.length : Int) ∧
(↑s2 : Int) = (↑s2 : Int) ∧
y4.snd = y4.snd ∧
(↑y4.snd.length : Int) = (↑y4.snd.length : Int) ∧
metUp p (↑s2 : Int).toNat s07 = metUp p s2 (0 : Nat) ∧
keepP p (y4.fst = y4.fst ∧ y4.snd = y4.snd ∧ True)) ∧
∀ (s7 : Nat),
lett (decide ((↑s7 : Int) < (↑y4.snd.length : Int))) fun (y8 : Bool) =>
lett (y4.snd.getD (↑s7 : Int).toNat (0 : Int)) fun (y9 : Int) =>
lett (bif decide (y9 < (0 : Int)) then true else decide (y9 ≥ (↑p.fst.length : Int))) fun (y10 : Bool) =>
lett (metUp p (↑s2 : Int).toNat s7) fun (y11 : List (Int × Bool)) =>
lett (bif bif y10 then true else (p.fst.getD y9.toNat ([], (0 : Int), (0 : Int))).snd.fst != (1 : Int) then true else (mget I y11 y9).getD false)
fun (y12 : Bool) =>
s7 ≤ y6 ∧ lineUp p (↑s2 : Int).toNat s7 →
(y8 = true →
InB (↑s7 : Int) y4.snd.length ∧
(y10 = false → InB y9 p.fst.length) ∧
(y12 = true → false = fLines p ∧ True) ∧
(y12 = false →
InR IntKind.i64 ((↑s7 : Int) + (1 : Int)) ∧
∃ (s'13 : Nat),
(s'13 ≤ y6 ∧ lineUp p (↑s2 : Int).toNat s'13) ∧
y6 - s'13 < y6 - s7 ∧
(↑s'13 : Int) = (↑s7 : Int) + (1 : Int) ∧
m = m ∧
p.snd.snd.snd.fst = p.snd.snd.snd.fst ∧
(↑p.snd.snd.snd.fst.length : Int) = (↑p.snd.snd.snd.fst.length : Int) ∧
(↑s2 : Int) = (↑s2 : Int) ∧
y4.snd = y4.snd ∧
(↑y4.snd.length : Int) = (↑y4.snd.length : Int) ∧
metUp p (↑s2 : Int).toNat s'13 = mput I y11 y9 true ∧
keepP p (y4.fst = y4.fst ∧ y4.snd = y4.snd ∧ True))) ∧
(y8 = false →
smallEnds m ∧
((!fRow m y4.snd) = true → false = fLines p ∧ True) ∧
((!fRow m y4.snd) = false →
InR IntKind.i64 ((↑s2 : Int) + (1 : Int)) ∧
∃ (s'13 : Nat),
(s'13 ≤ p.snd.snd.snd.fst.length ∧ allOf (lineOk p) s'13) ∧
p.snd.snd.snd.fst.length - s'13 < p.snd.snd.snd.fst.length - s2 ∧
(↑s'13 : Int) = (↑s2 : Int) + (1 : Int) ∧
m = m ∧
p.snd.snd.snd.fst = p.snd.snd.snd.fst ∧
(↑p.snd.snd.snd.fst.length : Int) = (↑p.snd.snd.snd.fst.length : Int) ∧
metUp p s'13 (0 : Nat) = y11 ∧
keepP p (True))))) ∧
(y3 = false → true = fLines p ∧ True)) := by kernel_rfl

theorem b88 (p : PlanD) (m : List (PortD × PortD)) (hj : fJoined p = true) (hm : m = fNexts p) (hw : PlanT.wf p) : bodyVC (ctxOf tab [(130, c130)]) Tryz.f88 c88 (a88 (p, m, ())) (p, m, ()) := by
  subst hm
  have hw' := plan_wf hw
  have hL : fLines p = allTo (lineOk p) p.2.2.2.1.length := by unfold fLines; rfl
  rw [v88, hL]
  simp only [keepP_eq, true_and, and_true, eq_self, Int.toNat_natCast]
  refine ⟨⟨0, ⟨by omega, rfl⟩, rfl, rfl⟩, fun i => lett.mk fun y3 e3 => lett.mk fun y4 e4 => lett.mk fun y5 e5 => lett.mk fun y6 e6 => ?_⟩
  rintro ⟨g1, g2⟩
  refine ⟨fun h => ?_, fun h => ?_⟩
  · have hi := lt_of_y e3 h
    have e4 : y4 = p.2.2.2.1.getD i zL := e4
    have e6 : y6 = y4.2.length := by rw [e6, e4]
    have hok : lineOk p i = (allTo (lineNew p i) y4.2.length && (fEnters p y4.2).2) := by rw [e4]; rfl
    have no : lineOk p i = false → false = allTo (lineOk p) p.2.2.2.1.length := fun hf => by rw [allTo_no hi hf]
    have hlen : y4.2.length ≤ maxLenI := by
      rw [e4]
      exact (hw.2.2.2.1.2 _ (mem_getD zL hi)).2.1
    have noE : (fEnters p y4.2).2 = false → false = allTo (lineOk p) p.2.2.2.1.length := fun hf => no (by rw [hok, hf, Bool.and_false])
    have enters0 : y4.2.length = 0 → (fEnters p y4.2).2 = false := fun h0 => by unfold fEnters; rw [decide_eq_true h0]; rfl
    have entersT : y4.2.all (fun e => fKind p e == 1) = false → (fEnters p y4.2).2 = false := fun h0 => by unfold fEnters; rw [h0]; simp
    refine ⟨⟨by omega, by omega⟩, fun h5 => noE (enters0 ?_), fun h5 => ?_⟩
    · rw [h5, eqN' _ 0 0 rfl] at e5
      exact of_decide_eq_true e5.symm
    have h0 : y4.2.length ≠ 0 := by
      rw [h5, eqN' _ 0 0 rfl] at e5
      exact of_decide_eq_false e5.symm
    refine ⟨⟨0, ⟨by omega, rfl, rfl⟩, rfl, ?_⟩, fun k => lett.mk fun y8 e8 => lett.mk fun y9 e9 => lett.mk fun y10 e10 => lett.mk fun y11 e11 => lett.mk fun y12 e12 => ?_⟩
    · unfold metUp; simp
    rintro ⟨s1, s2, s3⟩
    have s3 : (y4.2.take k).all (isTrack p) = true := by rw [e4]; exact s3
    have hy11 : y11 = (metBy p i ++ y4.2.take k).map fun e => (e, true) := by rw [e11, e4]; rfl
    refine ⟨fun h8 => ?_, fun h8 => ?_⟩
    · have hk := lt_of_y e8 h8
      have hget : (mget I y11 y9).getD false = fMem (metBy p i ++ y4.2.take k) y9 := by rw [hy11]; exact met_spec _ _
      have hnew : lineNew p i k = !(mget I y11 y9).getD false := by
        rw [hget, e9, e4]; rfl
      have hkind : (isTrack p y9) = !(bif y10 then true else (p.1.getD y9.toNat ([], (0 : Int), (0 : Int))).2.1 != 1) := by
        unfold isTrack fKind
        rw [e10, geI, bneB]
        cases decide (y9 < 0) with
        | true => rfl
        | false =>
          cases decide ((p.1.length : Int) ≤ y9) with
          | true => rfl
          | false =>
            simp only [cond_false, Bool.or_self, Bool.not_not]
            rfl
      refine ⟨⟨by omega, by omega⟩, fun h10 => ?_, fun h12 => ?_, fun h12 => ?_⟩
      · rw [h10] at e10
        cases h1 : decide (y9 < 0) with
        | true => rw [h1] at e10; cases e10
        | false =>
          rw [h1] at e10
          have h1 := of_decide_eq_false h1
          have h2 := of_decide_eq_false e10.symm
          exact ⟨by omega, by omega⟩
      · rw [e12] at h12
        cases ht : isTrack p y9 with
        | false =>
          refine noE (entersT ?_)
          exact all_no (p := isTrack p) 0 hk (by rw [← e9, ht])
        | true =>
          rw [hkind, Bool.not_eq_true'] at ht
          rw [ht] at h12
          have h12 : (mget I y11 y9).getD false = true := h12
          refine no ?_
          rw [hok, allTo_no hk (by rw [hnew, h12]; rfl)]
          rfl
      · rw [e12] at h12
        have ht : (bif y10 then true else (p.1.getD y9.toNat ([], (0 : Int), (0 : Int))).2.1 != 1) = false := by
          cases hb : (bif y10 then true else (p.1.getD y9.toNat ([], (0 : Int), (0 : Int))).2.1 != 1) with
          | false => rfl
          | true => rw [hb] at h12; cases h12
        rw [ht] at h12
        have h12 : (mget I y11 y9).getD false = false := h12
        refine ⟨inRlen hk hlen, k + 1, ⟨by omega, allTo_succ s2 (by rw [hnew, h12]; rfl), ?_⟩, by omega, by omega, ?_⟩
        · have := all_succ 0 hk s3 (by rw [← e9, hkind, ht]; rfl)
          rw [e4] at this
          exact this
        · rw [hget] at h12
          rw [hy11, met_put _ _ h12]
          unfold metUp
          rw [← e4, take_succ' 0 hk, ← e9, List.append_assoc]
    · have hk := le_of_y e8 h8
      have hkk : k = y4.2.length := by omega
      have hT : y4.2.all (fun e => fKind p e == 1) = true := by
        rw [List.take_of_length_le (by omega)] at s3
        exact s3
      have hN : allTo (lineNew p i) y4.2.length = true := by rw [← hkk]; exact s2
      have hrow := row_enters p y4.2 h0 hT
      refine ⟨nexts_small hj, fun hf => noE ?_, fun hf => ⟨inRlen hi hw'.2.2.2, i + 1, ⟨by omega, allTo_succ g2 ?_⟩, by omega, by omega, ?_⟩⟩
      · rw [← hrow]; simpa using hf
      · rw [hok, hN, ← hrow]; simpa using hf
      · rw [hy11, List.take_of_length_le (by omega)]
        unfold metUp
        rw [metBy_succ p i hi, ← e4]
        simp
  · have hi := le_of_y e3 h
    have : i = p.2.2.2.1.length := by omega
    rw [← this]
    exact Eq.symm g2

theorem ok88 : DOk Tryz.prog 88 c88 :=
  DOk.of' (l := [(130, c130)]) (A := a88) tabOk ⟨ok130, trivial⟩ Tryz.func88 (by kernel_rfl) (by kernel_rfl) fun x hw hp => b88 x.1 x.2.1 hp.1 hp.2 hw.1

theorem v89 (p : PlanD) : bodyVC (ctxOf tab [(131, c131)]) Tryz.f89 c89 (a89 (p, ())) (p, ()) = (
lett (p.snd.snd.snd.snd.fst + fStop p.snd.snd.snd.snd.fst p.snd.snd.snd.snd.snd.fst) fun (y1 : Int) =>
lett (decide (p.snd.snd.snd.snd.snd.snd.fst < y1)) fun (y2 : Bool) =>
True ∧
InR IntKind.i64 y1 ∧
(y2 = true → false = fLong p ∧ True) ∧
(y2 = false →
(∃ (s03 : Nat),
(s03 ≤ p.snd.snd.fst.length ∧ allT (sigLong p) p.snd.snd.fst s03) ∧
(↑s03 : Int) = (0 : Int) ∧
p.snd.snd.fst = p.snd.snd.fst ∧
(↑p.snd.snd.fst.length : Int) = (↑p.snd.snd.fst.length : Int) ∧
keepP p (True)) ∧
∀ (s3 : Nat),
lett (decide ((↑s3 : Int) < (↑p.snd.snd.fst.length : Int))) fun (y4 : Bool) =>
lett (p.snd.snd.fst.getD (↑s3 : Int).toNat ([], ((0 : Int), (0 : Int)), false)).snd.fst.fst fun (y5 : Int) =>
lett (p.fst.getD y5.toNat ([], (0 : Int), (0 : Int))).snd fun (y6 : Int × Int) =>
lett (bif y6.fst == (1 : Int) then decide (y6.snd < p.snd.snd.snd.snd.snd.snd.fst) else false) fun (y7 : Bool) =>
s3 ≤ p.snd.snd.fst.length ∧ allT (sigLong p) p.snd.snd.fst s3 →
(y4 = true →
InB (↑s3 : Int) p.snd.snd.fst.length ∧
InB y5 p.fst.length ∧
(y7 = true → false = fLong p ∧ True) ∧
(y7 = false →
InR IntKind.i64 ((↑s3 : Int) + (1 : Int)) ∧
∃ (s'8 : Nat),
(s'8 ≤ p.snd.snd.fst.length ∧ allT (sigLong p) p.snd.snd.fst s'8) ∧
p.snd.snd.fst.length - s'8 < p.snd.snd.fst.length - s3 ∧
(↑s'8 : Int) = (↑s3 : Int) + (1 : Int) ∧
p.snd.snd.fst = p.snd.snd.fst ∧
(↑p.snd.snd.fst.length : Int) = (↑p.snd.snd.fst.length : Int) ∧
keepP p (True))) ∧
(y4 = false →
(∃ (s08 : Nat),
(s08 ≤ p.fst.length ∧ allT (elemLong p) p.fst s08) ∧
(↑s08 : Int) = (0 : Int) ∧
p.fst = p.fst ∧
(↑p.fst.length : Int) = (↑p.fst.length : Int) ∧
keepP p (True)) ∧
∀ (s8 : Nat),
lett (decide ((↑s8 : Int) < (↑p.fst.length : Int))) fun (y9 : Bool) =>
lett (p.fst.getD (↑s8 : Int).toNat ([], (0 : Int), (0 : Int))).snd fun (y10 : Int × Int) =>
lett (bif y10.fst != (4 : Int) then decide (y10.snd < p.snd.snd.snd.snd.fst) else false) fun (y11 : Bool) =>
s8 ≤ p.fst.length ∧ allT (elemLong p) p.fst s8 →
(y9 = true →
InB (↑s8 : Int) p.fst.length ∧
(y11 = true → false = fLong p ∧ True) ∧
(y11 = false →
InR IntKind.i64 ((↑s8 : Int) + (1 : Int)) ∧
∃ (s'12 : Nat),
(s'12 ≤ p.fst.length ∧ allT (elemLong p) p.fst s'12) ∧
p.fst.length - s'12 < p.fst.length - s8 ∧
(↑s'12 : Int) = (↑s8 : Int) + (1 : Int) ∧
p.fst = p.fst ∧
(↑p.fst.length : Int) = (↑p.fst.length : Int) ∧
keepP p (True))) ∧
(y9 = false → true = fLong p ∧ True)))) := by kernel_rfl

theorem b89 (p : PlanD) (hn : fNums p = true) (hg : fSignals p = true) (hw : planWf p) : bodyVC (ctxOf tab [(131, c131)]) Tryz.f89 c89 (a89 (p, ())) (p, ()) := by
  have hL : fLong p = (!decide (p.2.2.2.2.2.2.1 < p.2.2.2.2.1 + fStop p.2.2.2.2.1 p.2.2.2.2.2.1) && (p.2.2.1.all (sigLong p) && p.1.all (elemLong p))) := by unfold fLong; rfl
  obtain ⟨n1, n2, n3⟩ := nums_facts hn
  have hst := fStop_range p.2.2.2.2.1 p.2.2.2.2.2.1
  rw [v89, hL]
  refine lett.mk fun y1 e1 => lett.mk fun y2 e2 => ?_
  rw [← e1, ← e2]
  simp only [keepP_eq, true_and, and_true, eq_self, Int.toNat_natCast]
  refine ⟨inR64 (by omega) (by omega), fun h => by rw [h]; rfl, fun h => ?_⟩
  rw [h, Bool.not_false, Bool.true_and]
  have hhas : ∀ s, s < p.2.2.1.length → fHas p (p.2.2.1.getD s zS).2.1 = true := fun s hs => by
    unfold fSignals at hg
    rw [Bool.and_eq_true] at hg
    have := allTo_iff.1 hg.1 s hs
    unfold sigOk sigOkX at this
    rw [Bool.and_eq_true] at this
    exact this.1
  refine ⟨⟨0, ⟨by omega, rfl⟩, rfl⟩, fun s => lett.mk fun y4 e4 => lett.mk fun y5 e5 => lett.mk fun y6 e6 => lett.mk fun y7 e7 => ?_⟩
  rintro ⟨h1, h2⟩
  have h2 : (p.2.2.1.take s).all (sigLong p) = true := h2
  have e5 : y5 = (p.2.2.1.getD s zS).2.1.1 := e5
  refine ⟨fun h => ?_, fun h => ?_⟩
  · have h := lt_of_y e4 h
    have hf := has_factsQ (hhas s h)
    rw [← e5] at hf
    have hlen : fLength p y5 = y6.2 := by
      rw [e6]
      unfold fLength
      rw [decide_eq_false (by omega), decide_eq_false (by omega)]
      rfl
    have hS : sigLong p (p.2.2.1.getD s zS) = !y7 := by
      rw [e7]
      unfold sigLong
      rw [← e5, hf.2.2.2.2, hlen, e6]
      show (!((p.1.getD y5.toNat zE).2.1 == 1 && _)) = !(bif (p.1.getD y5.toNat zE).2.1 == 1 then _ else false)
      cases (p.1.getD y5.toNat zE).2.1 == 1 <;> rfl
    refine ⟨⟨by omega, by omega⟩, ⟨by omega, by omega⟩, fun h6 => ?_, fun h6 => ⟨inRlen h hw.2.2.1, s + 1, ⟨by omega, ?_⟩, by omega, by omega⟩⟩
    · rw [all_no zS h (by rw [hS, h6]; rfl)]
      rfl
    · exact all_succ zS h h2 (by rw [hS, h6]; rfl)
  rw [all_full (le_of_y e4 h) h2, Bool.true_and]
  refine ⟨⟨0, ⟨by omega, rfl⟩, rfl⟩, fun u => lett.mk fun y9 e9 => lett.mk fun y10 e10 => lett.mk fun y11 e11 => ?_⟩
  rintro ⟨g1, g2⟩
  have g2 : (p.1.take u).all (elemLong p) = true := g2
  have hS : elemLong p (p.1.getD u zE) = !y11 := by
    have e10 : y10 = (p.1.getD u zE).2 := e10
    rw [e11, bneB]
    unfold elemLong
    rw [← e10]
    have key : ∀ a b : Bool, (!(!a && b)) = !(bif !a then b else false) := by decide
    exact key _ _
  refine ⟨fun h => ?_, fun h => ?_⟩
  · have h := lt_of_y e9 h
    refine ⟨⟨by omega, by omega⟩, fun h6 => ?_, fun h6 => ⟨inRlen h hw.1, u + 1, ⟨by omega, ?_⟩, by omega, by omega⟩⟩
    · rw [all_no zE h (by rw [hS, h6]; rfl)]
    · exact all_succ zE h g2 (by rw [hS, h6]; rfl)
  rw [all_full (le_of_y e9 h) g2]

theorem ok89 : DOk Tryz.prog 89 c89 :=
  DOk.of' (l := [(131, c131)]) (A := a89) tabOk ⟨ok131, trivial⟩ Tryz.func89 (by kernel_rfl) (by kernel_rfl) fun x hw hp => b89 x.1 hp.1 hp.2 (plan_wf hw.1)

end YtpnnfimacblhgaaGreat
end Go.Proofs
end

section
set_option maxRecDepth 100000
set_option linter.unusedVariables false
set_option linter.unusedSimpArgs false
set_option maxHeartbeats 2000000
namespace Go.Proofs
open Go Go.Vc
namespace YtpnnfimacblhgaaGreat

def fTwices (p : PlanD) : Bool := fTwice (elNames p) || (fTwice (sigNames p) || fTwice (lineNames p))

theorem check_eq (p : PlanD) : fCheck p = bif !fSizes p then 3 else bif !fArgs p then 1 else bif fTwices p then 4 else
  bif !fJoined p then 6 else bif !fSignals p then 7 else bif !fLines p then 8 else bif !fLong p then 9 else 0 := by unfold fCheck; rfl

theorem args_numsQ {p : PlanD} (h : fArgs p = true) : fNums p = true := by
  unfold fArgs at h
  rw [Bool.and_eq_true] at h
  exact h.1

/-- What follows the names. -/
theorem check_rest (p : PlanD) (hS : fSizes p = true) (hA : fArgs p = true) (hT : fTwices p = false) :
    ((!fJoined p) = true → (6 : Int) = fCheck p) ∧ ((!fJoined p) = false → (fJoined p = true ∧ fNexts? p = fNexts p) ∧
      ((!fSignals p) = true → (7 : Int) = fCheck p) ∧ ((!fSignals p) = false → (fJoined p = true ∧ fNexts? p = fNexts p) ∧
        ((!fLines p) = true → (8 : Int) = fCheck p) ∧ ((!fLines p) = false → (fNums p = true ∧ fSignals p = true) ∧
          ((!fLong p) = true → (9 : Int) = fCheck p) ∧ ((!fLong p) = false → (0 : Int) = fCheck p)))) := by
  have hC := check_eq p
  rw [hS, hA, hT] at hC
  simp only [Bool.not_true, cond_false] at hC
  refine ⟨fun h => by rw [hC, h]; rfl, fun h => ?_⟩
  have hJ : fJoined p = true ∧ fNexts? p = fNexts p := by
    have : fJoined p = true := by simpa using h
    refine ⟨this, ?_⟩
    unfold fNexts?
    rw [this]; rfl
  rw [h] at hC
  simp only [cond_false] at hC
  refine ⟨hJ, fun h => by rw [hC, h]; rfl, fun h => ?_⟩
  have hG : fSignals p = true := by simpa using h
  rw [h] at hC
  simp only [cond_false] at hC
  refine ⟨hJ, fun h => by rw [hC, h]; rfl, fun h => ⟨⟨(args_numsQ hA), hG⟩, fun h' => ?_, fun h' => ?_⟩⟩
  · rw [hC, h, h']; rfl
  · rw [hC, h, h']; rfl

theorem v51 (p : PlanD) : bodyVC (ctxOf tab [(81, c81), (840082, c840082), (850082, c850082), (860082, c860082), (86, c86), (87, c87), (88, c88), (89, c89)] [] [(83, .pair (.ref PlanT) .unit), (84, .pair (.ref PlanT) .unit), (85, .pair (.ref PlanT) .unit)]) Tryz.f51 c51 noAnn (p, ()) = (
lett
(bif bif bif decide ((↑p.fst.length : Int) > (40 : Int)) then true else decide ((↑p.snd.snd.fst.length : Int) > (24 : Int)) then true else decide ((↑p.snd.snd.snd.fst.length : Int) > (4 : Int)) then
true
else decide ((↑p.snd.fst.length : Int) > (80 : Int)))
fun (y1 : Bool) =>
lett (p.snd.snd.snd.snd.snd.1, p.snd.snd.snd.snd.snd.snd.1, p.snd.snd.snd.snd.snd.snd.snd.1, p.snd.snd.snd.snd.snd.snd.snd.2) fun (y2 : Int × Int × Int × Bool) =>
lett (p.snd.snd.1, p.snd.snd.snd.1, p.snd.snd.snd.snd.1, y2) fun (y3 : List (List UInt8 × (Int × Int) × Bool) × List (List UInt8 × List Int) × Int × Int × Int × Int × Bool) =>
lett (fTwice (sigNames (p.1, p.snd.1, y3))) fun (y4 : Bool) =>
lett (p.snd.snd.snd.1, p.snd.snd.snd.snd.1, y2).fst fun (y5 : List (List UInt8 × List Int)) =>
lett (fTwice (lineNames (p.1, p.snd.1, y3))) fun (y6 : Bool) =>
lett
((p.1, p.snd.1, y3).fst, (p.snd.1, y3).fst, y3.fst, y5, (p.snd.snd.snd.snd.1, y2).fst, y2.fst,
(p.snd.snd.snd.snd.snd.snd.1, p.snd.snd.snd.snd.snd.snd.snd.1, p.snd.snd.snd.snd.snd.snd.snd.2).fst, p.snd.snd.snd.snd.snd.snd.snd.1, p.snd.snd.snd.snd.snd.snd.snd.2)
fun (y7 : PlanD) =>
(y1 = true → (3 : Int) = fCheck p ∧ True) ∧
(y1 = false →
True ∧
((!fArgs p) = true → (1 : Int) = fCheck p ∧ True) ∧
((!fArgs p) = false →
(↑p.fst.length : Int) = (↑p.fst.length : Int) ∧
(fTwice (elNames p) = false →
(↑y3.fst.length : Int) = (↑y3.fst.length : Int) ∧
(y4 = false →
(↑y5.length : Int) = (↑(p.snd.snd.snd.1, p.snd.snd.snd.snd.1, y2).fst.length : Int) ∧
(y6 = true → (4 : Int) = fCheck p ∧ True) ∧
(y6 = false →
True ∧
((!fJoined y7) = true → (6 : Int) = fCheck p ∧ True) ∧
((!fJoined y7) = false →
(fJoined y7 = true ∧ fNexts? y7 = fNexts y7) ∧
((!fSignals y7) = true → (7 : Int) = fCheck p ∧ True) ∧
((!fSignals y7) = false →
(fJoined y7 = true ∧ fNexts? y7 = fNexts y7) ∧
((!fLines y7) = true → (8 : Int) = fCheck p ∧ True) ∧
((!fLines y7) = false →
(fNums y7 = true ∧ fSignals y7 = true) ∧
((!fLong y7) = true → (9 : Int) = fCheck p ∧ True) ∧ ((!fLong y7) = false → (0 : Int) = fCheck p ∧ True)))))) ∧
(y4 = !false →
(true = true → (4 : Int) = fCheck p ∧ True) ∧
(true = false →
True ∧
((!fJoined y7) = true → (6 : Int) = fCheck p ∧ True) ∧
((!fJoined y7) = false →
(fJoined y7 = true ∧ fNexts? y7 = fNexts y7) ∧
((!fSignals y7) = true → (7 : Int) = fCheck p ∧ True) ∧
((!fSignals y7) = false →
(fJoined y7 = true ∧ fNexts? y7 = fNexts y7) ∧
((!fLines y7) = true → (8 : Int) = fCheck p ∧ True) ∧
((!fLines y7) = false →
(fNums y7 = true ∧ fSignals y7 = true) ∧
((!fLong y7) = true → (9 : Int) = fCheck p ∧ True) ∧ ((!fLong y7) = false → (0 : Int) = fCheck p ∧ True))))))) ∧
(fTwice (elNames p) = !false →
(true = true → (4 : Int) = fCheck p ∧ True) ∧
(true = false →
True ∧
((!fJoined y7) = true → (6 : Int) = fCheck p ∧ True) ∧
((!fJoined y7) = false →
(fJoined y7 = true ∧ fNexts? y7 = fNexts y7) ∧
((!fSignals y7) = true → (7 : Int) = fCheck p ∧ True) ∧
((!fSignals y7) = false →
(fJoined y7 = true ∧ fNexts? y7 = fNexts y7) ∧
((!fLines y7) = true → (8 : Int) = fCheck p ∧ True) ∧
((!fLines y7) = false →
(fNums y7 = true ∧ fSignals y7 = true) ∧
((!fLong y7) = true → (9 : Int) = fCheck p ∧ True) ∧ ((!fLong y7) = false → (0 : Int) = fCheck p ∧ True))))))))) := by kernel_rfl

theorem b51 (p : PlanD) : bodyVC (ctxOf tab [(81, c81), (840082, c840082), (850082, c850082), (860082, c860082), (86, c86), (87, c87), (88, c88), (89, c89)] [] [(83, .pair (.ref PlanT) .unit), (84, .pair (.ref PlanT) .unit), (85, .pair (.ref PlanT) .unit)]) Tryz.f51 c51 noAnn (p, ()) := by
  rw [v51]
  refine lett.mk fun y1 e1 => lett.mk fun y2 e2 => lett.mk fun y3 e3 => lett.mk fun y4 e4 => lett.mk fun y5 e5 => lett.mk fun y6 e6 => lett.mk fun y7 e7 => ?_
  have hy7 : y7 = p := by rw [e7, e5, e3, e2]
  have hy4 : y4 = fTwice (sigNames p) := by rw [e4, e3, e2]
  have hy6 : y6 = fTwice (lineNames p) := by rw [e6, e3, e2]
  have hS : fSizes p = !y1 := by
    rw [e1, gtN _ 40 40 rfl, gtN _ 24 24 rfl, gtN _ 4 4 rfl, gtN _ 80 80 rfl]
    unfold fSizes
    generalize decide (p.1.length ≤ 40) = a; generalize decide (p.2.2.1.length ≤ 24) = b; generalize decide (p.2.2.2.1.length ≤ 4) = c; generalize decide (p.2.1.length ≤ 80) = d
    cases a <;> cases b <;> cases c <;> cases d <;> rfl
  rw [hy7]
  have hC := check_eq p
  simp only [true_and, and_true, eq_self]
  refine ⟨fun h => by rw [hC, hS, h]; rfl, fun h => ?_⟩
  have hS : fSizes p = true := by rw [hS, h]; rfl
  rw [hS] at hC
  refine ⟨fun h => by rw [hC, h]; rfl, fun h => ?_⟩
  have hA : fArgs p = true := by simpa using h
  have hT : fTwices p = (fTwice (elNames p) || (y4 || y6)) := by rw [hy4, hy6]; rfl
  have four : fTwices p = true → (4 : Int) = fCheck p := fun ht => by rw [hC, hA, ht]; rfl
  have rest := check_rest p hS hA
  exact ⟨fun h1 => ⟨fun h2 => ⟨by rw [e5], fun h3 => four (by rw [hT, h3]; simp), fun h3 => rest (by rw [hT, h1, h2, h3]; rfl)⟩, fun h2 => ⟨fun _ => four (by rw [hT, h2]; simp), fun h => by cases h⟩⟩,
    fun h1 => ⟨fun _ => four (by rw [hT, h1]; simp), fun h => by cases h⟩⟩

theorem ok51 : DOk Tryz.prog 51 c51 :=
  DOk.of' (l := [(81, c81), (840082, c840082), (850082, c850082), (860082, c860082), (86, c86), (87, c87), (88, c88), (89, c89)]) (clos := [(83, .pair (.ref PlanT) .unit), (84, .pair (.ref PlanT) .unit), (85, .pair (.ref PlanT) .unit)]) (A := fun _ => noAnn) tabOk
    ⟨ok81, ok840082, ok850082, ok860082, ok86, ok87, ok88, ok89, trivial⟩ Tryz.func51 (by kernel_rfl) (by kernel_rfl) fun x hw hp => b51 x.1

end YtpnnfimacblhgaaGreat
end Go.Proofs
end
