/-
  The reference's plans, small functions: written out and proved.
-/
import Derived.Test.YtpnnfimacblhgaaVlu
set_option maxRecDepth 100000
set_option linter.unusedVariables false
set_option linter.unusedSimpArgs false
set_option maxHeartbeats 1000000
namespace Go.Proofs
open Go Go.Vc
namespace Ytpnnfimacblhgaa

theorem v9 (a : List Int) (b : List Int) : bodyVC (ctxOf tab []) Try.f9 c9 (a9 (a, b, ())) (a, b, ()) = (
lett ((↑a.length : Int) != (↑b.length : Int)) fun (y2 : Bool) =>
(y2 = true → false = (a == b) ∧ True) ∧
(y2 = false →
(∃ (s03 : Nat), (s03 ≤ a.length ∧ sameT a b s03) ∧ (↑s03 : Int) = (0 : Int) ∧ a = a ∧ b = b ∧ True) ∧
∀ (s3 : Nat),
lett (decide ((↑s3 : Int) < (↑a.length : Int))) fun (y4 : Bool) =>
lett (a.getD (↑s3 : Int).toNat (0 : Int) != b.getD (↑s3 : Int).toNat (0 : Int)) fun (y5 : Bool) =>
s3 ≤ a.length ∧ sameT a b s3 →
(y4 = true →
InB (↑s3 : Int) a.length ∧
InB (↑s3 : Int) b.length ∧
(y5 = true → false = (a == b) ∧ True) ∧
(y5 = false →
InR IntKind.i64 ((↑s3 : Int) + (1 : Int)) ∧
∃ (s'6 : Nat), (s'6 ≤ a.length ∧ sameT a b s'6) ∧ a.length - s'6 < a.length - s3 ∧ (↑s'6 : Int) = (↑s3 : Int) + (1 : Int) ∧ a = a ∧ b = b ∧ True)) ∧
(y4 = false → true = (a == b) ∧ True))) := by kernel_rfl

theorem b9 (a : List Int) (b : List Int) (hw : a.length ≤ maxLenI) : bodyVC (ctxOf tab []) Try.f9 c9 (a9 (a, b, ())) (a, b, ()) := by
  rw [v9]
  refine lett.mk fun y2 e2 => ?_
  simp only [true_and, and_true, Int.toNat_natCast]
  refine ⟨neq_of e2, fun h => ?_⟩
  have h := eqlen_of e2 h
  refine ⟨⟨0, ⟨by omega, h, rfl⟩, rfl⟩, fun s => lett.mk fun y4 e4 => lett.mk fun y5 e5 => ?_⟩
  rintro ⟨h1, h2, h3⟩
  refine ⟨fun hs => ?_, fun hs => ?_⟩
  · have hs := lt_of_y e4 hs
    refine ⟨⟨by omega, by omega⟩, ⟨by omega, by omega⟩, fun e => ?_, fun e => ⟨inRlen hs hw, s + 1, ⟨by omega, h, ?_⟩, by omega, by omega⟩⟩
    · exact same_not (s := s) 0 (by rw [e5] at e; simpa using e)
    · exact same_succ 0 h h3 hs (by rw [e5] at e; simpa using e)
  · exact same_full h h3 (le_of_y e4 hs)

theorem ok9 : DOk Try.prog 9 c9 :=
  DOk.of' (l := []) (A := a9) tabOk trivial Try.func9 (by kernel_rfl) (by kernel_rfl) fun x hw _ => b9 x.1 x.2.1 hw.1.1

theorem v10 (a : Int) : bodyVC (ctxOf tab []) Try.f10 c10 noAnn (a, ()) = (
(bif a == (1 : Int) then true else a == (2 : Int)) = (a == (1 : Int) || a == (2 : Int)) ∧ True) := by kernel_rfl

theorem ok10 : DOk Try.prog 10 c10 :=
  DOk.of' (l := []) (A := fun _ => noAnn) tabOk trivial Try.func10 (by kernel_rfl) (by kernel_rfl) fun x _ hp => by
    obtain ⟨a, ⟨⟩⟩ := x
    rw [v10]
    refine ⟨?_, trivial⟩
    have key : ∀ a b : Bool, (bif a then true else b) = (a || b) := by decide
    exact key _ _

theorem v15 (a : Int) (x : Int) (b : Int) (y : Int) : bodyVC (ctxOf tab []) Try.f15 c15 noAnn (a, x, b, y, ()) = (
lett ((a, x), b, y) fun (y4 : (Int × Int) × Int × Int) => y4 = y4 ∧ True) := by kernel_rfl

theorem ok15 : DOk Try.prog 15 c15 :=
  DOk.of' (l := []) (A := fun _ => noAnn) tabOk trivial Try.func15 (by kernel_rfl) (by kernel_rfl) fun x _ hp => by
    obtain ⟨a, x, b, y, ⟨⟩⟩ := x
    rw [v15]
    exact lett.mk fun y4 e4 => ⟨rfl, trivial⟩

theorem v27 (n : Int) (lo : Int) (hi : Int) : bodyVC (ctxOf tab []) Try.f27 c27 noAnn (n, lo, hi, ()) = (
(bif decide (n ≥ lo) then decide (n ≤ hi) else false) = fIn lo hi n ∧ True) := by kernel_rfl

theorem ok27 : DOk Try.prog 27 c27 :=
  DOk.of' (l := []) (A := fun _ => noAnn) tabOk trivial Try.func27 (by kernel_rfl) (by kernel_rfl) fun x _ hp => by
    obtain ⟨n, lo, hi, ⟨⟩⟩ := x
    rw [v27]
    refine ⟨?_, trivial⟩
    have key : ∀ a b : Bool, (bif a then b else false) = (a && b) := by decide
    exact key _ _

theorem v28 (s : List UInt8) : bodyVC (ctxOf tab []) Try.f28 c28 (a28 (s, ())) (s, ()) = (
(∃ (s01 : Nat), (s01 ≤ s.length ∧ allOf (fNameAt s) s01) ∧ (↑s01 : Int) = (0 : Int) ∧ s = s ∧ True) ∧
∀ (s1 : Nat),
lett (decide ((↑s1 : Int) < (↑s.length : Int))) fun (y2 : Bool) =>
lett
(bif
!bif bif decide ((↑(s.getD (↑s1 : Int).toNat (0 : UInt8)).toNat : Int) ≥ (97 : Int)) then decide ((↑(s.getD (↑s1 : Int).toNat (0 : UInt8)).toNat : Int) ≤ (122 : Int)) else false then true
else bif decide ((↑(s.getD (↑s1 : Int).toNat (0 : UInt8)).toNat : Int) ≥ (65 : Int)) then decide ((↑(s.getD (↑s1 : Int).toNat (0 : UInt8)).toNat : Int) ≤ (90 : Int)) else false then
bif bif (↑s1 : Int) == (0 : Int) then true else decide ((↑(s.getD (↑s1 : Int).toNat (0 : UInt8)).toNat : Int) < (48 : Int)) then true
else decide ((↑(s.getD (↑s1 : Int).toNat (0 : UInt8)).toNat : Int) > (57 : Int))
else false)
fun (y3 : Bool) =>
s1 ≤ s.length ∧ allOf (fNameAt s) s1 →
(y2 = true →
InB (↑s1 : Int) s.length ∧
(y3 = true → false = fName s ∧ True) ∧
(y3 = false →
InR IntKind.i64 ((↑s1 : Int) + (1 : Int)) ∧
∃ (s'4 : Nat), (s'4 ≤ s.length ∧ allOf (fNameAt s) s'4) ∧ s.length - s'4 < s.length - s1 ∧ (↑s'4 : Int) = (↑s1 : Int) + (1 : Int) ∧ s = s ∧ True)) ∧
(y2 = false → (bif decide ((↑s.length : Int) ≥ (1 : Int)) then decide ((↑s.length : Int) ≤ (8 : Int)) else false) = fName s ∧ True)) := by kernel_rfl

theorem b28 (s : Str) (hw : s.length ≤ maxLenI) : bodyVC (ctxOf tab []) Try.f28 c28 (a28 (s, ())) (s, ()) := by
  rw [v28]
  simp only [true_and, and_true, Int.toNat_natCast]
  refine ⟨⟨0, ⟨by omega, rfl⟩, rfl⟩, fun i => lett.mk fun y2 e2 => lett.mk fun y3 e3 => ?_⟩
  rintro ⟨h1, h2⟩
  have hc : fNameAt s i = !y3 := by
    rw [geN _ 97 97 rfl, leN _ 122 122 rfl, geN _ 65 65 rfl, leN _ 90 90 rfl, eqN _ 0 0 rfl, ltN _ 48 48 rfl, gtN _ 57 57 rfl] at e3
    rw [e3]
    unfold fNameAt fLetter fDigit
    have key : ∀ a b c d z e f : Bool, (((a && b) || (c && d)) || (!z && (e && f))) = !(bif !(bif (bif a then b else false) then true else (bif c then d else false)) then (bif (bif z then true else !e) then true else !f) else false) := by decide
    exact key _ _ _ _ _ _ _
  refine ⟨fun hs => ?_, fun hs => ?_⟩
  · have hs := lt_of_y e2 hs
    refine ⟨⟨by omega, by omega⟩, fun e => ?_, fun e => ⟨inRlen hs hw, i + 1, ⟨by omega, ?_⟩, by omega, by omega⟩⟩
    · unfold fName
      rw [allTo_no hs (by rw [hc, e]; rfl)]
      rfl
    · exact allTo_succ h2 (by rw [hc, e]; rfl)
  · have hs := le_of_y e2 hs
    have : i = s.length := by omega
    subst this
    have h2 : allTo (fNameAt s) s.length = true := h2
    unfold fName
    rw [h2, geN _ 1 1 rfl, leN _ 8 8 rfl]
    have key : ∀ a b : Bool, (bif a then b else false) = (true && (a && b)) := by decide
    exact key _ _

theorem ok28 : DOk Try.prog 28 c28 :=
  DOk.of' (l := []) (A := a28) tabOk trivial Try.func28 (by kernel_rfl) (by kernel_rfl) fun x hw _ => b28 x.1 hw.1

theorem v29 (k : Int) : bodyVC (ctxOf tab []) Try.f29 c29 noAnn (k, ()) = (
((k == (1 : Int)) = true → (2 : Int) = fEnds k ∧ True) ∧
((k == (1 : Int)) = false →
((k == (2 : Int)) = true → (3 : Int) = fEnds k ∧ True) ∧
((k == (2 : Int)) = false →
((k == (3 : Int)) = true → (4 : Int) = fEnds k ∧ True) ∧
((k == (3 : Int)) = false → ((k == (4 : Int)) = true → (1 : Int) = fEnds k ∧ True) ∧ ((k == (4 : Int)) = false → (0 : Int) = fEnds k ∧ True))))) := by kernel_rfl

theorem ok29 : DOk Try.prog 29 c29 :=
  DOk.of' (l := []) (A := fun _ => noAnn) tabOk trivial Try.func29 (by kernel_rfl) (by kernel_rfl) fun x _ hp => by
    obtain ⟨k, ⟨⟩⟩ := x
    rw [v29]
    unfold fEnds
    cases k == 1 <;> cases k == 2 <;> cases k == 3 <;> cases k == 4 <;> simp

theorem ends_range (k : Int) : 0 ≤ fEnds k ∧ fEnds k ≤ 4 := by
  unfold fEnds
  cases k == 1 <;> cases k == 2 <;> cases k == 3 <;> cases k == 4 <;> simp

theorem v32 (p : PlanD) (e : Int) : bodyVC (ctxOf tab []) Try.f32 c32 noAnn (p, e, ()) = (
lett (bif decide (e < (0 : Int)) then true else decide (e ≥ (↑p.fst.length : Int))) fun (y2 : Bool) =>
(y2 = true → (0 : Int) = fKind p e ∧ True) ∧ (y2 = false → InB e p.fst.length ∧ (p.fst.getD e.toNat ([], (0 : Int), (0 : Int))).snd.fst = fKind p e ∧ True)) := by kernel_rfl

theorem kind_bad {p : PlanD} {e : Int} (h : (decide (e < 0) || decide ((p.1.length : Int) ≤ e)) = true) : fKind p e = 0 := by
  unfold fKind
  rw [h]
  rfl
theorem kind_at {p : PlanD} {e : Int} (h0 : 0 ≤ e) (h1 : e < p.1.length) : fKind p e = (p.1.getD e.toNat zE).2.1 := by
  unfold fKind
  rw [decide_eq_false (by omega), decide_eq_false (by omega)]
  rfl

theorem ok32 : DOk Try.prog 32 c32 :=
  DOk.of' (l := []) (A := fun _ => noAnn) tabOk trivial Try.func32 (by kernel_rfl) (by kernel_rfl) fun x _ hp => by
    obtain ⟨p, e, ⟨⟩⟩ := x
    rw [v32]
    refine lett.mk fun y2 e2 => ⟨fun h => ⟨?_, trivial⟩, fun h => ?_⟩
    · refine (kind_bad ?_).symm
      rw [← h, e2, geI]
      have key : ∀ a b : Bool, (a || b) = (bif a then true else b) := by decide
      exact key _ _
    · rw [h] at e2
      obtain ⟨h1, h2⟩ := bif_or e2.symm
      have h1 := of_decide_eq_false h1
      have h2 := of_decide_eq_false h2
      exact ⟨⟨by omega, by omega⟩, (kind_at (by omega) (by omega)).symm, trivial⟩

theorem v40 (p : PlanD) (e : Int) : bodyVC (ctxOf tab [(32, c32)]) Try.f40 c40 noAnn (p, e, ()) = (
True ∧ fKind p e = fKind p e ∧ True) := by kernel_rfl

theorem ok40 : DOk Try.prog 40 c40 :=
  DOk.of' (l := [(32, c32)]) (A := fun _ => noAnn) tabOk ⟨ok32, trivial⟩ Try.func40 (by kernel_rfl) (by kernel_rfl) fun x _ hp => by
    obtain ⟨p, e, ⟨⟩⟩ := x
    rw [v40]
    exact ⟨trivial, rfl, trivial⟩

theorem v37 (p : PlanD) (e : Int) : bodyVC (ctxOf tab []) Try.f37 c37 noAnn (p, e, ()) = (
lett (bif decide (e < (0 : Int)) then true else decide (e ≥ (↑p.fst.length : Int))) fun (y2 : Bool) =>
(y2 = true → (0 : Int) = fLength p e ∧ True) ∧ (y2 = false → InB e p.fst.length ∧ (p.fst.getD e.toNat ([], (0 : Int), (0 : Int))).snd.snd = fLength p e ∧ True)) := by kernel_rfl

theorem ok37 : DOk Try.prog 37 c37 :=
  DOk.of' (l := []) (A := fun _ => noAnn) tabOk trivial Try.func37 (by kernel_rfl) (by kernel_rfl) fun x _ hp => by
    obtain ⟨p, e, ⟨⟩⟩ := x
    rw [v37]
    refine lett.mk fun y2 e2 => ⟨fun h => ⟨?_, trivial⟩, fun h => ?_⟩
    · unfold fLength
      have : (decide (e < 0) || decide ((p.1.length : Int) ≤ e)) = true := by
        rw [← h, e2, geI]
        have key : ∀ a b : Bool, (a || b) = (bif a then true else b) := by decide
        exact key _ _
      rw [this]
      rfl
    · rw [h] at e2
      obtain ⟨h1, h2⟩ := bif_or e2.symm
      have h1' := of_decide_eq_false h1
      have h2' := of_decide_eq_false h2
      refine ⟨⟨by omega, by omega⟩, ?_, trivial⟩
      unfold fLength
      rw [decide_eq_false (by omega), decide_eq_false (by omega)]
      rfl

theorem v38 (p : PlanD) (s : Int) : bodyVC (ctxOf tab []) Try.f38 c38 noAnn (p, s, ()) = (
lett (bif decide (s < (0 : Int)) then true else decide (s ≥ (↑p.snd.snd.fst.length : Int))) fun (y2 : Bool) =>
(y2 = true → ((0 : Int), (0 : Int)) = (fAt p s).fst ∧ false = (fAt p s).snd ∧ True) ∧
(y2 = false → InB s p.snd.snd.fst.length ∧ (p.snd.snd.fst.getD s.toNat ([], ((0 : Int), (0 : Int)), false)).snd.fst = (fAt p s).fst ∧ true = (fAt p s).snd ∧ True)) := by kernel_rfl

theorem ok38 : DOk Try.prog 38 c38 :=
  DOk.of' (l := []) (A := fun _ => noAnn) tabOk trivial Try.func38 (by kernel_rfl) (by kernel_rfl) fun x _ hp => by
    obtain ⟨p, e, ⟨⟩⟩ := x
    rw [v38]
    refine lett.mk fun y2 e2 => ⟨fun h => ?_, fun h => ?_⟩
    · have : (decide (e < 0) || decide ((p.2.2.1.length : Int) ≤ e)) = true := by
        rw [← h, e2, geI]
        have key : ∀ a b : Bool, (a || b) = (bif a then true else b) := by decide
        exact key _ _
      unfold fAt
      rw [this]
      exact ⟨rfl, rfl, trivial⟩
    · rw [h] at e2
      obtain ⟨h1, h2⟩ := bif_or e2.symm
      have h1' := of_decide_eq_false h1
      have h2' := of_decide_eq_false h2
      refine ⟨⟨by omega, by omega⟩, ?_⟩
      unfold fAt
      rw [decide_eq_false (by omega), decide_eq_false (by omega)]
      exact ⟨rfl, rfl, trivial⟩

theorem v30 (p : PlanD) (x : Int × Int) : bodyVC (ctxOf tab [(29, c29)]) Try.f30 c30 noAnn (p, x, ()) = (
lett (bif bif decide (x.fst ≥ (0 : Int)) then decide (x.fst < (↑p.fst.length : Int)) else false then decide (x.snd ≥ (0 : Int)) else false) fun (y2 : Bool) =>
lett (fEnds (p.fst.getD x.fst.toNat ([], (0 : Int), (0 : Int))).snd.fst) fun (y3 : Int) =>
(y2 = true → InB x.fst p.fst.length) ∧ (y2 = true → True) ∧ (bif y2 then decide (x.snd < y3) else false) = fHas p x ∧ True) := by kernel_rfl

theorem ok30 : DOk Try.prog 30 c30 :=
  DOk.of' (l := [(29, c29)]) (A := fun _ => noAnn) tabOk ⟨ok29, trivial⟩ Try.func30 (by kernel_rfl) (by kernel_rfl) fun x _ hp => by
    obtain ⟨p, x, ⟨⟩⟩ := x
    rw [v30]
    refine lett.mk fun y2 e2 => lett.mk fun y3 e3 => ?_
    rw [geI, geI] at e2
    cases h0 : decide (0 ≤ x.1) with
    | false =>
      rw [h0] at e2
      refine ⟨(fun h => by rw [e2] at h; cases h), fun _ => trivial, ?_, trivial⟩
      rw [e2]
      unfold fHas
      rw [h0]
      rfl
    | true =>
      cases h1 : decide (x.1 < (p.1.length : Int)) with
      | false =>
        rw [h0, h1] at e2
        refine ⟨(fun h => by rw [e2] at h; cases h), fun _ => trivial, ?_, trivial⟩
        rw [e2]
        unfold fHas
        rw [h0, h1]
        rfl
      | true =>
        have h0' := of_decide_eq_true h0
        have h1' := of_decide_eq_true h1
        refine ⟨fun h => ⟨h0', h1'⟩, fun _ => trivial, ?_, trivial⟩
        have e3 : y3 = fEnds (fKind p x.1) := by rw [e3, kind_at h0' h1']; rfl
        rw [e2, h0, h1, e3]
        unfold fHas
        rw [h0, h1]
        have key : ∀ a b : Bool, (bif (bif (bif true then true else false) then a else false) then b else false) = (true && (true && (a && b))) := by decide
        exact key _ _

theorem has_facts {p : PlanD} {x : PortD} (h : fHas p x = true) : (0 ≤ x.1 ∧ x.1 < p.1.length) ∧ 0 ≤ x.2 ∧ x.2 < fEnds (fKind p x.1) := by
  unfold fHas at h
  simp only [Bool.and_eq_true] at h
  exact ⟨⟨of_decide_eq_true h.1, of_decide_eq_true h.2.1⟩, of_decide_eq_true h.2.2.1, of_decide_eq_true h.2.2.2⟩

theorem has_end {p : PlanD} {x : PortD} (h : fHas p x = true) : 0 ≤ x.2 ∧ x.2 ≤ 3 := by
  have h1 := (has_facts h).2
  have h2 := ends_range (fKind p x.1)
  omega

theorem v31 (p : PlanD) (x : Int × Int) : bodyVC (ctxOf tab []) Try.f31 c31 (a31 (p, x, ())) (p, x, ()) = (
lett (((0 : Int), (0 : Int)), (0 : Int), (0 : Int)) fun (y2 : (Int × Int) × Int × Int) =>
(∃ (s03 : Nat),
(s03 ≤ p.snd.fst.length ∧ noneT (joinOf x) p.snd.fst s03) ∧
(↑s03 : Int) = (0 : Int) ∧
keepP p (x.fst = x.fst ∧ x.snd = x.snd ∧ (0 : Int) = (0 : Int) ∧ (0 : Int) = (0 : Int) ∧ True)) ∧
∀ (s3 : Nat),
lett (decide ((↑s3 : Int) < (↑p.snd.fst.length : Int))) fun (y4 : Bool) =>
lett (p.snd.fst.getD (↑s3 : Int).toNat y2) fun (y5 : (Int × Int) × Int × Int) =>
lett (y5.fst.fst == x.fst && (y5.fst.snd == x.snd && true)) fun (y6 : Bool) =>
lett (y5.snd.fst == x.fst && (y5.snd.snd == x.snd && true)) fun (y7 : Bool) =>
s3 ≤ p.snd.fst.length ∧ noneT (joinOf x) p.snd.fst s3 →
(y4 = true →
InB (↑s3 : Int) p.snd.fst.length ∧
(y6 = true → InB (↑s3 : Int) p.snd.fst.length ∧ y5.snd = (fNext p x).fst ∧ true = (fNext p x).snd ∧ True) ∧
(y6 = false →
InB (↑s3 : Int) p.snd.fst.length ∧
(y7 = true → InB (↑s3 : Int) p.snd.fst.length ∧ y5.fst = (fNext p x).fst ∧ true = (fNext p x).snd ∧ True) ∧
(y7 = false →
InR IntKind.i64 ((↑s3 : Int) + (1 : Int)) ∧
∃ (s'8 : Nat),
(s'8 ≤ p.snd.fst.length ∧ noneT (joinOf x) p.snd.fst s'8) ∧
p.snd.fst.length - s'8 < p.snd.fst.length - s3 ∧
(↑s'8 : Int) = (↑s3 : Int) + (1 : Int) ∧
keepP p (x.fst = x.fst ∧ x.snd = x.snd ∧ (0 : Int) = (0 : Int) ∧ (0 : Int) = (0 : Int) ∧ True)))) ∧
(y4 = false → ((0 : Int), (0 : Int)) = (fNext p x).fst ∧ false = (fNext p x).snd ∧ True)) := by kernel_rfl

theorem b31 (p : PlanD) (x : PortD) (hw : planWf p) : bodyVC (ctxOf tab []) Try.f31 c31 (a31 (p, x, ())) (p, x, ()) := by
  rw [v31]
  refine lett.mk fun y2 e2 => ?_
  simp only [keepP_eq, true_and, and_true, Int.toNat_natCast]
  refine ⟨⟨0, ⟨by omega, rfl⟩, rfl⟩, fun s => lett.mk fun y4 e4 => lett.mk fun y5 e5 => lett.mk fun y6 e6 => lett.mk fun y7 e7 => ?_⟩
  rintro ⟨h1, h2⟩
  have h2 : (p.2.1.take s).any (joinOf x) = false := h2
  have e6 : y6 = (y5.1 == x) := by rw [e6]; exact portBeq _ _
  have e7 : y7 = (y5.2 == x) := by rw [e7]; exact portBeq _ _
  have hj : joinOf x y5 = (y6 || y7) := by rw [e6, e7]; rfl
  refine ⟨fun hs => ?_, fun hs => ?_⟩
  · have hs := lt_of_y e4 hs
    have hin : InB (s : Int) p.2.1.length := ⟨by omega, by omega⟩
    have hf : joinOf x y5 = true → fNext p x = (bif y5.1 == x then y5.2 else y5.1, true) := fun h => by
      have hf : p.2.1.find? (joinOf x) = some y5 := by
        rw [e5] at h ⊢
        exact find_at y2 hs h2 h
      unfold fNext
      exact congrArg (fun o => nextOf o x) hf
    refine ⟨hin, fun h6 => ⟨hin, ?_⟩, fun h6 => ⟨hin, fun h7 => ⟨hin, ?_⟩, fun h7 => ⟨inRlen hs hw.2.1, s + 1, ⟨by omega, ?_⟩, by omega, by omega⟩⟩⟩
    · rw [hf (by rw [hj, h6]; rfl), ← e6, h6]
      exact ⟨rfl, rfl⟩
    · rw [hf (by rw [hj, h6, h7]; rfl), ← e6, h6]
      exact ⟨rfl, rfl⟩
    · exact any_succ y2 hs h2 (by rw [← e5, hj, h6, h7]; rfl)
  · have hf : p.2.1.find? (joinOf x) = none := find_none (le_of_y e4 hs) h2
    have : fNext p x = ((0, 0), false) := by
      unfold fNext
      exact congrArg (fun o => nextOf o x) hf
    rw [this]
    exact ⟨rfl, rfl⟩

theorem ok31 : DOk Try.prog 31 c31 :=
  DOk.of' (l := []) (A := a31) tabOk trivial Try.func31 (by kernel_rfl) (by kernel_rfl) fun x hw _ => b31 x.1 x.2.1 (plan_wf hw.1)

/-- What is joined is an end of a join. -/
theorem next_mem {p : PlanD} {x : PortD} (h : (fNext p x).2 = true) : (fNext p x).1 ∈ joinEnds p := by
  unfold fNext at h ⊢
  cases hf : p.2.1.find? (fun j => j.1 == x || j.2 == x) with
  | none => rw [hf] at h; cases h
  | some j =>
    have hm := List.mem_of_find?_eq_some hf
    unfold joinEnds
    rw [List.mem_flatMap]
    refine ⟨j, hm, ?_⟩
    show (bif j.1 == x then j.2 else j.1) ∈ [j.1, j.2]
    cases j.1 == x <;> simp

theorem v33 (p : PlanD) (x : Int × Int) : bodyVC (ctxOf tab []) Try.f33 c33 (a33 (p, x, ())) (p, x, ()) = (
(∃ (s02 : Nat),
(s02 ≤ p.snd.snd.fst.length ∧ noneOf (readOf p x) s02) ∧
(↑s02 : Int) = (0 : Int) ∧
keepP p (x.fst = x.fst ∧ x.snd = x.snd ∧ True)) ∧
∀ (s2 : Nat),
lett (decide ((↑s2 : Int) < (↑p.snd.snd.fst.length : Int))) fun (y3 : Bool) =>
lett (p.snd.snd.fst.getD (↑s2 : Int).toNat ([], ((0 : Int), (0 : Int)), false)).snd.fst fun (y4 : Int × Int) =>
lett (y4.fst == x.fst && (y4.snd == x.snd && true)) fun (y5 : Bool) =>
s2 ≤ p.snd.snd.fst.length ∧ noneOf (readOf p x) s2 →
(y3 = true →
InB (↑s2 : Int) p.snd.snd.fst.length ∧
(y5 = true → (↑s2 : Int) = fReads p x ∧ True) ∧
(y5 = false →
InR IntKind.i64 ((↑s2 : Int) + (1 : Int)) ∧
∃ (s'6 : Nat),
(s'6 ≤ p.snd.snd.fst.length ∧ noneOf (readOf p x) s'6) ∧
p.snd.snd.fst.length - s'6 < p.snd.snd.fst.length - s2 ∧
(↑s'6 : Int) = (↑s2 : Int) + (1 : Int) ∧
keepP p (x.fst = x.fst ∧ x.snd = x.snd ∧ True))) ∧
(y3 = false → (-1 : Int) = fReads p x ∧ True)) := by kernel_rfl

theorem b33 (p : PlanD) (x : PortD) (hw : planWf p) : bodyVC (ctxOf tab []) Try.f33 c33 (a33 (p, x, ())) (p, x, ()) := by
  rw [v33]
  simp only [keepP_eq, true_and, and_true, Int.toNat_natCast]
  refine ⟨⟨0, ⟨by omega, rfl⟩, rfl⟩, fun s => lett.mk fun y3 e3 => lett.mk fun y4 e4 => lett.mk fun y5 e5 => ?_⟩
  rintro ⟨h1, h2⟩
  have h2 : anyTo (readOf p x) s = false := h2
  have e5 : readOf p x s = y5 := by rw [e5, portBeq, e4]; rfl
  refine ⟨fun hs => ?_, fun hs => ?_⟩
  · have hs := lt_of_y e3 hs
    refine ⟨⟨by omega, by omega⟩, fun h => ?_, fun h => ⟨inRlen hs hw.2.2.1, s + 1, ⟨by omega, ?_⟩, by omega, by omega⟩⟩
    · unfold fReads
      exact (congrArg idxOr (firstTo_at (p := readOf p x) hs h2 (by rw [e5, h]))).symm
    · exact anyTo_succ h2 (by rw [e5, h])
  · have hs := le_of_y e3 hs
    have : s = p.2.2.1.length := by omega
    subst this
    unfold fReads
    exact (congrArg idxOr (firstTo_none (p := readOf p x) h2)).symm

theorem ok33 : DOk Try.prog 33 c33 :=
  DOk.of' (l := []) (A := a33) tabOk trivial Try.func33 (by kernel_rfl) (by kernel_rfl) fun x hw _ => b33 x.1 x.2.1 (plan_wf hw.1)

theorem v34 (l : List Int) (n : Int) : bodyVC (ctxOf tab []) Try.f34 c34 (a34 (l, n, ())) (l, n, ()) = (
(∃ (s02 : Nat), (s02 ≤ l.length ∧ noneT (fun (y : Int) => y == n) l s02) ∧ (↑s02 : Int) = (0 : Int) ∧ l = l ∧ n = n ∧ True) ∧
∀ (s2 : Nat),
lett (decide ((↑s2 : Int) < (↑l.length : Int))) fun (y3 : Bool) =>
lett (l.getD (↑s2 : Int).toNat (0 : Int) == n) fun (y4 : Bool) =>
s2 ≤ l.length ∧ noneT (fun (y : Int) => y == n) l s2 →
(y3 = true →
InB (↑s2 : Int) l.length ∧
(y4 = true → true = fMem l n ∧ True) ∧
(y4 = false →
InR IntKind.i64 ((↑s2 : Int) + (1 : Int)) ∧
∃ (s'5 : Nat), (s'5 ≤ l.length ∧ noneT (fun (y : Int) => y == n) l s'5) ∧ l.length - s'5 < l.length - s2 ∧ (↑s'5 : Int) = (↑s2 : Int) + (1 : Int) ∧ l = l ∧ n = n ∧ True)) ∧
(y3 = false → false = fMem l n ∧ True)) := by kernel_rfl

theorem b34 (l : List Int) (n : Int) (hw : l.length ≤ maxLenI) : bodyVC (ctxOf tab []) Try.f34 c34 (a34 (l, n, ())) (l, n, ()) := by
  rw [v34]
  simp only [true_and, and_true, Int.toNat_natCast]
  refine ⟨⟨0, ⟨by omega, rfl⟩, rfl⟩, fun s => lett.mk fun y3 e3 => lett.mk fun y4 e4 => ?_⟩
  rintro ⟨h1, h2⟩
  have h2 : (l.take s).any (fun y => y == n) = false := h2
  refine ⟨fun hs => ?_, fun hs => ?_⟩
  · have hs := lt_of_y e3 hs
    refine ⟨⟨by omega, by omega⟩, fun h => ?_, fun h => ⟨inRlen hs hw, s + 1, ⟨by omega, ?_⟩, by omega, by omega⟩⟩
    · unfold fMem
      exact (any_yes (p := fun y => y == n) 0 hs (by rw [← h, e4])).symm
    · exact any_succ (p := fun y => y == n) 0 hs h2 (by rw [← h, e4])
  · unfold fMem
    exact (any_full (le_of_y e3 hs) h2).symm

theorem ok34 : DOk Try.prog 34 c34 :=
  DOk.of' (l := []) (A := a34) tabOk trivial Try.func34 (by kernel_rfl) (by kernel_rfl) fun x hw _ => b34 x.1 x.2.1 hw.1.1

theorem v36 (v : Int) (b : Int) : bodyVC (ctxOf tab []) Try.f36 c36 (a36 (v, b, ())) (v, b, ()) = (
lett (bif bif bif decide (v < (0 : Int)) then true else decide (v > (60 : Int)) then true else decide (b < (1 : Int)) then true else decide (b > (10 : Int))) fun (y2 : Bool) =>
(y2 = true → (0 : Int) = fStop v b ∧ True) ∧
(y2 = false →
InR IntKind.i64 (v - b) ∧
(∃ (s03 : Nat), (s03 ≤ (60 : Nat) ∧ noneOf (stopDone v b) s03) ∧ v - b * ((↑s03 : Int) + (1 : Int)) = v - b ∧ stopUp v b s03 = (0 : Int) ∧ b = b ∧ True) ∧
∀ (s3 : Nat),
lett (v - b * ((↑s3 : Int) + (1 : Int))) fun (y4 : Int) =>
lett (stopUp v b s3 + y4) fun (y5 : Int) =>
s3 ≤ (60 : Nat) ∧ noneOf (stopDone v b) s3 →
(decide (y4 > (0 : Int)) = true →
InR IntKind.i64 y5 ∧
InR IntKind.i64 (y4 - b) ∧
∃ (s'6 : Nat),
(s'6 ≤ (60 : Nat) ∧ noneOf (stopDone v b) s'6) ∧ (60 : Nat) - s'6 < (60 : Nat) - s3 ∧ v - b * ((↑s'6 : Int) + (1 : Int)) = y4 - b ∧ stopUp v b s'6 = y5 ∧ b = b ∧ True) ∧
(decide (y4 > (0 : Int)) = false → stopUp v b s3 = fStop v b ∧ True))) := by kernel_rfl

theorem stop_small {v b : Int} (hb : 1 ≤ b) (k : Nat) : b * ((k : Int) + 1) ≥ (k : Int) + 1 := by
  have := Int.mul_le_mul_of_nonneg_right hb (show (0 : Int) ≤ (k : Int) + 1 by omega)
  rw [Int.one_mul] at this
  exact this

theorem stop_range {v b : Int} (hv : 0 ≤ v ∧ v ≤ 60) (hb : 1 ≤ b) : ∀ k, anyTo (stopDone v b) k = false → 0 ≤ stopUp v b k ∧ stopUp v b k ≤ 60 * (k : Int)
  | 0, _ => by show (0 : Int) ≤ 0 ∧ (0 : Int) ≤ 60 * ((0 : Nat) : Int); omega
  | k + 1, h => by
    have h' : (anyTo (stopDone v b) k || stopDone v b k) = false := h
    rw [Bool.or_eq_false_iff] at h'
    obtain ⟨i1, i2⟩ := stop_range hv hb k h'.1
    have h2 := of_decide_eq_false h'.2
    have h3 := stop_small (v := v) hb k
    show 0 ≤ stopUp v b k + (v - b * ((k : Int) + 1)) ∧ stopUp v b k + (v - b * ((k : Int) + 1)) ≤ 60 * ((k + 1 : Nat) : Int)
    generalize b * ((k : Int) + 1) = q at *
    omega

theorem b36 (v : Int) (b : Int) : bodyVC (ctxOf tab []) Try.f36 c36 (a36 (v, b, ())) (v, b, ()) := by
  rw [v36]
  refine lett.mk fun y2 e2 => ?_
  simp only [true_and, and_true, Int.toNat_natCast]
  have e2 : y2 = !(fIn 0 60 v && fIn 1 10 b) := by
    rw [e2, ltI, gtI, ltI, gtI]
    unfold fIn
    have key : ∀ a b c d : Bool, (bif (bif (bif !a then true else !b) then true else !c) then true else !d) = !((a && b) && (c && d)) := by decide
    exact key _ _ _ _
  refine ⟨fun h => ?_, fun h => ?_⟩
  · rw [e2] at h
    simp only [Bool.not_eq_true'] at h
    unfold fStop
    rw [h]
    rfl
  rw [e2] at h
  simp only [Bool.not_eq_false'] at h
  have hS : fStop v b = stopUp v b (stopAt v b) := by
    unfold fStop
    rw [h]
    rfl
  rw [Bool.and_eq_true] at h
  unfold fIn at h
  rw [Bool.and_eq_true, Bool.and_eq_true] at h
  obtain ⟨⟨h1, h2⟩, h3, h4⟩ := h
  have h1 := of_decide_eq_true h1
  have h2 := of_decide_eq_true h2
  have h3 := of_decide_eq_true h3
  have h4 := of_decide_eq_true h4
  refine ⟨inR64 (by omega) (by omega), ⟨0, ⟨by omega, rfl⟩, by simp, rfl⟩, fun s => lett.mk fun y4 e4 => lett.mk fun y5 e5 => ?_⟩
  rintro ⟨g1, g2⟩
  have g2 : anyTo (stopDone v b) s = false := g2
  have hr := stop_range ⟨h1, h2⟩ h3 s g2
  have hq := stop_small (v := v) h3 s
  refine ⟨fun h => ?_, fun h => ?_⟩
  · have h := of_decide_eq_true h
    refine ⟨inR64 (by omega) (by omega), inR64 (by omega) (by omega), s + 1, ⟨by omega, ?_⟩, by omega, ?_, ?_⟩
    · exact anyTo_succ g2 (decide_eq_false (by omega))
    · have : ((s + 1 : Nat) : Int) = (s : Int) + 1 := by omega
      rw [this, e4, Int.mul_add b ((s : Int) + 1) 1, Int.mul_one]
      omega
    · rw [e5, e4]
      rfl
  · have h := of_decide_eq_false h
    have : stopAt v b = s := by
      unfold stopAt
      have := firstTo_at (p := stopDone v b) (n := 100) (k := s) (by omega) g2 (decide_eq_true (by omega))
      exact congrArg (fun o => Option.getD o 0) this
    rw [hS, this]

theorem ok36 : DOk Try.prog 36 c36 :=
  DOk.of' (l := []) (A := a36) tabOk trivial Try.func36 (by kernel_rfl) (by kernel_rfl) fun x hw _ => b36 x.1 x.2.1

theorem fStop_range (v b : Int) : 0 ≤ fStop v b ∧ fStop v b ≤ 10000 := by
  unfold fStop
  cases h : (fIn 0 60 v && fIn 1 10 b) with
  | false => exact ⟨Int.le_refl 0, show (0 : Int) ≤ 10000 by decide⟩
  | true =>
    rw [Bool.and_eq_true] at h
    unfold fIn at h
    rw [Bool.and_eq_true, Bool.and_eq_true] at h
    obtain ⟨⟨h1, h2⟩, h3, h4⟩ := h
    have h1 := of_decide_eq_true h1
    have h2 := of_decide_eq_true h2
    have h3 := of_decide_eq_true h3
    show 0 ≤ stopUp v b (stopAt v b) ∧ stopUp v b (stopAt v b) ≤ 10000
    have hk : stopAt v b ≤ 99 ∧ anyTo (stopDone v b) (stopAt v b) = false := by
      unfold stopAt
      cases hf : firstTo (fun k => decide (v - b * ((k : Int) + 1) ≤ 0)) 100 with
      | none => exact ⟨by decide, rfl⟩
      | some k =>
        have h5 := (firstTo_some hf).1
        refine ⟨by show k ≤ 99; omega, ?_⟩
        show anyTo (stopDone v b) k = false
        rw [anyTo_none]
        intro i hi
        unfold firstTo at hf
        rw [List.find?_range_eq_some] at hf
        have := hf.2.2 i hi
        simp only [Bool.not_eq_true'] at this
        exact this
    have := stop_range ⟨h1, h2⟩ h3 _ hk.2
    omega

theorem v43 (p : PlanD) (e : Int) (i : Int) : bodyVC (ctxOf tab [(30, c30), (32, c32)]) Try.f43 c43 noAnn (p, e, i, ()) = (
lett (!fHas p (e, i)) fun (y3 : Bool) =>
True ∧
(y3 = true → [] = fOuts p e i ∧ True) ∧
(y3 = false →
True ∧
((fKind p e == (1 : Int)) = true → InR IntKind.i64 ((1 : Int) - i) ∧ (List.replicate (1 : Nat) ((0 : Int), (0 : Int))).set (0 : Nat) ((1 : Int) - i, (0 : Int)) = fOuts p e i ∧ True) ∧
((fKind p e == (1 : Int)) = false →
((fKind p e == (3 : Int)) = true → (List.replicate (1 : Nat) ((0 : Int), (0 : Int))).set (0 : Nat) (bitsOf BinOp.xor IntKind.i64 i (1 : Int), (0 : Int)) = fOuts p e i ∧ True) ∧
((fKind p e == (3 : Int)) = false →
((fKind p e == (2 : Int)) = true →
((i == (0 : Int)) = true → ((List.replicate (2 : Nat) ((0 : Int), (0 : Int))).set (0 : Nat) ((1 : Int), (1 : Int))).set (1 : Nat) ((2 : Int), (2 : Int)) = fOuts p e i ∧ True) ∧
((i == (0 : Int)) = false → (List.replicate (1 : Nat) ((0 : Int), (0 : Int))).set (0 : Nat) ((0 : Int), i) = fOuts p e i ∧ True)) ∧
((fKind p e == (2 : Int)) = false → [] = fOuts p e i ∧ True))))) := by kernel_rfl

theorem xor_cross {i : Int} (he : 0 ≤ i ∧ i ≤ 3) : bitsOf BinOp.xor IntKind.i64 i 1 = fCross i := by
  have hc : i = 0 ∨ i = 1 ∨ i = 2 ∨ i = 3 := by omega
  rcases hc with rfl | rfl | rfl | rfl <;> decide

theorem ok43 : DOk Try.prog 43 c43 :=
  DOk.of' (l := [(30, c30), (32, c32)]) (A := fun _ => noAnn) tabOk ⟨ok30, ok32, trivial⟩ Try.func43 (by kernel_rfl) (by kernel_rfl) fun x _ hp => by
    obtain ⟨p, e, i, ⟨⟩⟩ := x
    rw [v43]
    refine lett.mk fun y3 e3 => ⟨trivial, fun h => ⟨?_, trivial⟩, fun h => ?_⟩
    · unfold fOuts
      rw [← e3, h]
      rfl
    rw [e3] at h
    have hh : fHas p (e, i) = true := by simpa using h
    have he := has_end hh
    have he : 0 ≤ i ∧ i ≤ 3 := he
    refine ⟨trivial, fun h1 => ⟨inR64 (by omega) (by omega), ?_, trivial⟩, fun h1 => ⟨fun h3 => ⟨?_, trivial⟩, fun h3 => ⟨fun h2 => ⟨fun h0 => ⟨?_, trivial⟩, fun h0 => ⟨?_, trivial⟩⟩, fun h2 => ⟨?_, trivial⟩⟩⟩⟩
    · unfold fOuts
      rw [h, h1]
      rfl
    · unfold fOuts
      rw [h, h1, h3]
      rw [xor_cross he]
      rfl
    · unfold fOuts
      rw [h, h1, h3, h2, h0]
      rfl
    · unfold fOuts
      rw [h, h1, h3, h2, h0]
      rfl
    · unfold fOuts
      rw [h, h1, h3, h2]
      rfl

theorem outs_len (p : PlanD) (e i : Int) : (fOuts p e i).length ≤ 2 := by
  unfold fOuts
  cases !fHas p (e, i) <;> cases fKind p e == 1 <;> cases fKind p e == 3 <;> cases fKind p e == 2 <;> cases i == 0 <;> simp

theorem v51 (p : PlanD) (e : Int) (i : Int) (pos : Int) : bodyVC (ctxOf tab [(43, c43)]) Try.f51 c51 (a51 (p, e, i, pos, ())) (p, e, i, pos, ()) = (
lett (fThrough p e i pos).fst fun (y4 : Int) =>
lett (fThrough p e i pos).snd fun (y5 : Bool) =>
True ∧
(∃ (s06 : Nat), (s06 ≤ (fOuts p e i).length ∧ noneT (wayFits pos) (fOuts p e i) s06) ∧ (↑s06 : Int) = (0 : Int) ∧ pos = pos ∧ fOuts p e i = fOuts p e i ∧ True) ∧
∀ (s6 : Nat),
lett (decide ((↑s6 : Int) < (↑(fOuts p e i).length : Int))) fun (y7 : Bool) =>
lett ((fOuts p e i).getD (↑s6 : Int).toNat ((0 : Int), (0 : Int))) fun (y8 : Int × Int) =>
lett (bif y8.snd == (0 : Int) then true else y8.snd == pos) fun (y9 : Bool) =>
s6 ≤ (fOuts p e i).length ∧ noneT (wayFits pos) (fOuts p e i) s6 →
(y7 = true →
InB (↑s6 : Int) (fOuts p e i).length ∧
((y8.snd == (0 : Int)) = false → InB (↑s6 : Int) (fOuts p e i).length) ∧
(y9 = true → InB (↑s6 : Int) (fOuts p e i).length ∧ y8.fst = y4 ∧ true = y5 ∧ True) ∧
(y9 = false →
InR IntKind.i64 ((↑s6 : Int) + (1 : Int)) ∧
∃ (s'10 : Nat),
(s'10 ≤ (fOuts p e i).length ∧ noneT (wayFits pos) (fOuts p e i) s'10) ∧
(fOuts p e i).length - s'10 < (fOuts p e i).length - s6 ∧ (↑s'10 : Int) = (↑s6 : Int) + (1 : Int) ∧ pos = pos ∧ fOuts p e i = fOuts p e i ∧ True)) ∧
(y7 = false → (0 : Int) = y4 ∧ false = y5 ∧ True)) := by kernel_rfl

theorem b51 (p : PlanD) (e : Int) (i : Int) (pos : Int) : bodyVC (ctxOf tab [(43, c43)]) Try.f51 c51 (a51 (p, e, i, pos, ())) (p, e, i, pos, ()) := by
  have hl := outs_len p e i
  rw [v51]
  refine lett.mk fun y4 e4 => lett.mk fun y5 e5 => ?_
  simp only [true_and, and_true, Int.toNat_natCast]
  refine ⟨⟨0, ⟨by omega, rfl⟩, rfl⟩, fun s => lett.mk fun y7 e7 => lett.mk fun y8 e8 => lett.mk fun y9 e9 => ?_⟩
  rintro ⟨h1, h2⟩
  have h2 : ((fOuts p e i).take s).any (wayFits pos) = false := h2
  have e9 : wayFits pos y8 = y9 := by
    rw [e9]
    unfold wayFits
    have key : ∀ a b : Bool, (a || b) = (bif a then true else b) := by decide
    exact key _ _
  refine ⟨fun hs => ?_, fun hs => ?_⟩
  · have hs := lt_of_y e7 hs
    have hin : InB (s : Int) (fOuts p e i).length := ⟨by omega, by omega⟩
    refine ⟨hin, fun _ => hin, fun h => ⟨hin, ?_⟩, fun h => ⟨inR64 (by omega) (by omega), s + 1, ⟨by omega, ?_⟩, by omega, by omega⟩⟩
    · have hf : (fOuts p e i).find? (wayFits pos) = some y8 := by
        rw [e8]
        exact find_at (0, 0) hs h2 (by rw [← e8, e9, h])
      have : fThrough p e i pos = (y8.1, true) := by
        unfold fThrough
        exact congrArg wayOf hf
      rw [e4, e5, this]
      exact ⟨rfl, rfl⟩
    · exact any_succ (0, 0) hs h2 (by rw [← e8, e9, h])
  · have hf : (fOuts p e i).find? (wayFits pos) = none := find_none (le_of_y e7 hs) h2
    have : fThrough p e i pos = (0, false) := by
      unfold fThrough
      exact congrArg wayOf hf
    rw [e4, e5, this]
    exact ⟨rfl, rfl⟩

theorem ok51 : DOk Try.prog 51 c51 :=
  DOk.of' (l := [(43, c43)]) (A := a51) tabOk ⟨ok43, trivial⟩ Try.func51 (by kernel_rfl) (by kernel_rfl) fun x _ _ => b51 x.1 x.2.1 x.2.2.1 x.2.2.2.1

theorem v47 (p : PlanD) (e : Int) (out : Int) (pos : Int) : bodyVC (ctxOf tab [(32, c32), (29, c29), (51, c51)]) Try.f47 c47 (a47 (p, e, out, pos, ())) (p, e, out, pos, ()) = (
lett (fFrom p e out pos).fst fun (y4 : Int) =>
lett (fFrom p e out pos).snd fun (y5 : Bool) =>
(∃ (s06 : Nat),
(s06 ≤ (fEnds (fKind p e)).toNat ∧ noneOf (fromOf p e out pos) s06) ∧
(↑s06 : Int) = (0 : Int) ∧
e = e ∧
out = out ∧
pos = pos ∧
keepP p (True)) ∧
∀ (s6 : Nat),
lett (decide ((↑s6 : Int) < fEnds (fKind p e))) fun (y7 : Bool) =>
lett (fThrough p e (↑s6 : Int) pos) fun (y8 : Int × Bool) =>
lett (bif y8.snd then y8.fst == out else false) fun (y9 : Bool) =>
s6 ≤ (fEnds (fKind p e)).toNat ∧ noneOf (fromOf p e out pos) s6 →
True ∧
True ∧
(y7 = true →
True ∧
(y9 = true → (↑s6 : Int) = y4 ∧ true = y5 ∧ True) ∧
(y9 = false →
InR IntKind.i64 ((↑s6 : Int) + (1 : Int)) ∧
∃ (s'10 : Nat),
(s'10 ≤ (fEnds (fKind p e)).toNat ∧ noneOf (fromOf p e out pos) s'10) ∧
(fEnds (fKind p e)).toNat - s'10 < (fEnds (fKind p e)).toNat - s6 ∧
(↑s'10 : Int) = (↑s6 : Int) + (1 : Int) ∧
e = e ∧
out = out ∧
pos = pos ∧
keepP p (True))) ∧
(y7 = false → (0 : Int) = y4 ∧ false = y5 ∧ True)) := by kernel_rfl

theorem b47 (p : PlanD) (e : Int) (out : Int) (pos : Int) : bodyVC (ctxOf tab [(32, c32), (29, c29), (51, c51)]) Try.f47 c47 (a47 (p, e, out, pos, ())) (p, e, out, pos, ()) := by
  have hr := ends_range (fKind p e)
  rw [v47]
  refine lett.mk fun y4 e4 => lett.mk fun y5 e5 => ?_
  simp only [keepP_eq, true_and, and_true, Int.toNat_natCast]
  refine ⟨⟨0, ⟨by omega, rfl⟩, rfl⟩, fun s => lett.mk fun y7 e7 => lett.mk fun y8 e8 => lett.mk fun y9 e9 => ?_⟩
  rintro ⟨h1, h2⟩
  have h2 : anyTo (fromOf p e out pos) s = false := h2
  have e9 : fromOf p e out pos s = y9 := by
    rw [e9, e8]
    unfold fromOf
    have key : ∀ a b : Bool, (a && b) = (bif a then b else false) := by decide
    exact key _ _
  refine ⟨fun hs => ?_, fun hs => ?_⟩
  · rw [e7] at hs
    have hs := of_decide_eq_true hs
    have hs : s < (fEnds (fKind p e)).toNat := by omega
    refine ⟨fun h => ?_, fun h => ⟨inR64 (by omega) (by omega), s + 1, ⟨by omega, ?_⟩, by omega, by omega⟩⟩
    · have : fFrom p e out pos = ((s : Int), true) := by
        unfold fFrom
        exact congrArg inOf (firstTo_at (p := fromOf p e out pos) hs h2 (by rw [e9, h]))
      rw [e4, e5, this]
      exact ⟨rfl, rfl⟩
    · exact anyTo_succ h2 (by rw [e9, h])
  · rw [e7] at hs
    have hs := of_decide_eq_false hs
    have : s = (fEnds (fKind p e)).toNat := by omega
    subst this
    have : fFrom p e out pos = (0, false) := by
      unfold fFrom
      exact congrArg inOf (firstTo_none (p := fromOf p e out pos) h2)
    rw [e4, e5, this]
    exact ⟨rfl, rfl⟩

theorem ok47 : DOk Try.prog 47 c47 :=
  DOk.of' (l := [(32, c32), (29, c29), (51, c51)]) (A := a47) tabOk ⟨ok32, ok29, ok51, trivial⟩ Try.func47 (by kernel_rfl) (by kernel_rfl) fun x _ _ => b47 x.1 x.2.1 x.2.2.1 x.2.2.2.1

theorem v19 (l : List (List UInt8)) : bodyVC (ctxOf tab []) Try.f19 c19 (a19 (l, ())) (l, ()) = (
(∃ (s01 : Nat), (s01 ≤ l.length ∧ noneOf (fun (i : Nat) => anyTo (sameText l i) i) s01) ∧ (↑s01 : Int) = (0 : Int) ∧ l = l ∧ True) ∧
∀ (s1 : Nat),
lett (decide ((↑s1 : Int) < (↑l.length : Int))) fun (y2 : Bool) =>
s1 ≤ l.length ∧ noneOf (fun (i : Nat) => anyTo (sameText l i) i) s1 →
(y2 = true →
(∃ (s03 : Nat), (s03 ≤ (↑s1 : Int).toNat ∧ noneOf (sameText l (↑s1 : Int).toNat) s03) ∧ (↑s03 : Int) = (0 : Int) ∧ l = l ∧ (↑s1 : Int) = (↑s1 : Int) ∧ True) ∧
∀ (s3 : Nat),
lett (decide ((↑s3 : Int) < (↑s1 : Int))) fun (y4 : Bool) =>
lett (l.getD (↑s1 : Int).toNat [] == l.getD (↑s3 : Int).toNat []) fun (y5 : Bool) =>
s3 ≤ (↑s1 : Int).toNat ∧ noneOf (sameText l (↑s1 : Int).toNat) s3 →
(y4 = true →
InB (↑s1 : Int) l.length ∧
InB (↑s3 : Int) l.length ∧
(y5 = true → true = fTwice l ∧ True) ∧
(y5 = false →
InR IntKind.i64 ((↑s3 : Int) + (1 : Int)) ∧
∃ (s'6 : Nat),
(s'6 ≤ (↑s1 : Int).toNat ∧ noneOf (sameText l (↑s1 : Int).toNat) s'6) ∧
(↑s1 : Int).toNat - s'6 < (↑s1 : Int).toNat - s3 ∧ (↑s'6 : Int) = (↑s3 : Int) + (1 : Int) ∧ l = l ∧ (↑s1 : Int) = (↑s1 : Int) ∧ True)) ∧
(y4 = false →
InR IntKind.i64 ((↑s1 : Int) + (1 : Int)) ∧
∃ (s'6 : Nat),
(s'6 ≤ l.length ∧ noneOf (fun (i : Nat) => anyTo (sameText l i) i) s'6) ∧ l.length - s'6 < l.length - s1 ∧ (↑s'6 : Int) = (↑s1 : Int) + (1 : Int) ∧ l = l ∧ True)) ∧
(y2 = false → false = fTwice l ∧ True)) := by kernel_rfl

theorem b19 (l : List Str) (hw : l.length ≤ maxLenI) : bodyVC (ctxOf tab []) Try.f19 c19 (a19 (l, ())) (l, ()) := by
  rw [v19]
  simp only [true_and, and_true, Int.toNat_natCast]
  refine ⟨⟨0, ⟨by omega, rfl⟩, rfl⟩, fun s => lett.mk fun y2 e2 => ?_⟩
  rintro ⟨h1, h2⟩
  have h2 : anyTo (fun i => anyTo (sameText l i) i) s = false := h2
  refine ⟨fun hs => ?_, fun hs => ?_⟩
  · have hs := lt_of_y e2 hs
    refine ⟨⟨0, ⟨by omega, rfl⟩, rfl⟩, fun t => lett.mk fun y4 e4 => lett.mk fun y5 e5 => ?_⟩
    rintro ⟨g1, g2⟩
    have g2 : anyTo (sameText l s) t = false := g2
    refine ⟨fun ht => ?_, fun ht => ?_⟩
    · have ht := lt_of_y e4 ht
      refine ⟨⟨by omega, by omega⟩, ⟨by omega, by omega⟩, fun h => ?_, fun h => ⟨inRlen (n := l.length) (by omega) hw, t + 1, ⟨by omega, ?_⟩, by omega, by omega⟩⟩
      · unfold fTwice
        exact (anyTo_yes (p := fun i => anyTo (sameText l i) i) hs (anyTo_yes ht (by rw [← h, e5]; rfl))).symm
      · exact anyTo_succ g2 (by rw [← h, e5]; rfl)
    · have ht := le_of_y e4 ht
      have : t = s := by omega
      subst this
      refine ⟨inRlen hs hw, t + 1, ⟨by omega, ?_⟩, by omega, by omega⟩
      exact anyTo_succ (p := fun i => anyTo (sameText l i) i) h2 g2
  · have hs := le_of_y e2 hs
    have : s = l.length := by omega
    subst this
    unfold fTwice
    exact h2.symm

theorem ok19 : DOk Try.prog 19 c19 :=
  DOk.of' (l := []) (A := a19) tabOk trivial Try.func19 (by kernel_rfl) (by kernel_rfl) fun x hw _ => b19 x.1 hw.1.1

end Ytpnnfimacblhgaa
end Go.Proofs
