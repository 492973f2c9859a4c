/-
  The laws on orders: all orders tried, the order told, what is kept, the first one.
-/
import Derived.Test.YtghpaejpccpgeaaVbm
import Derived.Test.YtghpaejpccpgeaaVbl
set_option maxRecDepth 100000
set_option linter.unusedVariables false
set_option linter.unusedSimpArgs false
set_option maxHeartbeats 1000000
namespace Go.Proofs
open Go Go.Vc
namespace Ytghpaejpccpgeaa

theorem v22 (n : Nat) (l : List (List Int × List (List Int × Int))) (gone : List Bool) : bodyVC (ctxOf tab [(23, c23), (22, c22 n)]) Try.f22 (c22 (n + 1)) (a22 n (l, gone, ())) (l, gone, ()) = (
lett (List.replicate (0 : Nat) ([], []) ++ l) fun (y2 : List (List Int × List (List Int × Int))) =>
lett (fHome (n + (1 : Nat)) l gone) fun (y3 : Bool) =>
(∃ (s04 : Nat),
(s04 ≤ l.length ∧ (List.range s04).any (fHomeAt n l gone) = false) ∧
((List.range s04).all fun (k : Nat) => gone.getD k false) = true ∧ (↑s04 : Int) = (0 : Int) ∧ l = l ∧ gone = gone ∧ l = l ∧ (↑l.length : Int) = (↑l.length : Int) ∧ True) ∧
∀ (s4 : Nat),
lett (decide ((↑s4 : Int) < (↑l.length : Int))) fun (y5 : Bool) =>
lett (gone.getD (↑s4 : Int).toNat false) fun (y6 : Bool) =>
lett ((List.range s4).all fun (k : Nat) => gone.getD k false) fun (y7 : Bool) =>
lett (!fCan y2 (↑s4 : Int).toNat) fun (y8 : Bool) =>
lett (y2.set (↑s4 : Int).toNat ([], [])) fun (y9 : List (List Int × List (List Int × Int))) =>
lett ((List.replicate (0 : Nat) false ++ gone).set (↑s4 : Int).toNat true) fun (y10 : List Bool) =>
s4 ≤ l.length ∧ (List.range s4).any (fHomeAt n l gone) = false →
(y5 = true →
InB (↑s4 : Int) gone.length ∧
(y6 = true →
InR IntKind.i64 ((↑s4 : Int) + (1 : Int)) ∧
∃ (s'11 : Nat),
(s'11 ≤ l.length ∧ (List.range s'11).any (fHomeAt n l gone) = false) ∧
l.length - s'11 < l.length - s4 ∧
((List.range s'11).all fun (k : Nat) => gone.getD k false) = y7 ∧
(↑s'11 : Int) = (↑s4 : Int) + (1 : Int) ∧ l = l ∧ gone = gone ∧ l = l ∧ (↑l.length : Int) = (↑l.length : Int) ∧ True) ∧
(y6 = false →
roomFor ((List.replicate (0 : Nat) (([], []) : List Int × List (List Int × Int))).length + l.length) (48 : Nat) ∧
(shortL y2 ∧ InB (↑s4 : Int) y2.length) ∧
(y8 = true →
InR IntKind.i64 ((↑s4 : Int) + (1 : Int)) ∧
∃ (s'11 : Nat),
(s'11 ≤ l.length ∧ (List.range s'11).any (fHomeAt n l gone) = false) ∧
l.length - s'11 < l.length - s4 ∧
((List.range s'11).all fun (k : Nat) => gone.getD k false) = false ∧
(↑s'11 : Int) = (↑s4 : Int) + (1 : Int) ∧ l = l ∧ gone = gone ∧ l = l ∧ (↑l.length : Int) = (↑l.length : Int) ∧ True) ∧
(y8 = false →
InB (↑s4 : Int) y2.length ∧
roomFor ((List.replicate (0 : Nat) false).length + gone.length) (1 : Nat) ∧
InB (↑s4 : Int) (List.replicate (0 : Nat) false ++ gone).length ∧
HomePre n y9 y10 ∧
(fHome n y9 y10 = true → true = y3 ∧ True) ∧
(fHome n y9 y10 = false →
InR IntKind.i64 ((↑s4 : Int) + (1 : Int)) ∧
∃ (s'11 : Nat),
(s'11 ≤ l.length ∧ (List.range s'11).any (fHomeAt n l gone) = false) ∧
l.length - s'11 < l.length - s4 ∧
((List.range s'11).all fun (k : Nat) => gone.getD k false) = false ∧
(↑s'11 : Int) = (↑s4 : Int) + (1 : Int) ∧ l = l ∧ gone = gone ∧ l = l ∧ (↑l.length : Int) = (↑l.length : Int) ∧ True)))) ∧
(y5 = false → y7 = y3 ∧ True)) := by kernel_rfl

theorem any_step {p : Nat → Bool} {s : Nat} (h : (List.range s).any p = false) (h1 : p s = false) : (List.range (s + 1)).any p = false := by
  rw [List.range_succ, List.any_append, h]
  simp [h1]
theorem all_step (p : Nat → Bool) (s : Nat) : (List.range (s + 1)).all p = ((List.range s).all p && p s) := by
  rw [List.range_succ, List.all_append]
  simp

theorem b22 (n : Nat) (l : List ClaimD) (gone : List Bool) (hp : HomePre (n + 1) l gone) : bodyVC (ctxOf tab [(23, c23), (22, c22 n)]) Try.f22 (c22 (n + 1)) (a22 n (l, gone, ())) (l, gone, ()) := by
  have h8 : l.length ≤ 8 := (fMay_iff.1 hp.may).1
  have hlen := hp.len
  rw [v22]
  simp only [true_and, and_true, Int.toNat_natCast]
  refine lett.mk fun y2 e2 => lett.mk fun y3 e3 => ⟨⟨0, ⟨by omega, rfl⟩, rfl, rfl⟩, fun s => lett.mk fun y5 e5 => lett.mk fun y6 e6 => lett.mk fun y7 e7 => lett.mk fun y8 e8 => lett.mk fun y9 e9 => lett.mk fun y10 e10 => ?_⟩
  have e2 : y2 = l := e2
  subst e2
  have e10 : y10 = gone.set s true := e10
  have e9 : y9 = y2.set s zeroC := e9
  rintro ⟨hs, hn⟩
  refine ⟨fun h5 => ?_, fun h5 => ?_⟩
  · have hlt := lt_of_y e5 h5
    refine ⟨⟨by omega, by omega⟩, fun h6 => ?_, fun h6 => ⟨room (by simp; omega) (by omega), ⟨may_short hp.may, ⟨by omega, by omega⟩⟩, fun h8' => ?_, fun h8' => ⟨⟨by omega, by omega⟩, room (by simp; omega) (by omega), ⟨by simp, by simp; omega⟩, ?_, fun h => ?_, fun h => ?_⟩⟩⟩
    · rw [e6] at h6
      refine ⟨inR64 (by omega) (by omega), s + 1, ⟨by omega, any_step hn (by unfold fHomeAt; rw [h6]; rfl)⟩, by omega, ?_, by omega⟩
      rw [all_step, h6, Bool.and_true, e7]
    · rw [e6] at h6
      rw [e8] at h8'
      have h8' := not_t h8'
      refine ⟨inR64 (by omega) (by omega), s + 1, ⟨by omega, any_step hn (by unfold fHomeAt; rw [h8', h6]; rfl)⟩, by omega, ?_, by omega⟩
      rw [all_step, h6, Bool.and_false]
    · rw [e6] at h6
      rw [e9, e10]
      have := count_pos_of (gone := gone) (k := s) (by omega) h6
      have := hp.cnt
      exact ⟨may_set hp.may s, by simpa using hlen, by omega⟩
    · rw [e6] at h6
      rw [e8] at h8'
      have h8' := not_f h8'
      rw [e9, e10] at h
      rw [e3]
      unfold fHome
      have : (List.range y2.length).any (fun k => !gone.getD k false && (fCan y2 k && fHome n (y2.set k zeroC) (gone.set k true))) = true := List.any_eq_true.2 ⟨s, List.mem_range.2 hlt, by rw [h6, h8', h]; rfl⟩
      rw [this]
      rfl
    · rw [e6] at h6
      rw [e9, e10] at h
      refine ⟨inR64 (by omega) (by omega), s + 1, ⟨by omega, any_step hn (by unfold fHomeAt; rw [h, Bool.and_false, Bool.and_false])⟩, by omega, ?_, by omega⟩
      rw [all_step, h6, Bool.and_false]
  · have hle := le_of_y e5 h5
    have hsl : s = y2.length := by omega
    subst hsl
    rw [e3]
    unfold fHome
    have hn : (List.range y2.length).any (fun k => !gone.getD k false && (fCan y2 k && fHome n (y2.set k zeroC) (gone.set k true))) = false := hn
    rw [hn, e7]
    rfl

theorem ok22 : ∀ n : Nat, DOk Try.prog 22 (c22 n)
  | 0 => { fn := ⟨Try.f22, _, Try.func22, by kernel_rfl, rfl⟩, calls := fun F w x vs hF hx hp => absurd hp.cnt (Nat.not_lt_zero _) }
  | n + 1 => DOk.of' (l := [(23, c23), (22, c22 n)]) (A := a22 n) tabOk ⟨ok23, ok22 n, trivial⟩ Try.func22 (by kernel_rfl) (by kernel_rfl) fun x _ hp => b22 n x.1 x.2.1 hp

/-! ### All orders -/

theorem v5 (l : List (List Int × List (List Int × Int))) : bodyVC (ctxOf tab [(10, c10), (11, c11), (13, c13), (17, c17), (22, c22 6)]) Try.f5 c5 noAnn (l, ()) = (
lett (decide ((↑l.length : Int) > (5 : Int))) fun (y1 : Bool) =>
lett (bif y1 then true else !fAsked l) fun (y2 : Bool) =>
lett (bif y2 then true else !fMay l) fun (y3 : Bool) =>
lett (List.replicate (↑l.length : Int).toNat false) fun (y4 : List Bool) =>
True ∧
((!true) = true → false = true ∧ True) ∧
((!true) = false →
(y1 = false → True) ∧
(y2 = false → shortL l) ∧
(y3 = true → true = true ∧ True) ∧
(y3 = false →
fMay l = true ∧
((0 : Int) ≤ (↑l.length : Int) ∧ (↑l.length : Int) ≤ (↑l.length : Int)) ∧
(roomFor (↑l.length : Int).toNat (1 : Nat) ∧ (↑l.length : Int) ≤ (↑maxLenI : Int)) ∧ HomePre (6 : Nat) l y4 ∧ ((fOrder l).isSome == fHome (6 : Nat) l y4) = true ∧ True))) := by kernel_rfl

theorem b5 (l : List ClaimD) : bodyVC (ctxOf tab [(10, c10), (11, c11), (13, c13), (17, c17), (22, c22 6)]) Try.f5 c5 noAnn (l, ()) := by
  rw [v5]
  refine lett.mk fun y1 e1 => lett.mk fun y2 e2 => lett.mk fun y3 e3 => lett.mk fun y4 e4 => ⟨trivial, (fun h => by cases h), fun _ => ⟨fun _ => trivial, fun h2 => ?_, fun _ => ⟨rfl, trivial⟩, fun h3 => ?_⟩⟩
  · cases y1
    · rw [e2] at h2
      exact asked_short (not_f h2)
    · rw [e2] at h2; cases h2
  · have hm : fMay l = true := by
      cases y2
      · rw [e3] at h3; exact not_f h3
      · rw [e3] at h3; cases h3
    have h2 : y2 = false := by
      cases h : y2 with
      | false => rfl
      | true => rw [e3, h] at h3; cases h3
    have h1 : y1 = false := by
      cases h : y1 with
      | false => rfl
      | true => rw [e2, h] at h2; cases h2
    rw [e1] at h1
    have h5 := of_decide_eq_false h1
    have e4 : y4 = List.replicate l.length false := e4
    subst e4
    have hc : (List.replicate l.length false).count false = l.length := by simp
    refine ⟨hm, ⟨by omega, by omega⟩, ⟨room (by rw [Int.toNat_natCast]; omega) (by omega), by simp only [maxLenI]; omega⟩, ⟨hm, by simp, by omega⟩, ?_, trivial⟩
    rw [home_safe l 6 (by omega), beq_self_eq_true]

theorem ok5 : DOk Try.prog 5 c5 :=
  DOk.of' (l := [(10, c10), (11, c11), (13, c13), (17, c17), (22, c22 6)]) (A := fun _ => noAnn) tabOk ⟨ok10', ok11, ok13, ok17, ok22 6, trivial⟩ Try.func5 (by kernel_rfl) (by kernel_rfl) fun x _ hp => b5 x.1

/-! ### The order that is told -/

theorem leftF_len : ∀ (ks : List Int) (l : List ClaimD), (leftF l ks).length = l.length
  | [], _ => rfl
  | k :: ks, l => (leftF_len ks (l.set k.toNat zeroC)).trans (by simp)
theorem metF_len : ∀ (ks : List Int) (l : List Bool), (metF l ks).length = l.length
  | [], _ => rfl
  | k :: ks, l => (metF_len ks (l.set k.toNat true)).trans (by simp)
theorem leftF_may : ∀ (ks : List Int) (l : List ClaimD), fMay l = true → fMay (leftF l ks) = true
  | [], _, h => h
  | k :: ks, l, h => leftF_may ks _ (may_set h _)
theorem leftF_succ (l : List ClaimD) (o : List Int) {s : Nat} (h : s < o.length) : leftF l (o.take (s + 1)) = (leftF l (o.take s)).set (o.getD s 0).toNat zeroC := by
  unfold leftF
  rw [take_succ' 0 h, List.foldl_append]
  rfl
theorem metF_succ (l : List Bool) (o : List Int) {s : Nat} (h : s < o.length) : metF l (o.take (s + 1)) = (metF l (o.take s)).set (o.getD s 0).toNat true := by
  unfold metF
  rw [take_succ' 0 h, List.foldl_append]
  rfl

theorem v6 (l : List (List Int × List (List Int × Int))) : bodyVC (ctxOf tab [(10, c10), (11, c11), (13, c13), (14, c14), (23, c23)]) Try.f6 c6 (a6 (l, ())) (l, ()) = (
lett (bif !fAsked l then true else !fMay l) fun (y1 : Bool) =>
True ∧
((!true) = true → false = true ∧ True) ∧
((!true) = false →
True ∧
((!fAsked l) = false → shortL l) ∧
(y1 = true → true = true ∧ True) ∧
(y1 = false →
fMay l = true ∧
((!(fOrder l).isSome) = true → ((↑((fOrder l).getD []).length : Int) == (0 : Int)) = true ∧ True) ∧
((!(fOrder l).isSome) = false →
roomFor ((List.replicate (0 : Nat) (([], []) : List Int × List (List Int × Int))).length + l.length) (48 : Nat) ∧
((0 : Int) ≤ (↑l.length : Int) ∧ (↑l.length : Int) ≤ (↑l.length : Int)) ∧
(roomFor (↑l.length : Int).toNat (1 : Nat) ∧ (↑l.length : Int) ≤ (↑maxLenI : Int)) ∧
(∃ (s02 : Nat),
s02 ≤ ((fOrder l).getD []).length ∧
(↑s02 : Int) = (0 : Int) ∧
l = l ∧
(fOrder l).getD [] = (fOrder l).getD [] ∧
(fOrder l).getD [] = (fOrder l).getD [] ∧
(↑((fOrder l).getD []).length : Int) = (↑((fOrder l).getD []).length : Int) ∧
fLeftAt l ((fOrder l).getD []) s02 = List.replicate (0 : Nat) ([], []) ++ l ∧
fMetAt l ((fOrder l).getD []) s02 = List.replicate (↑l.length : Int).toNat false ∧ True) ∧
∀ (s2 : Nat),
lett (decide ((↑s2 : Int) < (↑((fOrder l).getD []).length : Int))) fun (y3 : Bool) =>
lett (((fOrder l).getD []).getD (↑s2 : Int).toNat (0 : Int)) fun (y4 : Int) =>
lett (bif decide (y4 < (0 : Int)) then true else decide (y4 ≥ (↑l.length : Int))) fun (y5 : Bool) =>
lett (fMetAt l ((fOrder l).getD []) s2) fun (y6 : List Bool) =>
lett (bif y5 then true else y6.getD y4.toNat false) fun (y7 : Bool) =>
lett (fLeftAt l ((fOrder l).getD []) s2) fun (y8 : List ClaimD) =>
lett (bif y7 then true else !fCan y8 y4.toNat) fun (y9 : Bool) =>
s2 ≤ ((fOrder l).getD []).length →
(y3 = true →
InB (↑s2 : Int) ((fOrder l).getD []).length ∧
(y5 = false → InB y4 y6.length) ∧
(y7 = false → shortL y8 ∧ InB y4 y8.length) ∧
(y9 = true → false = true ∧ True) ∧
(y9 = false →
InB y4 y6.length ∧
InB y4 y8.length ∧
InR IntKind.i64 ((↑s2 : Int) + (1 : Int)) ∧
∃ (s'10 : Nat),
s'10 ≤ ((fOrder l).getD []).length ∧
((fOrder l).getD []).length - s'10 < ((fOrder l).getD []).length - s2 ∧
(↑s'10 : Int) = (↑s2 : Int) + (1 : Int) ∧
l = l ∧
(fOrder l).getD [] = (fOrder l).getD [] ∧
(fOrder l).getD [] = (fOrder l).getD [] ∧
(↑((fOrder l).getD []).length : Int) = (↑((fOrder l).getD []).length : Int) ∧
fLeftAt l ((fOrder l).getD []) s'10 = y8.set y4.toNat ([], []) ∧
fMetAt l ((fOrder l).getD []) s'10 = y6.set y4.toNat true ∧ True)) ∧
(y3 = false → ((↑((fOrder l).getD []).length : Int) == (↑l.length : Int)) = true ∧ True))))) := by kernel_rfl

theorem b6 (l : List ClaimD) : bodyVC (ctxOf tab [(10, c10), (11, c11), (13, c13), (14, c14), (23, c23)]) Try.f6 c6 (a6 (l, ())) (l, ()) := by
  rw [v6]
  simp only [true_and, and_true, Int.toNat_natCast]
  refine lett.mk fun y1 e1 => ⟨(fun h => by cases h), fun _ => ⟨fun ha => asked_short (not_f ha), fun _ => trivial, fun h1 => ?_⟩⟩
  have hm : fMay l = true := by
    cases ha : fAsked l with
    | false => rw [e1, ha] at h1; cases h1
    | true => rw [e1, ha] at h1; exact not_f h1
  have h8 : l.length ≤ 8 := (fMay_iff.1 hm).1
  cases ho : fOrder l with
  | none => exact ⟨hm, fun _ => rfl, fun h => by cases h⟩
  | some o =>
    refine ⟨hm, (fun h => by cases h), fun _ => ⟨room (by simp; omega) (by omega), ⟨by omega, by omega⟩, ⟨room (by omega) (by omega), by simp only [maxLenI]; omega⟩, ⟨0, by omega, rfl, rfl, rfl⟩, fun s => ?_⟩⟩
    have hlen := order_len ho
    obtain ⟨rest, er, hr, H⟩ := ord_steps _ _ _ _ _ (by simp) ho
    have er : o = rest := er
    subst er
    show lett _ _
    refine lett.mk fun y3 e3 => lett.mk fun y4 e4 => lett.mk fun y5 e5 => lett.mk fun y6 e6 => lett.mk fun y7 e7 => lett.mk fun y8 e8 => lett.mk fun y9 e9 => ?_
    intro hs
    have hs : s ≤ o.length := hs
    have e6 : y6 = metF (List.replicate l.length false) (o.take s) := e6
    have e8 : y8 = leftF l (o.take s) := e8
    have e4 : y4 = o.getD s 0 := e4
    refine ⟨fun h3 => ?_, fun h3 => ?_⟩
    · have hlt : s < o.length := lt_of_y e3 h3
      obtain ⟨h1, h2, h3', h4⟩ := H s (by omega)
      rw [← e4] at h1 h2 h3' h4
      rw [← e6] at h3'
      rw [← e8] at h4
      have l6 : y6.length = l.length := by rw [e6, metF_len]; simp
      have l8 : y8.length = l.length := by rw [e8, leftF_len]
      have hy5 : y5 = false := by
        rw [e5, decide_eq_false (by omega), cond_false, decide_eq_false (by omega)]
      have hy7 : y7 = false := by rw [e7, hy5, cond_false, h3']
      have hy9 : y9 = false := by rw [e9, hy7, cond_false, h4]; rfl
      refine ⟨⟨by omega, by show (s : Int) < (o.length : Int); omega⟩, fun _ => ⟨h1, by omega⟩, fun _ => ⟨?_, ⟨h1, by omega⟩⟩, (fun h => by rw [hy9] at h; cases h), fun _ => ⟨⟨h1, by omega⟩, ⟨h1, by omega⟩, inR64 (by omega) (by omega), s + 1, by show s + 1 ≤ o.length; omega, by show o.length - (s + 1) < o.length - s; omega, by omega, ?_, ?_⟩⟩
      · rw [e8]; exact may_short (leftF_may _ _ hm)
      · show leftF l (o.take (s + 1)) = _
        rw [leftF_succ _ _ hlt, ← e4, ← e8]
        rfl
      · show metF _ (o.take (s + 1)) = _
        rw [metF_succ _ _ hlt, ← e4, ← e6]
    · show ((o.length : Int) == (l.length : Int)) = true
      rw [hlen, beq_self_eq_true]

theorem ok6 : DOk Try.prog 6 c6 :=
  DOk.of' (l := [(10, c10), (11, c11), (13, c13), (14, c14), (23, c23)]) (A := a6) tabOk ⟨ok10', ok11, ok13, ok14, ok23, trivial⟩ Try.func6 (by kernel_rfl) (by kernel_rfl) fun x _ hp => b6 x.1

/-! ### What is kept -/

theorem then_one (l : List ClaimD) (k : Int) (gs : List Int) : ∀ s, fThen l (k :: gs) 1 (s + 1) = l.set k.toNat (fAfter (l.getD k.toNat zeroC))
  | 0 => rfl
  | s + 1 => by
    unfold fThen
    have : Nat.testBit 1 (s + 1) = false := by
      rw [Nat.testBit_succ]
      simp
    rw [this, cond_false]
    exact then_one l k gs s

theorem grant_one {l : List ClaimD} {k : Int} {asking : List Int} (h : fGrant l k asking = true) : fFree l k = true ∧ (fOrder (l.set k.toNat (fAfter (l.getD k.toNat zeroC)))).isSome = true := by
  unfold fGrant at h
  rw [Bool.and_eq_true, List.all_eq_true] at h
  refine ⟨h.1, ?_⟩
  have h1 : 1 < 2 ^ (fGoes l k asking l.length).length := by
    have : (fGoes l k asking l.length).length = (((List.range l.length).filter (fAskd l k asking)).map (fun (i : Nat) => (i : Int))).length + 1 := rfl
    rw [this]
    exact Nat.one_lt_two_pow (by omega)
  have := h.2 1 (List.mem_range.2 h1)
  unfold fSafeAt at this
  have e : fThen l (fGoes l k asking l.length) 1 (fGoes l k asking l.length).length = l.set k.toNat (fAfter (l.getD k.toNat zeroC)) := then_one l k _ _
  rw [e] at this
  simpa using this

theorem v7 (l : List (List Int × List (List Int × Int))) (k : Int) (asking : List Int) : bodyVC (ctxOf tab [(10, c10), (11, c11), (13, c13), (24, c24), (20, c20), (17, c17), (18, c18)]) Try.f7 c7 noAnn (l, k, asking, ()) = (
lett (bif !fAsked l then true else decide ((↑asking.length : Int) > (20 : Int))) fun (y3 : Bool) =>
lett (bif bif bif y3 then true else !fMay l then true else decide (k < (0 : Int)) then true else decide (k ≥ (↑l.length : Int))) fun (y4 : Bool) =>
lett (List.replicate (0 : Nat) (([], []) : List Int × List (List Int × Int))).length fun (y5 : Nat) =>
lett (List.replicate (0 : Nat) ([], []) ++ l) fun (y6 : List (List Int × List (List Int × Int))) =>
lett (y6.getD k.toNat ([], [])) fun (y7 : List Int × List (List Int × Int)) =>
lett (y6.set k.toNat (fAfter y7)) fun (y8 : List (List Int × List (List Int × Int))) =>
lett (bif fGrant l k asking then bif !(fOrder y8).isSome then true else !fFree l k else false) fun (y9 : Bool) =>
lett (List.replicate (0 : Nat) ([], []) ++ List.take k.toNat l) fun (y10 : List (List Int × List (List Int × Int))) =>
lett (List.drop (k + (1 : Int)).toNat l) fun (y11 : List (List Int × List (List Int × Int))) =>
True ∧
((!true) = true → false = true ∧ True) ∧
((!true) = false →
True ∧
(y3 = false → shortL l) ∧
(y4 = true → true = true ∧ True) ∧
(y4 = false →
roomFor (y5 + l.length) (48 : Nat) ∧
InB k y6.length ∧
fClaim y7 = true ∧
InB k y6.length ∧
(fMay l = true ∧ short asking) ∧
(fGrant l k asking = true → fMay y8 = true) ∧
(fGrant l k asking = true → (!(fOrder y8).isSome) = false → fMay l = true) ∧
(y9 = true → false = true ∧ True) ∧
(y9 = false →
((0 : Int) ≤ k ∧ k ≤ (↑l.length : Int)) ∧
roomFor (y5 + (List.take k.toNat l).length) (48 : Nat) ∧
InR IntKind.i64 (k + (1 : Int)) ∧
((0 : Int) ≤ k + (1 : Int) ∧ k + (1 : Int) ≤ (↑l.length : Int)) ∧
roomFor (y10.length + y11.length) (48 : Nat) ∧
fMay l = true ∧
((!(fOrder l).isSome) = false → fMay (y10 ++ y11) = true) ∧
(bif !(fOrder l).isSome then true else (fOrder (y10 ++ y11)).isSome) = true ∧ True)))) := by kernel_rfl

theorem b7 (l : List ClaimD) (k : Int) (asking : List Int) : bodyVC (ctxOf tab [(10, c10), (11, c11), (13, c13), (24, c24), (20, c20), (17, c17), (18, c18)]) Try.f7 c7 noAnn (l, k, asking, ()) := by
  rw [v7]
  simp only [true_and, and_true]
  refine lett.mk fun y3 e3 => lett.mk fun y4 e4 => lett.mk fun y5 e5 => lett.mk fun y6 e6 => lett.mk fun y7 e7 => lett.mk fun y8 e8 => lett.mk fun y9 e9 => lett.mk fun y10 e10 => lett.mk fun y11 e11 => ⟨(fun h => by cases h), fun _ => ⟨fun h3 => ?_, fun _ => trivial, fun h4 => ?_⟩⟩
  · cases ha : fAsked l with
    | false => rw [e3, ha] at h3; cases h3
    | true => exact asked_short ha
  have h4' : y3 = false ∧ fMay l = true ∧ 0 ≤ k ∧ k < l.length := by
    cases h3 : y3 with
    | true => rw [e4, h3] at h4; cases h4
    | false =>
      cases hm : fMay l with
      | false => rw [e4, h3, hm] at h4; cases h4
      | true =>
        rw [e4, h3, hm] at h4
        have h4 : (bif decide (k < (0 : Int)) then true else decide (k ≥ (l.length : Int))) = false := h4
        cases h0 : decide (k < (0 : Int)) with
        | true => rw [h0] at h4; cases h4
        | false =>
          rw [h0] at h4
          have h0 := of_decide_eq_false h0
          have h4 := of_decide_eq_false h4
          exact ⟨rfl, rfl, by omega, by omega⟩
  obtain ⟨h3, hm, hk0, hk⟩ := h4'
  have ha : asking.length ≤ 20 := by
    cases ha : fAsked l with
    | false => rw [e3, ha] at h3; cases h3
    | true =>
      rw [e3, ha] at h3
      have := of_decide_eq_false h3
      omega
  have h8 : l.length ≤ 8 := (fMay_iff.1 hm).1
  have e5 : y5 = 0 := e5
  have e6 : y6 = l := e6
  subst e6 e5
  have e10 : y10 = y6.take k.toNat := e10
  have e7 : y7 = y6.getD k.toNat zeroC := e7
  have e11 : y11 = y6.drop (k.toNat + 1) := by rw [e11]; congr 1; omega
  have hkl : k.toNat < y6.length := by omega
  have hy7 : MayC y7 := by rw [e7]; exact (fMay_iff.1 hm).2 _ (mem_getD zeroC hkl)
  have hy8 : fMay y8 = true := by rw [e8]; exact may_set' hm (after_may hy7) _
  have hy9 : y9 = false := by
    rw [e9]
    cases hg : fGrant y6 k asking with
    | false => rfl
    | true =>
      obtain ⟨g1, g2⟩ := grant_one hg
      rw [← e7, ← e8] at g2
      rw [g1, g2]
      rfl
  have hlen := without_len hkl
  rw [← e10, ← e11] at hlen
  have hmm : fMay (y10 ++ y11) = true := by
    refine fMay_iff.2 ⟨by omega, fun c hc => (fMay_iff.1 hm).2 c ?_⟩
    rw [e10, e11] at hc
    rcases List.mem_append.1 hc with hc | hc
    · exact List.mem_of_mem_take hc
    · exact List.mem_of_mem_drop hc
  refine ⟨room (by omega) (by omega), ⟨hk0, by omega⟩, fClaim_iff.2 hy7, ⟨hk0, by omega⟩, ⟨hm, by show asking.length ≤ 1000000; omega⟩, fun _ => hy8, fun _ _ => hm, (fun h => by rw [hy9] at h; cases h), fun _ => ⟨⟨hk0, by omega⟩, room (by simp; omega) (by omega), inR64 (by omega) (by omega), ⟨by omega, by omega⟩, room (by simp at hlen ⊢; omega) (by omega), hm, fun _ => hmm, ?_⟩⟩
  cases hs : (fOrder y6).isSome with
  | false => rfl
  | true =>
    have := safe_without hkl hs
    rw [← e10, ← e11] at this
    exact this

theorem ok7 : DOk Try.prog 7 c7 :=
  DOk.of' (l := [(10, c10), (11, c11), (13, c13), (24, c24), (20, c20), (17, c17), (18, c18)]) (A := fun _ => noAnn) tabOk ⟨ok10', ok11, ok13, ok24, ok20, ok17, ok18, trivial⟩ Try.func7 (by kernel_rfl) (by kernel_rfl) fun x _ hp => b7 x.1 x.2.1 x.2.2.1

/-! ### The first one -/

theorem goes_none (l : List ClaimD) (k : Int) (s : Nat) : fGoes l k [] s = [k] := by
  unfold fGoes
  have : (List.range s).filter (fAskd l k []) = [] := by
    rw [List.filter_eq_nil_iff]
    intro i _
    unfold fAskd
    simp
  rw [this]
  rfl

theorem grant_alone {l : List ClaimD} {k : Nat} (hk : k < l.length) (hl : (l.getD k zeroC).2 ≠ []) (hc : CanG l (fun _ => false) k) (h : (fOrder l).isSome = true) : fGrant l (k : Int) [] = true := by
  have hpos : 0 < (l.getD k zeroC).2.length := List.length_pos_iff.2 hl
  have hf : fFree l (k : Int) = true := by
    unfold fFree
    rw [Int.toNat_natCast, decide_eq_true (by omega), decide_eq_true (by omega), decide_eq_true hpos, Bool.true_and, Bool.true_and, Bool.true_and, fClear_iff]
    intro j hj hne e he
    exact hc _ (mem_getD ([], 0) hpos) j hj (by omega) rfl e he
  unfold fGrant
  rw [hf, goes_none, Bool.true_and, List.all_eq_true]
  intro m hm
  have hm : m < 2 := List.mem_range.1 hm
  unfold fSafeAt
  by_cases h0 : m = 0
  · subst h0; rfl
  · have : m = 1 := by omega
    subst this
    have := then_one l (k : Int) [] 0
    have e : fThen l [(k : Int)] 1 [(k : Int)].length = l.set k (fAfter (l.getD k zeroC)) := this
    rw [e, after_safe hk hc h]
    rfl

theorem legsUp_le {l : List ClaimD} (hm : fMay l = true) : ∀ s, s ≤ l.length → fLegsUp l s ≤ 12 * s
  | 0, _ => Nat.le_refl _
  | s + 1, h => by
    have := legsUp_le hm s (by omega)
    have := ((fMay_iff.1 hm).2 _ (mem_getD zeroC (show s < l.length by omega))).legs
    show fLegsUp l s + _ ≤ _
    omega

theorem legsUp_some {l : List ClaimD} : ∀ s, fLegsUp l s ≠ 0 → ∃ m, m < s ∧ (l.getD m zeroC).2 ≠ []
  | 0, h => absurd rfl h
  | s + 1, h => by
    by_cases h0 : (l.getD s zeroC).2 = []
    · have h : fLegsUp l s + (l.getD s zeroC).2.length ≠ 0 := h
      rw [h0] at h
      obtain ⟨m, h1, h2⟩ := legsUp_some s h
      exact ⟨m, by omega, h2⟩
    · exact ⟨s, by omega, h0⟩

theorem v8 (l : List (List Int × List (List Int × Int))) : bodyVC (ctxOf tab [(10, c10), (11, c11), (13, c13), (17, c17), (20, c20)]) Try.f8 c8 (a8 (l, ())) (l, ()) = (
lett (bif !fAsked l then true else !fMay l) fun (y1 : Bool) =>
lett (bif y1 then true else !(fOrder l).isSome) fun (y2 : Bool) =>
True ∧
((!true) = true → false = true ∧ True) ∧
((!true) = false →
True ∧
((!fAsked l) = false → shortL l) ∧
(y1 = false → fMay l = true) ∧
(y2 = true → true = true ∧ True) ∧
(y2 = false →
(∃ (s03 : Nat),
(s03 ≤ l.length ∧ (List.range s03).all (fRest l) = true) ∧
(↑(fLegsUp l s03) : Int) = (0 : Int) ∧ (List.range s03).any (fGrantAt l) = false ∧ (↑s03 : Int) = (0 : Int) ∧ l = l ∧ l = l ∧ (↑l.length : Int) = (↑l.length : Int) ∧ True) ∧
∀ (s3 : Nat),
lett (decide ((↑s3 : Int) < (↑l.length : Int))) fun (y4 : Bool) =>
lett (l.getD (↑s3 : Int).toNat ([], [])) fun (y5 : List Int × List (List Int × Int)) =>
lett (bif (↑y5.snd.length : Int) == (0 : Int) then decide ((↑y5.fst.length : Int) > (0 : Int)) else false) fun (y6 : Bool) =>
lett ((↑(fLegsUp l s3) : Int) + (↑y5.snd.length : Int)) fun (y7 : Int) =>
s3 ≤ l.length ∧ (List.range s3).all (fRest l) = true →
(y4 = true →
InB (↑s3 : Int) l.length ∧
(y6 = true → true = true ∧ True) ∧
(y6 = false →
InR IntKind.i64 y7 ∧
((List.range s3).any (fGrantAt l) = false → fMay l = true ∧ short ([] : List Int)) ∧
InR IntKind.i64 ((↑s3 : Int) + (1 : Int)) ∧
∃ (s'8 : Nat),
(s'8 ≤ l.length ∧ (List.range s'8).all (fRest l) = true) ∧
l.length - s'8 < l.length - s3 ∧
(↑(fLegsUp l s'8) : Int) = y7 ∧
((List.range s'8).any (fGrantAt l) = bif (List.range s3).any (fGrantAt l) then true else fGrant l (↑s3 : Int) []) ∧
(↑s'8 : Int) = (↑s3 : Int) + (1 : Int) ∧ l = l ∧ l = l ∧ (↑l.length : Int) = (↑l.length : Int) ∧ True)) ∧
(y4 = false → (bif (↑(fLegsUp l s3) : Int) == (0 : Int) then true else (List.range s3).any (fGrantAt l)) = true ∧ True)))) := by kernel_rfl

theorem b8 (l : List ClaimD) : bodyVC (ctxOf tab [(10, c10), (11, c11), (13, c13), (17, c17), (20, c20)]) Try.f8 c8 (a8 (l, ())) (l, ()) := by
  rw [v8]
  simp only [true_and, and_true, Int.toNat_natCast]
  refine lett.mk fun y1 e1 => lett.mk fun y2 e2 => ⟨(fun h => by cases h), fun _ => ⟨fun ha => asked_short (not_f ha), fun h1 => ?_, fun _ => trivial, fun h2 => ?_⟩⟩
  · cases ha : fAsked l with
    | false => rw [e1, ha] at h1; cases h1
    | true => rw [e1, ha] at h1; exact not_f h1
  have hy1 : y1 = false := by
    cases h : y1 with
    | false => rfl
    | true => rw [e2, h] at h2; cases h2
  have hm : fMay l = true := by
    cases ha : fAsked l with
    | false => rw [e1, ha] at hy1; cases hy1
    | true => rw [e1, ha] at hy1; exact not_f hy1
  have hsafe : (fOrder l).isSome = true := by rw [e2, hy1] at h2; exact not_f h2
  have h8 : l.length ≤ 8 := (fMay_iff.1 hm).1
  refine ⟨⟨0, ⟨by omega, rfl⟩, rfl, rfl, rfl⟩, fun s => lett.mk fun y4 e4 => lett.mk fun y5 e5 => lett.mk fun y6 e6 => lett.mk fun y7 e7 => ?_⟩
  rintro ⟨hs, hr⟩
  have e5 : y5 = l.getD s zeroC := e5
  refine ⟨fun h4 => ?_, fun h4 => ?_⟩
  · have hlt := lt_of_y e4 h4
    have hle := legsUp_le hm s hs
    have hlg := ((fMay_iff.1 hm).2 _ (mem_getD zeroC hlt)).legs
    rw [← e5] at hlg
    refine ⟨⟨by omega, by omega⟩, fun _ => trivial, fun h6 => ⟨inR64 (by omega) (by omega), fun _ => ⟨hm, by show 0 ≤ 1000000; omega⟩, inR64 (by omega) (by omega), s + 1, ⟨by omega, ?_⟩, by omega, ?_, ?_, by omega⟩⟩
    · rw [all_step, hr, Bool.true_and]
      unfold fRest
      rw [← e5]
      rw [e6] at h6
      cases h0 : y5.2 with
      | nil =>
        rw [h0] at h6
        have h6 : decide ((y5.1.length : Int) > 0) = false := h6
        have := of_decide_eq_false h6
        rw [decide_eq_false (show ¬ 0 < y5.1.length by omega), Bool.and_false]
        rfl
      | cons w r =>
        rw [decide_eq_false (by simp)]
        rfl
    · rw [e7]
      show ((fLegsUp l s + (l.getD s zeroC).2.length : Nat) : Int) = _
      rw [← e5]
      omega
    · rw [List.range_succ, List.any_append]
      show _ = bif _ then true else fGrantAt l s
      cases (List.range s).any (fGrantAt l) <;> simp
  · have hle := le_of_y e4 h4
    have hsl : s = l.length := by omega
    subst hsl
    cases h0 : (fLegsUp l l.length : Int) == (0 : Int) with
    | true => rfl
    | false =>
      have h0 : fLegsUp l l.length ≠ 0 := by have := beq_eq_false_iff_ne.1 h0; omega
      obtain ⟨m, hml, hmne⟩ := legsUp_some _ h0
      have hrest : ∀ j, j < l.length → (l.getD j zeroC).2 = [] → (l.getD j zeroC).1 = [] := fun j hj hj0 => by
        have := List.all_eq_true.1 hr j (List.mem_range.2 hj)
        unfold fRest at this
        rw [hj0] at this
        have hd : decide (0 < (l.getD j zeroC).1.length) = false := by
          cases hd : decide (0 < (l.getD j zeroC).1.length) with
          | false => rfl
          | true => rw [hd] at this; cases this
        have := of_decide_eq_false hd
        exact List.eq_nil_of_length_eq_zero (by omega)
      obtain ⟨k, hk, hkne, hcan⟩ := first_one ((safe_iff l).1 hsafe) hrest (fun j _ h => by cases h) hml rfl hmne
      show (List.range l.length).any (fGrantAt l) = true
      exact List.any_eq_true.2 ⟨k, List.mem_range.2 hk, grant_alone hk hkne hcan hsafe⟩

theorem ok8 : DOk Try.prog 8 c8 :=
  DOk.of' (l := [(10, c10), (11, c11), (13, c13), (17, c17), (20, c20)]) (A := a8) tabOk ⟨ok10', ok11, ok13, ok17, ok20, trivial⟩ Try.func8 (by kernel_rfl) (by kernel_rfl) fun x _ hp => b8 x.1

end Ytghpaejpccpgeaa
end Go.Proofs
