/-
  StageHeld, written out and proved.
-/
import Derived.Test.YtpjgggcaamigdaaVto
set_option maxRecDepth 100000
set_option linter.unusedVariables false
set_option linter.unusedSimpArgs false
set_option maxHeartbeats 4000000
namespace Go.Proofs
open Go Go.Vc
namespace Ytpjgggcaamigdaa

theorem v7 (b : Int) (l : List (List Bool × Bool × Bool × Bool × Bool × Bool × Bool)) (at0 : Int) : bodyVC (ctxOf tab [(9, c9), (10, c10), (15, c15), (17, c17), (18, c18)]) Try.f7 c7 (a7 (b, l, at0, ())) (b, l, at0, ()) = (
lett (!fFew l (b.tmod (12 : Int) + (1 : Int))) fun (y3 : Bool) =>
lett (fBegin (b.tmod (12 : Int) + (1 : Int))) fun (y4 : LifeD) =>
lett ([], false, false, false, false, false, false) fun (y5 : List Bool × Bool × Bool × Bool × Bool × Bool × Bool) =>
lett (b.tmod (12 : Int) + (1 : Int) - (1 : Int)) fun (y6 : Int) =>
True ∧
((!true) = true → false = true ∧ True) ∧
((!true) = false →
(12 : Int) ≠ (0 : Int) ∧
InR IntKind.i64 (b.tmod (12 : Int) + (1 : Int)) ∧
True ∧
(y3 = true → true = true ∧ True) ∧
(y3 = false →
True ∧
(∃ (s07 : Nat × LifeD × Bool),
(s07.fst ≤ l.length ∧ s07.snd.fst.snd.snd.snd.length ≤ (12 : Nat) ∧ good (b.tmod (12 : Int) + (1 : Int)).toNat s07.snd.fst s07.snd.snd) ∧
(↑s07.fst : Int) = (0 : Int) ∧
s07.snd.snd = false ∧
l = l ∧
at0 = at0 ∧
b.tmod (12 : Int) + (1 : Int) = b.tmod (12 : Int) + (1 : Int) ∧
s07.snd.fst.fst = y4.fst ∧ s07.snd.fst.snd.fst = y4.snd.fst ∧ s07.snd.fst.snd.snd.fst = y4.snd.snd.fst ∧ s07.snd.fst.snd.snd.snd = y4.snd.snd.snd ∧ True) ∧
∀ (s7 : Nat × LifeD × Bool),
lett (decide ((↑s7.fst : Int) < (↑l.length : Int))) fun (y8 : Bool) =>
lett (l.getD (↑s7.fst : Int).toNat y5) fun (y9 : List Bool × Bool × Bool × Bool × Bool × Bool × Bool) =>
lett (s7.snd.fst.fst == (0 : Int)) fun (y10 : Bool) =>
lett (bif y9.snd.snd.snd.snd.snd.snd then true else (↑s7.fst : Int) == at0.tmod (60 : Int)) fun (y11 : Bool) =>
lett (fNext s7.snd.fst (y9.fst, y9.snd.fst, y9.snd.snd.fst, y9.snd.snd.snd.fst, y9.snd.snd.snd.snd.fst, y9.snd.snd.snd.snd.snd.fst, y11)).fst fun (y12 : LifeD) =>
lett (bif s7.snd.snd then true else y11) fun (y13 : Bool) =>
lett (bif bif y13 then y12.fst == (2 : Int) else false then true else bif y12.fst != (0 : Int) then !y12.snd.snd.fst == y13 else false) fun (y14 : Bool) =>
lett (List.replicate (0 : Nat) false ++ y9.fst) fun (y15 : List Bool) =>
lett (bif y12.fst == (0 : Int) then s7.snd.fst.fst != (3 : Int) else false) fun (y16 : Bool) =>
lett (y15.set y6.toNat (bif y15.getD y6.toNat false then !y9.snd.fst else false)) fun (y17 : List Bool) =>
lett (bif y16 then !y17.getD (Int.toNat (0 : Int)) false else false) fun (y18 : Bool) =>
lett (bif !y13 then true else bif y9.snd.snd.snd.snd.fst then !y9.snd.snd.snd.snd.snd.fst else false) fun (y19 : Bool) =>
lett (bif y18 then bif y19 then true else y17.contains true else false) fun (y20 : Bool) =>
s7.fst ≤ l.length ∧ s7.snd.fst.snd.snd.snd.length ≤ (12 : Nat) ∧ good (b.tmod (12 : Int) + (1 : Int)).toNat s7.snd.fst s7.snd.snd →
(y8 = true →
InB (↑s7.fst : Int) l.length ∧
(y9.snd.snd.snd.snd.snd.snd = false → (60 : Int) ≠ (0 : Int)) ∧
(short s7.snd.fst.snd.snd.snd ∧ short y9.fst) ∧
(y10 = true → (y12.fst == (0 : Int)) = true ∧ True) ∧
(y10 = false →
(y14 = true → false = true ∧ True) ∧
(y14 = false →
roomFor ((List.replicate (0 : Nat) false).length + y9.fst.length) (1 : Nat) ∧
InR IntKind.i64 y6 ∧
InR IntKind.i64 y6 ∧
InB y6 y15.length ∧
InB y6 y15.length ∧
(y16 = true → InB (0 : Int) y17.length) ∧
(y18 = true → y19 = false → short y17) ∧
(y20 = true → false = true ∧ True) ∧
(y20 = false →
InR IntKind.i64 ((↑s7.fst : Int) + (1 : Int)) ∧
∃ (s'21 : Nat × LifeD × Bool),
(s'21.fst ≤ l.length ∧
s'21.snd.fst.snd.snd.snd.length ≤ (12 : Nat) ∧
good (b.tmod (12 : Int) + (1 : Int)).toNat s'21.snd.fst s'21.snd.snd) ∧
l.length - s'21.fst < l.length - s7.fst ∧
(↑s'21.fst : Int) = (↑s7.fst : Int) + (1 : Int) ∧
s'21.snd.snd = y13 ∧
l = l ∧
at0 = at0 ∧
b.tmod (12 : Int) + (1 : Int) = b.tmod (12 : Int) + (1 : Int) ∧
s'21.snd.fst.fst = y12.fst ∧
s'21.snd.fst.snd.fst = y12.snd.fst ∧
s'21.snd.fst.snd.snd.fst = y12.snd.snd.fst ∧
s'21.snd.fst.snd.snd.snd = y12.snd.snd.snd ∧ True)))) ∧
(y8 = false → true = true ∧ True)))) := by kernel_rfl

theorem next_held {n : Nat} {l : LifeD} {v : ViewD} {off : Bool} (hg : good n l off) (hv : v.1.length = n) (hs : l.1 = 1 ∨ l.1 = 2) (hz : (fNext l v).1.1 = 0) (ho : (fOcc v).getD 0 false = false) :
    (off || v.2.2.2.2.2.2) = true ∧ (fOcc v).contains true = false ∧ (v.2.2.2.2.1 && !v.2.2.2.2.2.1) = false := by
  have h0 : l.1 ≠ 0 := by omega
  obtain ⟨hb, h1, h2, h3, h4, h5, f, hf, hlt⟩ := good_in hg h0 hv
  have hf0 : f = 0 := by have := h5 (by omega); omega
  subst hf0
  rw [fNext_in h0 hb hf, hv, h4] at hz
  unfold nextIn at hz
  rw [if_pos ⟨by omega, ho⟩] at hz
  split at hz
  · rename_i hc
    obtain ⟨hc1, hc2⟩ := hc
    unfold fOver at hc2
    rw [List.drop_zero] at hc2
    refine ⟨hc1, ?_, ?_⟩
    · cases h : (fOcc v).contains true <;> simp_all
    · cases h : v.2.2.2.2.1 <;> cases h' : v.2.2.2.2.2.1 <;> simp_all
  · split at hz <;> simp at hz

theorem b7 (b : Int) (l : List ViewD) (at0 : Int) (hb : 0 ≤ b) : bodyVC (ctxOf tab [(9, c9), (10, c10), (15, c15), (17, c17), (18, c18)]) Try.f7 c7 (a7 (b, l, at0, ())) (b, l, at0, ()) := by
  rw [v7]
  have hN : 1 ≤ b.tmod 12 + 1 ∧ b.tmod 12 + 1 ≤ 12 := by
    rw [Int.tmod_eq_emod_of_nonneg hb]
    omega
  generalize b.tmod 12 + 1 = N at *
  refine lett.mk fun y3 e3 => lett.mk fun y4 e4 => lett.mk fun y5 e5 => lett.mk fun y6 e6 => ?_
  simp only [true_and, and_true]
  refine ⟨fun h => (by cases h), fun _ => ⟨by decide, inR64 (by omega) (by omega), fun _ => trivial, fun hf => ?_⟩⟩
  have hf : fFew l N = true := by rw [e3] at hf; simpa using hf
  have h60 : l.length ≤ 60 := by
    have hf' := hf
    unfold fFew at hf'
    simp only [Bool.and_eq_true, decide_eq_true_eq] at hf'
    exact hf'.1
  refine ⟨⟨(0, fBegin N, false), ⟨Nat.zero_le _, fBegin_len N, begin_good hN.1 hN.2⟩, rfl, rfl, ?_, ?_, ?_, ?_⟩, fun s => ?_⟩
  iterate 4 rw [e4]
  refine lett.mk fun y8 e8 => lett.mk fun v ev => lett.mk fun y10 e10 => lett.mk fun c ec => lett.mk fun y ey => lett.mk fun off eo => lett.mk fun y14 e14 => lett.mk fun y15 e15 => lett.mk fun y16 e16 => lett.mk fun y17 e17 => lett.mk fun y18 e18 => lett.mk fun y19 e19 => lett.mk fun y20 e20 => ?_
  rintro ⟨s1, s2, hg⟩
  refine ⟨fun hk => ?_, fun _ => trivial⟩
  have hk : s.1 < l.length := by rw [e8] at hk; simpa using hk
  have hv := fFew_at hf hk ([], false, false, false, false, false, false)
  rw [e5, Int.toNat_natCast] at ev
  rw [← ev] at hv
  have hv : v.1.length = N.toNat := by omega
  have hv2 : (v.1, v.2.1, v.2.2.1, v.2.2.2.1, v.2.2.2.2.1, v.2.2.2.2.2.1, c).1.length = N.toNat := hv
  obtain ⟨k1, k2⟩ := fNext_lens s.2.1 (v.1, v.2.1, v.2.2.1, v.2.2.2.1, v.2.2.2.2.1, v.2.2.2.2.2.1, c)
  have hG := next_good hg hv2
  have ho : fOcc (v.1, v.2.1, v.2.2.1, v.2.2.2.1, v.2.2.2.2.1, v.2.2.2.2.2.1, c) = y17 := by
    rw [e17, e15, e6]
    unfold fOcc
    have e : (N - 1).toNat = v.1.length - 1 := by omega
    have e0 : (List.replicate 0 false ++ v.1) = v.1 := rfl
    rw [e, e0]
    show (bif v.2.1 then _ else _) = _
    have hlt : v.1.length - 1 < v.1.length := by omega
    cases v.2.1
    · simp only [cond_false, Bool.not_false, List.getD_eq_getElem?_getD, List.getElem?_eq_getElem hlt, Option.getD_some]
      apply List.ext_getElem
      · simp
      · intro i h1 h2
        rw [List.getElem_set]
        split
        · rename_i h; subst h; cases h : v.1[v.1.length - 1] <;> simp [h]
        · rfl
    · simp
  have hnot := next_notSet hg hv2
  have hset := next_set hg hv2
  have hheld := next_held hg hv2
  rw [← ey] at hG hnot hset hheld k1
  rw [ho] at hset hheld
  simp only at hG hset hheld
  have hoff : (s.2.2 || c) = off := by rw [eo]; cases s.2.2 <;> rfl
  rw [hoff] at hG hset hheld
  have hl15 : y15.length = N.toNat := by rw [e15]; exact hv
  have hl17 : y17.length = N.toNat := by rw [e17, List.length_set]; exact hl15
  have hstate : s.2.1.1 ≠ 0 → s.2.1.1 ≠ 3 → s.2.1.1 = 1 ∨ s.2.1.1 = 2 := fun h h' => by
    rcases hg with hg | ⟨h1, h2, _⟩
    · exact absurd hg h
    · omega
  refine ⟨⟨by omega, by omega⟩, fun _ => by decide, ⟨by unfold short; omega, by unfold short; omega⟩, fun h => ?_, fun h => ⟨fun h14 => ?_, fun h14 => ⟨room (by rw [hv]; simp; omega) (by omega), inR64 (by omega) (by omega), inR64 (by omega) (by omega), ⟨by omega, by omega⟩, ⟨by omega, by omega⟩, fun _ => ⟨by omega, by omega⟩, fun _ _ => by unfold short; omega, fun h20 => ?_, fun h20 => ⟨inR64 (by omega) (by omega), (s.1 + 1, y, off), ⟨by show s.1 + 1 ≤ _; omega, by show y.2.2.2.length ≤ 12; omega, hG⟩, by show l.length - (s.1 + 1) < _; omega, rfl, rfl, rfl, rfl, rfl, rfl⟩⟩⟩⟩
  · rw [e10, beq_iff_eq] at h
    rw [ey, fNext_idle h, h]
    rfl
  · exfalso
    rw [e10, beq_eq_false_iff_ne] at h
    rw [e14] at h14
    rcases hG with hG | ⟨g1, g2, g3, g4, g5, g6, g7⟩
    · rw [hG] at h14
      cases off <;> simp at h14
    · by_cases hy : y.1 = 2
      · by_cases h3 : s.2.1.1 = 3
        · exact hnot (.inl h3) hy
        · have := hset (hstate h h3)
          rw [hy] at this
          rw [g6] at h14
          have hof : off = false := by
            cases hb : off with
            | false => rfl
            | true => rw [hb] at this; simp at this
          rw [hof, hy] at h14
          cases h14
      · rw [g6] at h14
        have e : (y.1 == 2) = false := by simpa using hy
        rw [e] at h14
        cases off <;> simp at h14
  · exfalso
    rw [e10, beq_eq_false_iff_ne] at h
    rw [e20] at h20
    have h18 : y18 = true := by cases hb : y18 <;> simp_all
    have h18' := h18
    rw [e18] at h18
    have h16 : y16 = true := by cases hb : y16 <;> simp_all
    rw [h16] at h18
    rw [e16] at h16
    have hz : y.1 = 0 := by
      cases hb : (y.1 == 0) with
      | true => simpa using hb
      | false => rw [hb] at h16; cases h16
    have h3 : s.2.1.1 ≠ 3 := by rw [hz] at h16; simpa using h16
    have ho0 : y17.getD 0 false = false := by simpa using h18
    obtain ⟨q1, q2, q3⟩ := hheld (hstate h h3) hz ho0
    rw [h18', q2, e19, q1] at h20
    cases h1 : v.2.2.2.2.1 <;> cases h2 : v.2.2.2.2.2.1 <;> simp_all

theorem ok7 : DOk Try.prog 7 c7 :=
  DOk.of' (l := [(9, c9), (10, c10), (15, c15), (17, c17), (18, c18)]) (wraps := []) (A := a7) tabOk ⟨ok9, ok10, ok15, ok17, ok18, trivial⟩ Try.func7 (by kernel_rfl) (by kernel_rfl) fun x hw _ => b7 x.1 x.2.1 x.2.2.1 hw.1.1

end Ytpjgggcaamigdaa
end Go.Proofs
