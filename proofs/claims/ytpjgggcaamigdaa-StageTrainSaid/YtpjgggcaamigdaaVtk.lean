/-
  StageNexts.
-/
import Derived.Test.YtpjgggcaamigdaaVtj
set_option maxRecDepth 100000
set_option linter.unusedVariables false
set_option linter.unusedSimpArgs false
set_option maxHeartbeats 4000000
namespace Go.Proofs
open Go Go.Vc
namespace Ytpjgggcaamigdaa

theorem fFree_le {seen o : List Bool} {gate : Bool} {last : Nat} : ∀ {k f : Nat}, fFree seen o gate last k f ≤ f + k
  | 0, f => by simp [fFree]
  | k + 1, f => by
    rw [fFree]
    split
    · have := fFree_le (seen := seen) (o := o) (gate := gate) (last := last) (k := k) (f := f + 1)
      omega
    · omega

theorem fRest_len {a b : Int} : (fRest a b).length = (b - a).toNat := by simp [fRest]

theorem fNext_lens (l : LifeD) (v : ViewD) : (fNext l v).1.2.2.2.length ≤ l.2.2.2.length ∧ (fNext l v).2.length ≤ v.1.length := by
  by_cases e : l.1 = 0
  · rw [fNext_idle e]
    exact ⟨Nat.le_refl _, Nat.zero_le _⟩
  · by_cases hb : badIn l v
    · rw [fNext_bad e hb]
      exact ⟨Nat.zero_le _, Nat.zero_le _⟩
    · have hb' := hb
      unfold badIn at hb'
      obtain ⟨f, hf⟩ : ∃ f : Nat, l.2.1 = (f : Int) := ⟨l.2.1.toNat, by omega⟩
      rw [fNext_in e hb hf]
      have hl : (fSeen l.2.2.2 (fOcc v) v.1.length).length = l.2.2.2.length := fSeen_length (by rw [fOcc_length]; omega) (by omega)
      have hF := fFree_le (seen := fSeen l.2.2.2 (fOcc v) v.1.length) (o := fOcc v) (gate := v.2.1) (last := v.1.length - 1) (k := v.1.length - 1 - f) (f := f)
      unfold nextIn
      split
      · split
        · exact ⟨Nat.zero_le _, by rw [fRest_len]; omega⟩
        · split
          · exact ⟨Nat.le_of_eq hl, Nat.zero_le _⟩
          · exact ⟨Nat.le_of_eq hl, Nat.zero_le _⟩
      · simp only
        split
        · exact ⟨Nat.zero_le _, by rw [fRest_len]; omega⟩
        · exact ⟨Nat.le_of_eq hl, by rw [fRest_len]; omega⟩

theorem fSame_refl (l : LifeD) : fSame l l = true := by simp [fSame]

theorem v3 (l : Int × Int × Bool × List Bool) (v : List Bool × Bool × Bool × Bool × Bool × Bool × Bool) : bodyVC (ctxOf tab [(9, c9), (10, c10), (11, c11), (12, c12), (13, c13), (14, c14)]) Try.f3 c3 noAnn (l, v, ()) = (
True ∧
  ((!true) = true → false = true ∧ True) ∧
    ((!true) = false →
      ((bif decide ((↑l.snd.snd.snd.length : Int) > (40 : Int)) then true else decide ((↑v.fst.length : Int) > (40 : Int))) = true → true = true ∧ True) ∧
        ((bif decide ((↑l.snd.snd.snd.length : Int) > (40 : Int)) then true else decide ((↑v.fst.length : Int) > (40 : Int))) = false →
          (l.snd.snd.snd.length ≤ (1000000 : Nat) ∧ v.fst.length ≤ (1000000 : Nat)) ∧
            True ∧
              (l.snd.snd.snd.length ≤ (1000000 : Nat) ∧ v.fst.length ≤ (1000000 : Nat)) ∧
                (fNext (l.fst, l.snd.fst, l.snd.snd.fst, l.snd.snd.snd) (v.fst, v.snd.fst, v.snd.snd.fst, v.snd.snd.snd.fst, v.snd.snd.snd.snd.fst, v.snd.snd.snd.snd.snd.fst, v.snd.snd.snd.snd.snd.snd)).fst.snd.snd.snd.length ≤
                    (1000000 : Nat) ∧
                  (fSame
                          ((fNext (l.fst, l.snd.fst, l.snd.snd.fst, l.snd.snd.snd) (v.fst, v.snd.fst, v.snd.snd.fst, v.snd.snd.snd.fst, v.snd.snd.snd.snd.fst, v.snd.snd.snd.snd.snd.fst, v.snd.snd.snd.snd.snd.snd)).fst.fst,
                            (fNext (l.fst, l.snd.fst, l.snd.snd.fst, l.snd.snd.snd) (v.fst, v.snd.fst, v.snd.snd.fst, v.snd.snd.snd.fst, v.snd.snd.snd.snd.fst, v.snd.snd.snd.snd.snd.fst, v.snd.snd.snd.snd.snd.snd)).fst.snd.fst,
                            (fNext (l.fst, l.snd.fst, l.snd.snd.fst, l.snd.snd.snd)
                                      (v.fst, v.snd.fst, v.snd.snd.fst, v.snd.snd.snd.fst, v.snd.snd.snd.snd.fst, v.snd.snd.snd.snd.snd.fst, v.snd.snd.snd.snd.snd.snd)).fst.snd.snd.fst,
                            (fNext (l.fst, l.snd.fst, l.snd.snd.fst, l.snd.snd.snd)
                                      (v.fst, v.snd.fst, v.snd.snd.fst, v.snd.snd.snd.fst, v.snd.snd.snd.snd.fst, v.snd.snd.snd.snd.snd.fst, v.snd.snd.snd.snd.snd.snd)).fst.snd.snd.snd)
                          ((fNext (l.fst, l.snd.fst, l.snd.snd.fst, l.snd.snd.snd) (v.fst, v.snd.fst, v.snd.snd.fst, v.snd.snd.snd.fst, v.snd.snd.snd.snd.fst, v.snd.snd.snd.snd.snd.fst, v.snd.snd.snd.snd.snd.snd)).fst.fst,
                            (fNext (l.fst, l.snd.fst, l.snd.snd.fst, l.snd.snd.snd) (v.fst, v.snd.fst, v.snd.snd.fst, v.snd.snd.snd.fst, v.snd.snd.snd.snd.fst, v.snd.snd.snd.snd.snd.fst, v.snd.snd.snd.snd.snd.snd)).fst.snd.fst,
                            (fNext (l.fst, l.snd.fst, l.snd.snd.fst, l.snd.snd.snd)
                                      (v.fst, v.snd.fst, v.snd.snd.fst, v.snd.snd.snd.fst, v.snd.snd.snd.snd.fst, v.snd.snd.snd.snd.snd.fst, v.snd.snd.snd.snd.snd.snd)).fst.snd.snd.fst,
                            (fNext (l.fst, l.snd.fst, l.snd.snd.fst, l.snd.snd.snd)
                                      (v.fst, v.snd.fst, v.snd.snd.fst, v.snd.snd.snd.fst, v.snd.snd.snd.snd.fst, v.snd.snd.snd.snd.snd.fst, v.snd.snd.snd.snd.snd.snd)).fst.snd.snd.snd) =
                        true →
                      (fNext (l.fst, l.snd.fst, l.snd.snd.fst, l.snd.snd.snd) (v.fst, v.snd.fst, v.snd.snd.fst, v.snd.snd.snd.fst, v.snd.snd.snd.snd.fst, v.snd.snd.snd.snd.snd.fst, v.snd.snd.snd.snd.snd.snd)).snd.length ≤
                        (1000000 : Nat)) ∧
                    (bif
                            fSame
                              ((fNext (l.fst, l.snd.fst, l.snd.snd.fst, l.snd.snd.snd) (v.fst, v.snd.fst, v.snd.snd.fst, v.snd.snd.snd.fst, v.snd.snd.snd.snd.fst, v.snd.snd.snd.snd.snd.fst, v.snd.snd.snd.snd.snd.snd)).fst.fst,
                                (fNext (l.fst, l.snd.fst, l.snd.snd.fst, l.snd.snd.snd)
                                        (v.fst, v.snd.fst, v.snd.snd.fst, v.snd.snd.snd.fst, v.snd.snd.snd.snd.fst, v.snd.snd.snd.snd.snd.fst, v.snd.snd.snd.snd.snd.snd)).fst.snd.fst,
                                (fNext (l.fst, l.snd.fst, l.snd.snd.fst, l.snd.snd.snd)
                                          (v.fst, v.snd.fst, v.snd.snd.fst, v.snd.snd.snd.fst, v.snd.snd.snd.snd.fst, v.snd.snd.snd.snd.snd.fst, v.snd.snd.snd.snd.snd.snd)).fst.snd.snd.fst,
                                (fNext (l.fst, l.snd.fst, l.snd.snd.fst, l.snd.snd.snd)
                                          (v.fst, v.snd.fst, v.snd.snd.fst, v.snd.snd.snd.fst, v.snd.snd.snd.snd.fst, v.snd.snd.snd.snd.snd.fst, v.snd.snd.snd.snd.snd.snd)).fst.snd.snd.snd)
                              ((fNext (l.fst, l.snd.fst, l.snd.snd.fst, l.snd.snd.snd) (v.fst, v.snd.fst, v.snd.snd.fst, v.snd.snd.snd.fst, v.snd.snd.snd.snd.fst, v.snd.snd.snd.snd.snd.fst, v.snd.snd.snd.snd.snd.snd)).fst.fst,
                                (fNext (l.fst, l.snd.fst, l.snd.snd.fst, l.snd.snd.snd)
                                        (v.fst, v.snd.fst, v.snd.snd.fst, v.snd.snd.snd.fst, v.snd.snd.snd.snd.fst, v.snd.snd.snd.snd.snd.fst, v.snd.snd.snd.snd.snd.snd)).fst.snd.fst,
                                (fNext (l.fst, l.snd.fst, l.snd.snd.fst, l.snd.snd.snd)
                                          (v.fst, v.snd.fst, v.snd.snd.fst, v.snd.snd.snd.fst, v.snd.snd.snd.snd.fst, v.snd.snd.snd.snd.snd.fst, v.snd.snd.snd.snd.snd.snd)).fst.snd.snd.fst,
                                (fNext (l.fst, l.snd.fst, l.snd.snd.fst, l.snd.snd.snd)
                                          (v.fst, v.snd.fst, v.snd.snd.fst, v.snd.snd.snd.fst, v.snd.snd.snd.snd.fst, v.snd.snd.snd.snd.snd.fst, v.snd.snd.snd.snd.snd.snd)).fst.snd.snd.snd) then
                          (fNext (l.fst, l.snd.fst, l.snd.snd.fst, l.snd.snd.snd) (v.fst, v.snd.fst, v.snd.snd.fst, v.snd.snd.snd.fst, v.snd.snd.snd.snd.fst, v.snd.snd.snd.snd.snd.fst, v.snd.snd.snd.snd.snd.snd)).snd ==
                            (fNext (l.fst, l.snd.fst, l.snd.snd.fst, l.snd.snd.snd) (v.fst, v.snd.fst, v.snd.snd.fst, v.snd.snd.snd.fst, v.snd.snd.snd.snd.fst, v.snd.snd.snd.snd.snd.fst, v.snd.snd.snd.snd.snd.snd)).snd
                        else false) =
                        true ∧
                      True))) := by kernel_rfl

theorem b3 (l : LifeD) (v : ViewD) : bodyVC (ctxOf tab [(9, c9), (10, c10), (11, c11), (12, c12), (13, c13), (14, c14)]) Try.f3 c3 noAnn (l, v, ()) := by
  rw [v3]
  have e1 : (l.fst, l.snd.fst, l.snd.snd.fst, l.snd.snd.snd) = l := rfl
  have e2 : (v.fst, v.snd.fst, v.snd.snd.fst, v.snd.snd.snd.fst, v.snd.snd.snd.snd.fst, v.snd.snd.snd.snd.snd.fst, v.snd.snd.snd.snd.snd.snd) = v := rfl
  have e3 : ((fNext l v).fst.fst, (fNext l v).fst.snd.fst, (fNext l v).fst.snd.snd.fst, (fNext l v).fst.snd.snd.snd) = (fNext l v).fst := rfl
  simp only [e1, e2, e3]
  obtain ⟨k1, k2⟩ := fNext_lens l v
  refine ⟨trivial, fun h => (by cases h), fun _ => ⟨fun _ => ⟨trivial, trivial⟩, fun h => ?_⟩⟩
  simp only [Bool.cond_true_left, Bool.or_eq_false_iff, decide_eq_false_iff_not] at h
  have q1 : l.2.2.2.length ≤ 40 := by omega
  have q2 : v.1.length ≤ 40 := by omega
  refine ⟨⟨by omega, by omega⟩, trivial, ⟨by omega, by omega⟩, by omega, fun _ => by omega, ?_, trivial⟩
  rw [fSame_refl]
  simp

theorem ok3 : DOk Try.prog 3 c3 :=
  DOk.of' (l := [(9, c9), (10, c10), (11, c11), (12, c12), (13, c13), (14, c14)]) (wraps := []) (A := fun _ => noAnn) tabOk ⟨ok9, ok10, ok11, ok12, ok13, ok14, trivial⟩ Try.func3 (by kernel_rfl) (by kernel_rfl) fun x _ _ => b3 x.1 x.2.1

end Ytpjgggcaamigdaa
end Go.Proofs
