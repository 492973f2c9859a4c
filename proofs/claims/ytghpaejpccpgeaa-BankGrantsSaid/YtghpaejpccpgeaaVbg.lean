/-
  The reference's order.
-/
import Derived.Test.YtghpaejpccpgeaaVbf
set_option maxRecDepth 100000
set_option linter.unusedVariables false
set_option linter.unusedSimpArgs false
set_option maxHeartbeats 1000000
namespace Go.Proofs
open Go Go.Vc
namespace Ytghpaejpccpgeaa

theorem OrdOk.elig {l left : List ClaimD} {s : Nat} {gone : List Bool} {out : List Int} (h : OrdOk l s left gone out) {k : Nat} (hk : k < l.length) : fEligO left out k = fElig left gone k := by
  unfold fEligO fElig
  have := h.ins k hk
  have : gone.getD k true = out.contains (k : Int) := by
    rw [Bool.eq_iff_iff, List.contains_iff_mem]
    exact this
  rw [this]

theorem OrdOk.any_elig {l left : List ClaimD} {s : Nat} {gone : List Bool} {out : List Int} (h : OrdOk l s left gone out) {k : Nat} (hk : k ≤ l.length) (h0 : (List.range k).any (fEligO left out) = false) : (List.range k).any (fElig left gone) = false := by
  rw [List.any_eq_false] at h0 ⊢
  intro j hj
  rw [← h.elig (by have := List.mem_range.1 hj; omega)]
  exact h0 j hj

theorem nextO_eq {l : List ClaimD} {out : List Int} {k : Nat} (hk : k < l.length) (h : (List.range k).any (fEligO l out) = false) (h1 : fEligO l out k = true) : fNextO l out = k := by
  unfold fNextO
  rw [List.findIdx_eq (by simpa using hk)]
  refine ⟨by simpa using h1, fun j hj => ?_⟩
  rw [List.any_eq_false] at h
  have := h j (List.mem_range.2 hj)
  simpa using this

theorem OrdOk.nextO {l left : List ClaimD} {s : Nat} {gone : List Bool} {out : List Int} (h : OrdOk l s left gone out) (hn : fNextO left out < l.length) : fNext left gone = fNextO left out ∧ gone.getD (fNextO left out) true = false := by
  have h2 : fEligO left out (fNextO left out) = true := by
    have hlt : (List.range left.length).findIdx (fEligO left out) < (List.range left.length).length := by rw [List.length_range]; show fNextO left out < left.length; rw [h.ll]; exact hn
    have := List.findIdx_getElem (p := fEligO left out) (xs := List.range left.length) (w := hlt)
    rw [List.getElem_range] at this
    exact this
  have h3 : (List.range (fNextO left out)).any (fEligO left out) = false := by
    rw [List.any_eq_false]
    intro j hj
    have hj := List.mem_range.1 hj
    have := List.not_of_lt_findIdx (p := fEligO left out) (xs := List.range left.length) hj
    rw [List.getElem_range] at this
    intro hc
    rw [hc] at this
    cases this
  have h4 := h2
  rw [h.elig hn] at h4
  refine ⟨next_eq (by rw [h.ll]; exact hn) (h.any_elig (by omega) h3) h4, ?_⟩
  unfold fElig at h4
  rw [Bool.and_eq_true] at h4
  simpa using h4.1

theorem v15 (l : List (List Int × List (List Int × Int))) : bodyVC (ctxOf tab [(36, c36), (23, c23)]) Try.f15 c15 (a15 (l, ())) (l, ()) = (
roomFor ((List.replicate (0 : Nat) (([], []) : List Int × List (List Int × Int))).length + l.length) (48 : Nat) ∧
(∃ (s01 : Nat × List ClaimD × List Bool × List Int),
OrdOk l s01.fst s01.snd.fst s01.snd.snd.fst s01.snd.snd.snd ∧ s01.snd.fst = List.replicate (0 : Nat) ([], []) ++ l ∧ s01.snd.snd.snd = [] ∧ True) ∧
∀ (s1 : Nat × List ClaimD × List Bool × List Int),
lett (decide ((↑s1.snd.snd.snd.length : Int) < (↑s1.snd.fst.length : Int))) fun (y2 : Bool) =>
OrdOk l s1.fst s1.snd.fst s1.snd.snd.fst s1.snd.snd.snd →
(y2 = true →
(∃ (s03 : Nat × Bool),
RefIn l.length s1.snd.fst s1.snd.snd.snd s03.fst s03.snd ∧
s03.snd = false ∧ (↑s03.fst : Int) = (0 : Int) ∧ fLeftO s1.snd.fst s1.snd.snd.snd s03.snd = s1.snd.fst ∧ fOutO s1.snd.fst s1.snd.snd.snd s03.snd = s1.snd.snd.snd ∧ True) ∧
∀ (s3 : Nat × Bool),
lett (fLeftO s1.snd.fst s1.snd.snd.snd s3.snd) fun (y4 : List ClaimD) =>
lett (bif decide ((↑s3.fst : Int) < (↑y4.length : Int)) then !s3.snd else false) fun (y5 : Bool) =>
lett (fOutO s1.snd.fst s1.snd.snd.snd s3.snd) fun (y6 : List Int) =>
lett (!y6.contains (↑s3.fst : Int)) fun (y7 : Bool) =>
lett (bif y7 then fCan y4 (↑s3.fst : Int).toNat else false) fun (y8 : Bool) =>
lett ((List.replicate (1 : Nat) (0 : Int)).set (0 : Nat) (↑s3.fst : Int)) fun (y9 : List Int) =>
RefIn l.length s1.snd.fst s1.snd.snd.snd s3.fst s3.snd →
(y5 = true →
short y6 ∧
(y7 = true → shortL y4 ∧ InB (↑s3.fst : Int) y4.length) ∧
(y8 = true →
roomFor (y6.length + y9.length) (8 : Nat) ∧
InB (↑s3.fst : Int) y4.length ∧
InR IntKind.i64 ((↑s3.fst : Int) + (1 : Int)) ∧
∃ (s'10 : Nat × Bool),
RefIn l.length s1.snd.fst s1.snd.snd.snd s'10.fst s'10.snd ∧
l.length - s'10.fst < l.length - s3.fst ∧
s'10.snd = true ∧
(↑s'10.fst : Int) = (↑s3.fst : Int) + (1 : Int) ∧
fLeftO s1.snd.fst s1.snd.snd.snd s'10.snd = y4.set (↑s3.fst : Int).toNat ([], []) ∧
fOutO s1.snd.fst s1.snd.snd.snd s'10.snd = y6 ++ y9 ∧ True) ∧
(y8 = false →
InR IntKind.i64 ((↑s3.fst : Int) + (1 : Int)) ∧
∃ (s'10 : Nat × Bool),
RefIn l.length s1.snd.fst s1.snd.snd.snd s'10.fst s'10.snd ∧
l.length - s'10.fst < l.length - s3.fst ∧
s'10.snd = s3.snd ∧
(↑s'10.fst : Int) = (↑s3.fst : Int) + (1 : Int) ∧
fLeftO s1.snd.fst s1.snd.snd.snd s'10.snd = y4 ∧ fOutO s1.snd.fst s1.snd.snd.snd s'10.snd = y6 ∧ True)) ∧
(y5 = false →
((!s3.snd) = true → [] = (fOrder l).getD [] ∧ false = (fOrder l).isSome ∧ True) ∧
((!s3.snd) = false →
∃ (s'10 : Nat × List ClaimD × List Bool × List Int),
OrdOk l s'10.fst s'10.snd.fst s'10.snd.snd.fst s'10.snd.snd.snd ∧
l.length - s'10.fst < l.length - s1.fst ∧ s'10.snd.fst = y4 ∧ s'10.snd.snd.snd = y6 ∧ True))) ∧
(y2 = false → s1.snd.snd.snd = (fOrder l).getD [] ∧ true = (fOrder l).isSome ∧ True)) := by kernel_rfl

theorem b15 (l : List ClaimD) (hm : fMay l = true) : bodyVC (ctxOf tab [(36, c36), (23, c23)]) Try.f15 c15 (a15 (l, ())) (l, ()) := by
  have h8 : l.length ≤ 8 := (fMay_iff.1 hm).1
  rw [v15]
  simp only [true_and, and_true, Int.toNat_natCast]
  refine ⟨room (by simp; omega) (by omega), ⟨(0, l, List.replicate l.length false, []), OrdOk.start hm, rfl, rfl⟩, ?_⟩
  rintro ⟨s, left, gone, out⟩
  refine lett.mk fun y2 e2 => ?_
  intro hO
  simp only at hO e2 ⊢
  have hll := hO.ll
  have hlo := hO.lo
  have hn := hO.n
  refine ⟨fun h2 => ⟨⟨(0, false), ⟨by omega, fun _ => by simp, fun h => by cases h⟩, rfl, rfl, rfl, rfl⟩, ?_⟩, fun h2 => ?_⟩
  · have hs := lt_of_y e2 h2
    rintro ⟨k, found⟩
    refine lett.mk fun y4 e4 => lett.mk fun y5 e5 => lett.mk fun y6 e6 => lett.mk fun y7 e7 => lett.mk fun y8 e8 => lett.mk fun y9 e9 => ?_
    intro hR
    simp only at hR e4 e5 e6 e7 e8 e9 ⊢
    have hkn := hR.kn
    have h4l : y4.length = l.length := by rw [e4]; unfold fLeftO; cases found <;> simp [hll]
    refine ⟨fun h5 => ?_, fun h5 => ⟨fun hf => ?_, fun hf => ?_⟩⟩
    · have hf : found = false ∧ k < l.length := by
        rw [e5] at h5
        cases hd : decide ((k : Int) < (y4.length : Int)) <;> rw [hd] at h5
        · cases h5
        · have := of_decide_eq_true hd
          exact ⟨by simpa using h5, by omega⟩
      obtain ⟨hf, hk⟩ := hf
      subst hf
      have e4 : y4 = left := e4
      have e6 : y6 = out := e6
      have e9 : y9 = [(k : Int)] := e9
      have h8' : y8 = fEligO left out k := by
        rw [e8, e7, e4, e6]
        unfold fEligO
        cases out.contains (k : Int) <;> rfl
      have hno := hR.no rfl
      have hS := may_short hO.may
      refine ⟨by rw [e6]; show out.length ≤ 1000000; omega, fun _ => ⟨by rw [e4]; exact hS, by omega, by omega⟩, fun h => ?_, fun h => ?_⟩
      · rw [h8'] at h
        have hnx := nextO_eq (by omega) hno h
        refine ⟨room (by rw [e6, e9]; simp; omega) (by omega), ⟨by omega, by omega⟩, inR64 (by omega) (by omega), (k + 1, true), ⟨by show k + 1 ≤ _; omega, (fun h => by cases h), fun _ => by rw [hnx]; exact hk⟩, by show _ - (k + 1) < _; omega, rfl, by show ((k + 1 : Nat) : Int) = _; omega, ?_, ?_⟩
        · show left.set (fNextO left out) zeroC = _
          rw [hnx, e4]; rfl
        · show out ++ [(fNextO left out : Int)] = _
          rw [hnx, e6, e9]
      · rw [h8'] at h
        refine ⟨inR64 (by omega) (by omega), (k + 1, false), ⟨by show k + 1 ≤ _; omega, fun _ => ?_, (fun h => by cases h)⟩, by show _ - (k + 1) < _; omega, rfl, by show ((k + 1 : Nat) : Int) = _; omega, e4.symm, e6.symm⟩
        rw [List.range_succ, List.any_append, hno]
        simpa using h
    · have hf : found = false := by simpa using hf
      subst hf
      have hk : k = l.length := by
        rw [e5] at h5
        cases hd : decide ((k : Int) < (y4.length : Int)) <;> rw [hd] at h5
        · have := of_decide_eq_false hd
          omega
        · simp at h5
      have hno := hR.no rfl
      rw [hk] at hno
      have := hO.stuck (by omega) (next_none (by rw [hll]; exact hO.any_elig (Nat.le_refl _) hno))
      rw [this]
      exact ⟨rfl, rfl⟩
    · have hf : found = true := by simpa using hf
      subst hf
      obtain ⟨g1, g2⟩ := hO.nextO (hR.yes rfl)
      have hst := hO.step (by omega) (by rw [g1, hll]; exact hR.yes rfl) (by rw [g1]; exact g2)
      refine ⟨(s + 1, _, _, _), hst, by show _ - (s + 1) < _; omega, ?_, ?_⟩
      · rw [g1, e4]; rfl
      · rw [g1, e6]; rfl
  · have hs := le_of_y e2 h2
    rw [hO.done (by omega)]
    exact ⟨rfl, rfl⟩

theorem ok15 : DOk Try.prog 15 c15 :=
  DOk.of' (l := [(36, c36), (23, c23)]) (A := a15) tabOk ⟨ok36, ok23, trivial⟩ Try.func15 (by kernel_rfl) (by kernel_rfl) fun x _ hp => b15 x.1 hp

end Ytghpaejpccpgeaa
end Go.Proofs
