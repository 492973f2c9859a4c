/-
  The notes: which bodies may be.
-/
import Derived.Test.YtjmmamlipkbckaaVnd
set_option maxRecDepth 100000
set_option linter.unusedVariables false
set_option linter.unusedSimpArgs false
set_option maxHeartbeats 1000000
namespace Go.Proofs
open Go Go.Vc
namespace Ytjmmamlipkbckaa

theorem v23 (b : Int × List (Int × Int) × Int × Int × Int) : bodyVC (ctxOf tab [(38, c38)]) Try.f23 c23 (a23 (b, ())) (b, ()) = (
lett (decide ((↑b.snd.fst.length : Int) > (5000 : Int))) fun (y1 : Bool) =>
lett (bif y1 then true else !fIn (1 : Int) (4 : Int) b.fst) fun (y2 : Bool) =>
lett (bif y2 then true else !fIn (0 : Int) (4000 : Int) b.snd.snd.fst) fun (y3 : Bool) =>
lett (bif y3 then true else !fIn (0 : Int) (4000 : Int) b.snd.snd.snd.fst) fun (y4 : Bool) =>
lett (bif y4 then true else !fIn (0 : Int) (60 : Int) b.snd.snd.snd.snd) fun (y5 : Bool) =>
(y1 = false → True) ∧
(y2 = false → True) ∧
(y3 = false → True) ∧
(y4 = false → True) ∧
(y5 = true → false = fBody b ∧ True) ∧
(y5 = false →
(∃ (s06 : Nat),
(s06 ≤ b.snd.fst.length ∧ (List.take s06 b.snd.fst).all fPort = true) ∧
(↑s06 : Int) = (0 : Int) ∧ b.snd.fst = b.snd.fst ∧ (↑b.snd.fst.length : Int) = (↑b.snd.fst.length : Int) ∧ True) ∧
∀ (s6 : Nat),
lett (decide ((↑s6 : Int) < (↑b.snd.fst.length : Int))) fun (y7 : Bool) =>
lett (b.snd.fst.getD (↑s6 : Int).toNat ((0 : Int), (0 : Int))) fun (y8 : Int × Int) =>
lett (!fIn (0 : Int) (39 : Int) y8.fst) fun (y9 : Bool) =>
lett (bif y9 then true else !fIn (0 : Int) (3 : Int) y8.snd) fun (y10 : Bool) =>
s6 ≤ b.snd.fst.length ∧ (List.take s6 b.snd.fst).all fPort = true →
(y7 = true →
InB (↑s6 : Int) b.snd.fst.length ∧
True ∧
(y9 = false → True) ∧
(y10 = true → false = fBody b ∧ True) ∧
(y10 = false →
InR IntKind.i64 ((↑s6 : Int) + (1 : Int)) ∧
∃ (s'11 : Nat),
(s'11 ≤ b.snd.fst.length ∧ (List.take s'11 b.snd.fst).all fPort = true) ∧
b.snd.fst.length - s'11 < b.snd.fst.length - s6 ∧
(↑s'11 : Int) = (↑s6 : Int) + (1 : Int) ∧ b.snd.fst = b.snd.fst ∧ (↑b.snd.fst.length : Int) = (↑b.snd.fst.length : Int) ∧ True)) ∧
(y7 = false → true = fBody b ∧ True))) := by kernel_rfl

theorem b23 (b : BodyD) : bodyVC (ctxOf tab [(38, c38)]) Try.f23 c23 (a23 (b, ())) (b, ()) := by
  rw [v23]
  refine lett.mk fun y1 e1 => lett.mk fun y2 e2 => lett.mk fun y3 e3 => lett.mk fun y4 e4 => lett.mk fun y5 e5 => ?_
  have hd : y1 = !decide (b.2.1.length ≤ 5000) := by
    rw [e1]
    by_cases h : b.2.1.length ≤ 5000
    · have : ¬ (b.2.1.length : Int) > 5000 := by omega
      simp [h, this]
    · have : (b.2.1.length : Int) > 5000 := by omega
      simp [h, this]
  have hB : fBody b = (!y5 && b.2.1.all fPort) := by
    rw [e5, e4, e3, e2, hd]
    unfold fBody
    cases decide (b.2.1.length ≤ 5000) <;> cases fIn 1 4 b.1 <;> cases fIn 0 4000 b.2.2.1 <;> cases fIn 0 4000 b.2.2.2.1 <;> cases fIn 0 60 b.2.2.2.2 <;> rfl
  simp only [true_and, and_true]
  refine ⟨fun _ => trivial, fun _ => trivial, fun _ => trivial, fun _ => trivial, fun h => by rw [hB, h]; rfl, fun h5 => ⟨⟨0, ⟨by omega, by simp⟩, rfl⟩, fun s => lett.mk fun y7 e7 => lett.mk fun y8 e8 => lett.mk fun y9 e9 => lett.mk fun y10 e10 => ?_⟩⟩
  rintro ⟨h1, h2⟩
  rw [Int.toNat_natCast] at e8
  have hl : b.2.1.length ≤ 5000 := by
    cases hx : decide (b.2.1.length ≤ 5000) with
    | true => exact of_decide_eq_true hx
    | false =>
      rw [hx] at hd
      rw [hd] at e2
      rw [e2] at e3
      rw [e3] at e4
      rw [e4] at e5
      rw [h5] at e5
      cases e5
  have hp : fPort y8 = !y10 := by
    rw [e10, e9]
    unfold fPort
    cases fIn 0 39 y8.1 <;> cases fIn 0 3 y8.2 <;> rfl
  refine ⟨fun hs => ?_, fun hs => ?_⟩
  · have hs := lt_of_y e7 hs
    refine ⟨⟨by omega, by omega⟩, fun _ => trivial, fun h => ?_, fun h => ⟨inR64 (by omega) (by omega), s + 1, ⟨by omega, ?_⟩, by omega, by omega⟩⟩
    · rw [hB, all_no ((0 : Int), (0 : Int)) hs (by rw [← e8, hp, h]; rfl), Bool.and_false]
    · exact all_succ ((0 : Int), (0 : Int)) hs h2 (by rw [← e8, hp, h]; rfl)
  · rw [hB, h5, all_full (le_of_y e7 hs) h2]
    rfl

theorem ok23 : DOk Try.prog 23 c23 :=
  DOk.of' (l := [(38, c38)]) (A := a23) tabOk ⟨ok38, trivial⟩ Try.func23 (by kernel_rfl) (by kernel_rfl) fun x _ hp => b23 x.1

end Ytjmmamlipkbckaa
end Go.Proofs
